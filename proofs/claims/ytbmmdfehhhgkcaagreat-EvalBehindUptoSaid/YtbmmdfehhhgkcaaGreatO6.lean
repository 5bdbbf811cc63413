/- The contract of occur.sorted. -/
import Derived.Test.YtbmmdfehhhgkcaaGreatO5
import Derived.Test.YtbmmdfehhhgkcaaGreatSH
import Derived.Maps.RangeWalk
import Derived.WalkKit
namespace Go.Proofs.YtbmmdfehhhgkcaaGreat
open Go.RowKit Go.Shelf Go.Maps

/-- Whole numbers collected so far. -/
def CollI (D0 : DataW Unit) (left : Lit → Bool) (xs : List Int) : Prop := xs.Nodup ∧ ∀ x, x ∈ xs ↔ (has D0 (.int .i64 x) = true ∧ left (.int .i64 x) = false)
theorem CollI.start (D0 : DataW Unit) : CollI D0 (has D0) [] := ⟨List.nodup_nil, fun x => by cases has D0 (.int .i64 x) <;> simp⟩
theorem CollI.step {D0 : DataW Unit} {left : Lit → Bool} {xs : List Int} (h : CollI D0 left xs) {x : Int} {y : DataW Unit} (hlk : left (.int .i64 x) = true) (hat : ∀ zd, D0.atKey (.int .i64 x) zd = y) :
    CollI D0 (fun z => left z && !z.sameKey (.int .i64 x)) (xs ++ [x]) := by
  have hx : x ∉ xs := fun q => by rw [((h.2 x).1 q).2] at hlk; cases hlk
  refine ⟨List.nodup_append.2 ⟨h.1, by simp, fun a ha b hb => by rw [List.mem_singleton.1 hb]; rintro rfl; exact hx ha⟩, fun z => ?_⟩
  rw [List.mem_append, h.2, List.mem_singleton]
  by_cases e : z = x
  · subst e
    simp [has_true_of_atKey hat, WideAt.sameKey_self (show WideAt.IsKeyLit (.int .i64 z) from trivial)]
  · have : (Lit.int .i64 z).sameKey (.int .i64 x) = false := sameKey_ne (fun q => e (by injection q))
    simp [this, e]

structure SortRel (b : Nat) (D : DataW Unit) (k : Nat) (w : World) (r : Nat) (v : Value) (wr : World) : Prop where
  below : Below w.heap.size w wr
  out : ∃ xs left cnt, MineI (w.heap.size + 1) wr v xs ∧ wr.ranges Tryz.prog 3 (plainElem Tryz.prog 4) b r k D left cnt ∧ CollI D left xs ∧ xs.length + cnt ≤ size D

set_option maxHeartbeats 4000000 in
theorem sorted_calls (b k : Nat) (xs : List Int) (w : World) (hk : HasKeys w b k xs) (hkn : k ≤ limI) :
    Calls Tryz.prog 114 #[.map (some b)] w fun e w' => (∃ l B c, e = .returned (.slice B l.length c) ∧ l.length ≤ c ∧ l.length ≤ k ∧ RdI (fun _ => False) w' B l ∧ Rise l ∧ ∀ x, x ∈ l ↔ x ∈ xs) ∧ Below w.heap.size w w' := by
  obtain ⟨D, hown, hkeys⟩ := hk
  have hsz := hown.size_le
  unfold limI at hkn
  go_enter Tryz.func114, Tryz.ntmps114
  go_wp2_with (at_range; refine wpList_range_own _ rfl _ 153 rfl 3 4 keyedInt Tryz.underlying153 _ b k _ rfl hown ?_; intro w0 hrg0 hg0 hs0)
  go_frame
  have hrel0 : SortRel b D k w w.heap.size (.slice none 0 0) w0 := ⟨bl_grown (Below.refl _ _) hg0 (fun j e => by cases e), [], _, _, MineI.nil _ _, hrg0, CollI.start D, by simp⟩
  have hrel1 := Lib.hid hrel0
  have HK := Lib.hid hkeys
  clear hrel0 hrg0 hg0 hs0 hkeys
  go_loopw [3] (fun v wr => SortRel b D k w w.heap.size v wr) (fun _ wr => wr.rangeLeft b w.heap.size)
  case atStart => exact hrel1.out
  case round =>
    clear hrel1
    obtain ⟨hbw, xs', left, cnt, hmine, hrg, hcoll, hcnt⟩ := hrel
    have hml := hmine.lt
    have hmg := hmine.ge
    have hleft := hrg.left_eq
    have hlen : xs'.length ≤ 17592186044416 := by omega
    go_wp2_with (at_next; refine wpList_next_ranges _ rfl _ rfl 3 keyedInt (plainElem Tryz.prog 4) (Value.int .i64) (fun v : Value => v) (fun key kl hk => by obtain ⟨x, hx, _⟩ := Maps.keyOf_int_inv (q := .i64) (by kernel_rfl) hk; exact ⟨x, hx⟩) (fun v _ _ => ⟨v, rfl⟩) b w.heap.size k _ _ _ rfl hrg ?_ ?_)
    · intro hc0 hl0
      have hmem : ∀ x, x ∈ xs' ↔ x ∈ xs := fun x => by rw [hcoll.2 x, ← HK.out x]; simp [hl0]
      have HMM := Lib.hid hmem
      have HND := Lib.hid hcoll.1
      clear hmem
      rcases hmine.2 with ⟨rfl, hx0⟩ | ⟨g, cap, cur, rfl, hbg, hhg, hcap, hmx, hcs, htk⟩
      · obtain rfl := List.eq_nil_of_length_eq_zero hx0
        go_wp2_with (go_at_call 127; refine (Tryz.slices_Sort_int_none none 0 _).mono ?_; rintro e w3 ⟨rfl, rfl⟩)
        go_ret
        exact ⟨⟨[], none, 0, rfl, Nat.le_refl _, Nat.zero_le _, ⟨Nat.zero_le _, fun i hi => absurd hi (Nat.not_lt_zero i)⟩, List.Pairwise.nil, HMM.out⟩, hbw⟩
      · have hlt := (Array.getElem?_eq_some_iff.1 hhg).1
        have hcell : ∀ j, j < xs'.length → wr.cell? ⟨g, j, none⟩ = some (.int .i64 xs'[j]!) := fun j hj => by
          have := World.ownsRow.cells hmine (g := g) rfl j (.int .i64 xs'[j]!) (by simp [nums, hj])
          rwa [add_plain, Nat.zero_add] at this
        have hH : Go.Sort.Holds (Value.int .i64) wr g 0 xs'.toArray := fun j hj => by
          simp at hj
          refine ⟨by rw [Nat.zero_add, hcell j hj]; simp [hj], ?_⟩
          simp [World.frozen?, hhg]
        go_wp2_with (go_at_call 127; refine (Tryz.slices_Sort_int g 0 cap xs' _ hH hlt (by omega)).mono ?_; rintro e w3 ⟨rfl, n3, os3, hw3⟩)
        go_ret
        have hperm := List.mergeSort_perm xs' (fun x y => decide (x ≤ y))
        have hlenS : (xs'.mergeSort fun x y => decide (x ≤ y)).length = xs'.length := List.length_mergeSort _
        have hsorted : (xs'.mergeSort fun x y => decide (x ≤ y)).Pairwise (fun a b => decide (a ≤ b) = true) := List.pairwise_mergeSort (fun a b c h1 h2 => by simp at h1 h2 ⊢; omega) (fun a b => by simp; omega) xs'
        have hrise : Rise (xs'.mergeSort fun x y => decide (x ≤ y)) := by
          have hnd : (xs'.mergeSort fun x y => decide (x ≤ y)).Nodup := hperm.nodup_iff.2 HND.out
          refine (hsorted.and hnd).imp fun {a b} h => ?_
          have h1 := h.1
          have h2 := h.2
          simp at h1
          omega
        have hsz3 : wr.heap.size ≤ w3.heap.size := by rw [hw3]; simp [Go.Sort.grow, Go.Sort.putRow, Go.Sort.mapBlock, Go.Sort.ahead]
        have hblk3 : ∀ j, j < wr.heap.size → j ≠ g → w3.heap[j]? = wr.heap[j]? := fun j hj hjg => by
          rw [hw3, Go.Sort.heap_grow_old _ _ (by simpa [Go.Sort.putRow, Go.Sort.mapBlock, Go.Sort.ahead] using hj)]
          simp [Go.Sort.putRow, Go.Sort.mapBlock, Go.Sort.ahead, Array.getElem?_modify, Ne.symm hjg]
        rw [← hw3]
        refine ⟨⟨xs'.mergeSort fun x y => decide (x ≤ y), some ⟨g, 0, none⟩, cap, by rw [hlenS]; rfl, by rw [hlenS]; exact hcap, by rw [hlenS]; omega, ⟨by rw [hlenS]; unfold limI; omega, fun i hi => ⟨_, rfl, fun q => q, ?_⟩⟩, hrise, fun x => (hperm.mem_iff).trans (HMM.out x)⟩, ?_⟩
        · rw [add_plain, hw3, Go.Sort.cell?_grow _ _ _ (by simpa [Go.Sort.putRow, Go.Sort.mapBlock, Go.Sort.ahead] using hlt)]
          rw [Go.Sort.cell?_putRow (Value.int .i64) (Go.Sort.ahead wr n3) g 0 xs'.toArray _ hH (by simp [hlenS]) i (by simpa using hi)]
          simp
          rw [List.getElem?_eq_getElem hi]
          rfl
        · have o3 : w3.os = wr.os := by rw [hw3]; rfl
          have t3 : w3.tape = wr.tape := by rw [hw3]; rfl
          have p3 : w3.output = wr.output := by rw [hw3]; rfl
          exact ⟨o3.trans hbw.os, t3.trans hbw.tape, p3.trans hbw.output, Nat.le_trans hbw.size hsz3, fun j hj => (hblk3 j (Nat.lt_of_lt_of_le hj hbw.size) (by omega)).trans (hbw.block j hj)⟩
    · intro x c kl y ps w1 cnt1 hkey hlk hv hat hrg1 hlt hg1 hs1 hen
      obtain ⟨x2, e2, rfl, hwx⟩ := Maps.keyOf_int_inv (q := .i64) (by kernel_rfl) hkey
      obtain rfl : x = x2 := by injection e2
      have hne : ∀ j, u3.ownBlock = some j → j ≠ w.heap.size := fun j e => by have := hmg j e; omega
      have hm1 : MineI (w.heap.size + 1) w1 u3 xs' := hmine.step (fun j e hj => hg1.block j hj (fun q => hne j e (by cases q; rfl)))
      have hrl := hrg.lt
      go_wp2_with (at_builtin; refine append_int rfl _ _ rfl (w.heap.size + 1) u3 xs' x rfl rfl hs1.symm hm1 ?bb ?ll ?_
                   case bb => omega
                   case ll => (unfold limI; omega)
                   intro v1 w2 hm2 hg2 hat2)
      have hb2 : Below w.heap.size w w2 := bl_grown (bl_grown hbw hg1 (fun j e => by cases e; exact Nat.le_refl _)) hg2 (fun j e => by have := hmg j e; omega)
      have hlb := hrg1.owns.lt
      have hrg2 := hrg1.kept hg2 (fun e => by have := hmg b e.symm; have := hown.lt; omega) (fun e => hne _ e.symm rfl)
      have hc2 := hcoll.step (y := y) hlk hat
      refine ⟨⟨hb2, xs' ++ [x], _, cnt1, hm2, hrg2, hc2, by simp; omega⟩, ?_⟩
      rw [hrg2.left_eq, hleft]
      exact hlt
end Go.Proofs.YtbmmdfehhhgkcaaGreat
