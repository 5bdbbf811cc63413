/- The contract of amanuensislaw06.metaOf. -/
import Derived.Test.YtbjlnngjdpnlaaaU3
import Derived.Test.YtbjlnngjdpnlaaaBA
import Derived.Test.YtbjlnngjdpnlaaaBI
import Derived.Deep.RegionLaw
namespace Go.Proofs.Ytbjlnngjdpnlaaa
open Go.RowKit Go.Shelf
set_option linter.unusedVariables false
set_option linter.unusedSimpArgs false

def varsT (l : List Int) : List Tm := l.map fun h => ⟨4, h, []⟩
theorem varsT_len (l : List Int) : (varsT l).length = l.length := by simp [varsT]
theorem varsT_snoc {l : List Int} {i : Nat} (h : i < l.length) : varsT (l.take i) ++ [⟨4, l[i], []⟩] = varsT (l.take (i + 1)) := by
  unfold varsT; rw [List.take_add_one, List.map_append]; simp [h]

def S2 (S : Nat → Prop) (g : Nat) : Nat → Prop := fun k => S k ∨ (g ≤ k ∧ k ≤ g + 1)
structure MoRel (S : Nat → Prop) (l : List Int) (w : World) (i : Nat) (wr : World) : Prop where
  le : i ≤ l.length
  below : Below w.heap.size w wr
  b0 : Blk wr w.heap.size #[.int .i64 0, .int .i64 0, .slice none 0 0] 24
  out : ∃ v, Blk wr (w.heap.size + 1) #[.int .i64 6, .int .i64 0, v] 24 ∧ Mine w.heap.size (S2 S w.heap.size) wr v (varsT (l.take i))

set_option maxHeartbeats 8000000 in
theorem metaOf_calls (S : Nat → Prop) (l : List Int) (A : Option Addr) (c : Nat) (w : World) (hS : ∀ k, S k → k < w.heap.size) (hr : RdI (fun _ => False) w A l) (hll : l.length ≤ 1048576) :
    Calls Try.prog 12 #[.slice A l.length c] w (RetU S ⟨6, 0, varsT l⟩ w) := by
  have HSS := Lib.hid hS
  have hb0 : Below w.heap.size w ((w.alloc (.cells #[.int .i64 0, .int .i64 0, .slice none 0 0] 24)).alloc (.cells #[.int .i64 6, .int .i64 0, .slice none 0 0] 24)) := bl_alloc (bl_alloc (Below.refl _ _) _) _
  have hrel0 : MoRel S l w 0 ((w.alloc (.cells #[.int .i64 0, .int .i64 0, .slice none 0 0] 24)).alloc (.cells #[.int .i64 6, .int .i64 0, .slice none 0 0] 24)) := ⟨Nat.zero_le _, hb0, (Blk.nw _ _ _ _ rfl).al _, _, Blk.nw _ _ _ _ (by simp), by simpa [varsT] using Mine.nil w.heap.size (S2 S w.heap.size) _⟩
  have HR0 := Lib.hid hrel0
  clear hS hb0 hrel0
  go_enter Try.func12, Try.ntmps12
  go_wp2_with fail
  go_loopw [4] (fun j wr => ∃ i : Nat, j = .int .i64 i ∧ MoRel S l w i wr) (fun j _ => l.length - (intOf j).toNat)
  case atStart => exact ⟨0, rfl, HR0.out⟩
  case round =>
    clear HR0
    obtain ⟨i, rfl, hrel⟩ := hrel
    obtain ⟨v, hbk, hmine⟩ := hrel.out
    have hbw := hrel.below
    have HB0 := Lib.hid hrel.b0
    by_cases hlt : i < l.length
    · have HM := Lib.hid hmine
      have HBK := Lib.hid hbk
      have p2 := hbk.cell 2
      have f2 := hbk.frozen 2
      have hbl := hbk.lt
      obtain ⟨ad, rfl, -, c0⟩ := (hr.mov hbw).2 i hlt
      have hcl := World.block_lt_of_cell? wr _ c0
      have hcl0 : ad.block < wr.heap.size := by simpa [add_block] using hcl
      have HL : Hid ((varsT (l.take i)).length = i) := Lib.hid (by rw [varsT_len]; simp; omega)
      clear hrel hmine hbk
      go_upto_region 5 with fail
      go_region_law
        (first
          | (refine step_append_tms rfl (.tmp 13) (.tmp 19) rfl w.heap.size (S2 S w.heap.size) v (varsT (l.take i)) [⟨4, l[i], []⟩] (some ⟨wr.heap.size, 0, none⟩) 1 (by rfl) (by rfl) (HM.out.mov (bl_alloc (Below.refl _ _) _).drew) (reads_one (t := ⟨4, l[i], []⟩) (Blk.drew (Blk.nw wr _ _ _ rfl)) (fun q => by (rcases q with (q | q) | q; (have h1 := HSS.out _ q; have h2 := hbw.size; omega); omega; (have h1 := HM.out.lt _ q; omega))) (.nil _) (Nat.le_refl _)) (fun k q => by (simp only [World.size_drew, World.size_alloc]; rcases q with q | q; (have h1 := HSS.out _ q; have h2 := hbw.size; omega); omega)) (by (have h2 := hbw.size; simp only [World.size_drew, World.size_alloc]; omega)) (by have h1 := HL.out; simp only [List.length_cons, List.length_nil]; unfold lim; omega) ?_
             intro v1 w4 hm1 hg1 hat1; rw [varsT_snoc hlt] at hm1; clear hat1; obtain ⟨A1, c1, rfl⟩ := hm1.slice
             have hz : Blk w4 (w.heap.size + 1) #[.int .i64 6, .int .i64 0, v] 24 := (Blk.drew (HBK.out.al (.cells #[.int .i64 4, .int .i64 l[i], .slice none 0 0] 24))).grown hg1 (fun e => HM.out.2.1 _ e.symm (.inr ⟨Nat.le_succ _, by omega⟩))
             have z2 := hz.cell 2
             have g2 := hz.frozen 2
             have HZ := Lib.hid hz
             clear hz
             have hs4 : Below w.heap.size w w4 := bl_grown (bl_alloc hbw (.cells #[.int .i64 4, .int .i64 l[i], .slice none 0 0] 24)).drew hg1 (fun k e => HM.out.ge k e)))
      all_goals
        go_wp2_with fail
        have hx : Blk (w4.setCell ⟨w.heap.size + 1, 2, none⟩ (.slice A1 (varsT (l.take (i + 1))).length c1)) w.heap.size #[.int .i64 0, .int .i64 0, .slice none 0 0] 24 :=
          ((Blk.drew (HB0.out.al (.cells #[.int .i64 4, .int .i64 l[i], .slice none 0 0] 24))).grown hg1 (fun e => HM.out.2.1 _ e.symm (.inr ⟨Nat.le_refl _, by omega⟩))).far (p := ⟨w.heap.size + 1, 2, none⟩) (by show w.heap.size ≠ w.heap.size + 1; omega) _
        exact ⟨⟨i + 1, by go_num, hlt, bl_set hs4 (p := ⟨w.heap.size + 1, 2, none⟩) (Nat.le_succ _) _, hx, _, HZ.out.set 2 _, hm1.set (p := ⟨w.heap.size + 1, 2, none⟩) (.inr ⟨Nat.le_succ _, Nat.le_refl _⟩) _⟩, by simp [intOf]; omega⟩
    · obtain rfl : i = l.length := by have := hrel.le; omega
      rw [List.take_length] at hmine
      obtain ⟨B, d, rfl, hd2, hrd⟩ := hmine.reads
      have p0 := hbk.cell 0
      have p1 := hbk.cell 1
      have p2 := hbk.cell 2
      have q0 := HB0.out.cell 0
      have q1 := HB0.out.cell 1
      have q2 := HB0.out.cell 2
      have y0 := HB0.out.frozen 0
      have y1 := HB0.out.frozen 1
      have y2 := HB0.out.frozen 2
      clear hrel
      go_wp2_with fail
      exact bodyPost_ret (res_tm1 rfl _ _ _ _ _ _ rfl (HB0.out.set3 _ _ _)) rfl ⟨bl_set3 hbw (Nat.le_refl _), B, d, rfl, hd2, (hrd.set3 (.inr ⟨Nat.le_refl _, by omega⟩)).less (fun k q => .inl q)⟩
end Go.Proofs.Ytbjlnngjdpnlaaa
