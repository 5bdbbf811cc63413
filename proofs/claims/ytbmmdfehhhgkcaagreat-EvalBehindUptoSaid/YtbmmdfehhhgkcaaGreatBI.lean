/- The contracts of slices.Index and slices.Contains at []int. Rows of whole numbers that a call makes itself, by appending. -/
import Derived.Test.YtbmmdfehhhgkcaaGreatF3
namespace Go.Proofs.YtbmmdfehhhgkcaaGreat
open Go.RowKit Go.Shelf

def limI : Nat := 17592186044416
/-- The row at A reads as these whole numbers; its block is none of S. -/
def RdI (S : Nat → Prop) (w : World) (A : Option Addr) (xs : List Int) : Prop :=
  xs.length ≤ limI ∧ ∀ i, (hi : i < xs.length) → ∃ ad : Addr, A = some ad ∧ ¬ S ad.block ∧ w.cell? (ad.add i) = some (.int .i64 xs[i])
theorem RdI.mov {S : Nat → Prop} {w w' : World} {A : Option Addr} {xs : List Int} (h : RdI S w A xs) (hb : Below w.heap.size w w') : RdI S w' A xs :=
  ⟨h.1, fun i hi => by obtain ⟨ad, e, hs, hc⟩ := h.2 i hi; exact ⟨ad, e, hs, cell_mov hc hb⟩⟩
theorem RdI.take {S : Nat → Prop} {w : World} {A : Option Addr} {xs : List Int} (h : RdI S w A xs) (n : Nat) : RdI S w A (xs.take n) :=
  ⟨Nat.le_trans (by simp; omega) h.1, fun i hi => by
    have hi' : i < xs.length := by simp at hi; omega
    obtain ⟨ad, e, hs, hc⟩ := h.2 i hi'
    exact ⟨ad, e, hs, by rw [List.getElem_take]; exact hc⟩⟩

def idxFrom (v : Int) : Nat → List Int → Int
  | _, [] => -1
  | i, x :: l => if v = x then (i : Int) else idxFrom v (i + 1) l
theorem idxFrom_at {v : Int} {xs : List Int} {i : Nat} (hlt : i < xs.length) : idxFrom v i (xs.drop i) = if v = xs[i] then (i : Int) else idxFrom v (i + 1) (xs.drop (i + 1)) := by
  rw [List.drop_eq_getElem_cons hlt, idxFrom]
theorem idxFrom_neg {v : Int} : ∀ (l : List Int) (i : Nat), (idxFrom v i l = -1 ∧ v ∉ l) ∨ (∃ j : Nat, idxFrom v i l = (j : Int) ∧ i ≤ j ∧ j < i + l.length ∧ v ∈ l)
  | [], i => .inl ⟨rfl, by simp⟩
  | x :: l, i => by
    rw [idxFrom]
    by_cases h : v = x
    · rw [if_pos h]
      exact .inr ⟨i, rfl, Nat.le_refl _, by simp, by simp [h]⟩
    · rw [if_neg h]
      rcases idxFrom_neg l (i + 1) with ⟨h1, h2⟩ | ⟨j, h1, h2, h3, h4⟩
      · exact .inl ⟨h1, by simp [h, h2]⟩
      · exact .inr ⟨j, h1, by omega, by simp; omega, by simp [h4]⟩

set_option maxHeartbeats 1000000 in
theorem Index_calls (xs : List Int) (A : Option Addr) (c : Nat) (v : Int) (w : World) (hr : RdI (fun _ => False) w A xs) :
    Calls Tryz.prog 115 #[.slice A xs.length c, .int .i64 v] w fun e w' => e = .returned (.int .i64 (idxFrom v 0 xs)) ∧ Below w.heap.size w w' := by
  have hlen := hr.1
  unfold limI at hlen
  go_enter Tryz.func115, Tryz.ntmps115
  go_wp2
  go_loop [8] (fun j => ∃ (i : Nat), j = .int .i64 i ∧ i ≤ xs.length ∧ Hid (idxFrom v i (xs.drop i) = idxFrom v 0 xs)) (fun j => xs.length - (intOf j).toNat)
  case atStart => exact ⟨0, rfl, Nat.zero_le _, rfl⟩
  case round =>
    obtain ⟨i, rfl, hi, HH⟩ := hrel
    by_cases hlt : i < xs.length
    · obtain ⟨ad, rfl, -, c0⟩ := hr.2 i hlt
      by_cases hv : v = xs[i]
      · have hq : (v == xs[i]) = true := by simpa using hv
        have HV := Lib.hid hv
        clear hv
        go_wp2
        go_ret
        refine ⟨ret_int ?_, Below.refl _ _⟩
        rw [← HH.out, idxFrom_at hlt, if_pos HV.out]
      · have hq : (v == xs[i]) = false := by simpa using hv
        go_wp2
        go_round
        case rel => exact ⟨i + 1, by go_num, hlt, by have := HH.out; rw [idxFrom_at hlt, if_neg hv] at this; exact this⟩
        case measure => simp [intOf]; omega
    · obtain rfl : i = xs.length := by omega
      go_wp2
      go_ret
      refine ⟨ret_int ?_, Below.refl _ _⟩
      rw [← HH.out, List.drop_length]
      rfl

set_option maxHeartbeats 1000000 in
theorem Contains_calls (xs : List Int) (A : Option Addr) (c : Nat) (v : Int) (w : World) (hr : RdI (fun _ => False) w A xs) :
    Calls Tryz.prog 97 #[.slice A xs.length c, .int .i64 v] w fun e w' => e = .returned (.bool (decide (v ∈ xs))) ∧ Below w.heap.size w w' := by
  have hI := Lib.hid (Index_calls xs A c v w hr)
  go_enter Tryz.func97, Tryz.ntmps97
  go_wp2_with (go_at_call 115; refine hI.out.mono ?_; clear hI; rintro e w1 ⟨rfl, hb⟩)
  go_ret
  refine ⟨ret_bool ?_, hb⟩
  rcases idxFrom_neg (v := v) xs 0 with ⟨h1, h2⟩ | ⟨j, h1, _, _, h4⟩
  · rw [h1]; simp [h2]
  · rw [h1]; simp [h4]
end Go.Proofs.YtbmmdfehhhgkcaaGreat
namespace Go.Proofs.YtbmmdfehhhgkcaaGreat
open Go.RowKit Go.Shelf

theorem infoInt : (Tryz.prog.info? 3).map (fun i => (i.zero, i.size, i.bytes)) = some (some (.int .i64 0), 1, 8) := by kernel_rfl

def nums (xs : List Int) : List Value := xs.map (.int .i64 ·)

/-- v is a row of one's own (from block base on) that reads as xs. -/
def MineI (base : Nat) (w : World) (v : Value) (xs : List Int) : Prop := w.ownsRow base 3 1 v xs.length (nums xs)

section
variable {base : Nat} {w w' : World} {v : Value} {xs : List Int}
theorem MineI.nil (base : Nat) (w : World) : MineI base w (.slice none 0 0) [] := ⟨by simp [nums], .inl ⟨rfl, rfl⟩⟩
theorem MineI.lt (h : MineI base w v xs) : ∀ k, v.ownBlock = some k → k < w.heap.size := by
  intro k hk
  rcases h.2 with ⟨rfl, _⟩ | ⟨g, cap, cur, rfl, _, hh, _⟩
  · simp [Value.ownBlock] at hk
  · have : g = k := by simpa [Value.ownBlock] using hk
    subst this
    exact (Array.getElem?_eq_some_iff.1 hh).1
theorem MineI.ge (h : MineI base w v xs) : ∀ k, v.ownBlock = some k → base ≤ k := by
  intro k hk
  rcases h.2 with ⟨rfl, _⟩ | ⟨g, cap, cur, rfl, hb, hh, _⟩
  · simp [Value.ownBlock] at hk
  · have : g = k := by simpa [Value.ownBlock] using hk
    subst this
    exact hb
theorem MineI.step (hb : ∀ k, v.ownBlock = some k → k < w.heap.size → w'.heap[k]? = w.heap[k]?) (h : MineI base w v xs) : MineI base w' v xs := by
  have hlt := h.lt
  refine ⟨h.1, ?_⟩
  rcases h.2 with h4 | ⟨g, cap, cur, rfl, hg, hh, r⟩
  · exact .inl h4
  · exact .inr ⟨g, cap, cur, rfl, hg, (hb g rfl (hlt g rfl)).trans hh, r⟩
theorem MineI.mov (h : MineI base w v xs) (hb : Below w.heap.size w w') : MineI base w' v xs := h.step (fun k _ hk => hb.block k hk)
theorem MineI.slice (h : MineI base w v xs) : ∃ A c, v = .slice A xs.length c := by
  rcases h.2 with ⟨rfl, e⟩ | ⟨g, cap, cur, rfl, _⟩
  · exact ⟨none, 0, by rw [e]⟩
  · exact ⟨_, cap, rfl⟩
theorem MineI.reads (h : MineI base w v xs) (hl : xs.length ≤ limI) : ∃ A c, v = .slice A xs.length c ∧ xs.length ≤ c ∧ RdI (fun _ => False) w A xs := by
  rcases h.2 with ⟨rfl, e⟩ | ⟨g, cap, cur, rfl, hg, hh, hcap, hm, hsz, htake⟩
  · obtain rfl := List.eq_nil_of_length_eq_zero e
    exact ⟨none, 0, rfl, by simp, Nat.zero_le _, fun i hi => absurd hi (Nat.not_lt_zero i)⟩
  · refine ⟨_, cap, rfl, hcap, hl, fun i hi => ⟨_, rfl, fun q => q, ?_⟩⟩
    exact World.ownsRow.cells h (g := g) rfl i _ (by simp [nums, List.getElem?_eq_getElem hi])
end

/-- 'append(v, x)': behind 'at_builtin'. -/
theorem append_int {ops : Array Oper} {rest : List Oper} {o : Oper} {a : Act} {Q : Exit → Act → World → Prop} (hgd : o.guard = none) (s x : Operand)
    (ho : o.op = .call { callee := .builtin .append, args := #[s, x], argTypes := #[52, 52] })
    (base : Nat) {W : World} (v : Value) (xs : List Int) (n : Int) (hs : a.eval s = v) {g : Nat} (hx : a.eval x = .slice (some ⟨g, 0, none⟩) 1 1) (hgs : g = W.heap.size)
    (HM : MineI base W v xs) (hbase : base ≤ W.heap.size) (hl : xs.length + 1 ≤ limI)
    (h : ∀ v1 w1, MineI base w1 v1 (xs ++ [n]) → W.grownBy w1 v.ownBlock → (v1.ownBlock = v.ownBlock ∨ ∃ k, v1.ownBlock = some k ∧ W.heap.size ≤ k) → wpList Tryz.prog ops Q rest (a.put o.dst v1) w1) :
    wpList Tryz.prog ops Q (o :: rest) a (W.alloc (.cells #[.int .i64 n] 3)) := by
  subst hgs
  obtain ⟨i0, hi, hzz⟩ := Option.map_eq_some_iff.1 infoInt
  simp only [Prod.mk.injEq] at hzz
  obtain ⟨hz0, hz1, hz2⟩ := hzz
  unfold limI at hl
  refine wpList_append_own_at (W.alloc (.cells #[.int .i64 n] 3)) hgd s x 52 ho base 3 i0 _ 1 8 Tryz.underlying52 hi hz0 hz1 hz2 rfl (by decide) v xs.length (nums xs) hs (World.ownsRow.alloc HM _) ⟨W.heap.size, 0, none⟩ 1 1 [.int .i64 n] hx rfl
    (cell_one_new _ _ _) (by simp [Value.oneCell']) (by simp only [maxLen]; omega) (by omega) (by simp; omega) ?_
  intro v1 w1 hown1 hg _ hat
  refine h v1 w1 ?_ (World.grownBy.trans (World.grownBy_alloc W _ _) hg) ?_
  · unfold MineI
    rw [List.length_append, show nums (xs ++ [n]) = nums xs ++ [.int .i64 n] from by simp [nums]]
    exact hown1
  · rcases hat with e | e
    · exact .inl e
    · exact .inr ⟨_, e, by simp⟩
end Go.Proofs.YtbmmdfehhhgkcaaGreat
