/- The contracts of slices.Index and slices.Contains at []int. -/
import Derived.Test.YtaliphgdahpagaaF3
namespace Go.Proofs.Ytaliphgdahpagaa
open Go.RowKit Go.Shelf

def limI : Nat := 17592186044416
/-- The row at A reads as these whole numbers; its block is none of S. -/
def RdI (S : Nat → Prop) (w : World) (A : Option Addr) (xs : List Int) : Prop :=
  xs.length ≤ limI ∧ ∀ i, (hi : i < xs.length) → ∃ ad : Addr, A = some ad ∧ ¬ S ad.block ∧ w.cell? (ad.add i) = some (.int .i64 xs[i])
theorem RdI.mov {S : Nat → Prop} {w w' : World} {A : Option Addr} {xs : List Int} (h : RdI S w A xs) (hb : Below w.heap.size w w') : RdI S w' A xs :=
  ⟨h.1, fun i hi => by obtain ⟨ad, e, hs, hc⟩ := h.2 i hi; exact ⟨ad, e, hs, cell_mov hc hb⟩⟩
theorem RdI.take {S : Nat → Prop} {w : World} {A : Option Addr} {xs : List Int} (h : RdI S w A xs) (n : Nat) : RdI S w A (xs.take n) :=
  ⟨Nat.le_trans (by simp; omega) h.1, fun i hi => by
    have hi' : i < xs.length := by simp at hi; omega
    obtain ⟨ad, e, hs, hc⟩ := h.2 i hi'
    exact ⟨ad, e, hs, by rw [List.getElem_take]; exact hc⟩⟩

def idxFrom (v : Int) : Nat → List Int → Int
  | _, [] => -1
  | i, x :: l => if v = x then (i : Int) else idxFrom v (i + 1) l
theorem idxFrom_at {v : Int} {xs : List Int} {i : Nat} (hlt : i < xs.length) : idxFrom v i (xs.drop i) = if v = xs[i] then (i : Int) else idxFrom v (i + 1) (xs.drop (i + 1)) := by
  rw [List.drop_eq_getElem_cons hlt, idxFrom]
theorem idxFrom_neg {v : Int} : ∀ (l : List Int) (i : Nat), (idxFrom v i l = -1 ∧ v ∉ l) ∨ (∃ j : Nat, idxFrom v i l = (j : Int) ∧ i ≤ j ∧ j < i + l.length ∧ v ∈ l)
  | [], i => .inl ⟨rfl, by simp⟩
  | x :: l, i => by
    rw [idxFrom]
    by_cases h : v = x
    · rw [if_pos h]
      exact .inr ⟨i, rfl, Nat.le_refl _, by simp, by simp [h]⟩
    · rw [if_neg h]
      rcases idxFrom_neg l (i + 1) with ⟨h1, h2⟩ | ⟨j, h1, h2, h3, h4⟩
      · exact .inl ⟨h1, by simp [h, h2]⟩
      · exact .inr ⟨j, h1, by omega, by simp; omega, by simp [h4]⟩

set_option maxHeartbeats 1000000 in
theorem Index_calls (xs : List Int) (A : Option Addr) (c : Nat) (v : Int) (w : World) (hr : RdI (fun _ => False) w A xs) :
    Calls Try.prog 39 #[.slice A xs.length c, .int .i64 v] w fun e w' => e = .returned (.int .i64 (idxFrom v 0 xs)) ∧ Below w.heap.size w w' := by
  have hlen := hr.1
  unfold limI at hlen
  go_enter Try.func39, Try.ntmps39
  go_wp2
  go_loop [8] (fun j => ∃ (i : Nat), j = .int .i64 i ∧ i ≤ xs.length ∧ Hid (idxFrom v i (xs.drop i) = idxFrom v 0 xs)) (fun j => xs.length - (intOf j).toNat)
  case atStart => exact ⟨0, rfl, Nat.zero_le _, rfl⟩
  case round =>
    obtain ⟨i, rfl, hi, HH⟩ := hrel
    by_cases hlt : i < xs.length
    · obtain ⟨ad, rfl, -, c0⟩ := hr.2 i hlt
      by_cases hv : v = xs[i]
      · have hq : (v == xs[i]) = true := by simpa using hv
        have HV := Lib.hid hv
        clear hv
        go_wp2
        go_ret
        refine ⟨ret_int ?_, Below.refl _ _⟩
        rw [← HH.out, idxFrom_at hlt, if_pos HV.out]
      · have hq : (v == xs[i]) = false := by simpa using hv
        go_wp2
        go_round
        case rel => exact ⟨i + 1, by go_num, hlt, by have := HH.out; rw [idxFrom_at hlt, if_neg hv] at this; exact this⟩
        case measure => simp [intOf]; omega
    · obtain rfl : i = xs.length := by omega
      go_wp2
      go_ret
      refine ⟨ret_int ?_, Below.refl _ _⟩
      rw [← HH.out, List.drop_length]
      rfl

set_option maxHeartbeats 1000000 in
theorem Contains_calls (xs : List Int) (A : Option Addr) (c : Nat) (v : Int) (w : World) (hr : RdI (fun _ => False) w A xs) :
    Calls Try.prog 38 #[.slice A xs.length c, .int .i64 v] w fun e w' => e = .returned (.bool (decide (v ∈ xs))) ∧ Below w.heap.size w w' := by
  have hI := Lib.hid (Index_calls xs A c v w hr)
  go_enter Try.func38, Try.ntmps38
  go_wp2_with (go_at_call 39; refine hI.out.mono ?_; clear hI; rintro e w1 ⟨rfl, hb⟩)
  go_ret
  refine ⟨ret_bool ?_, hb⟩
  rcases idxFrom_neg (v := v) xs 0 with ⟨h1, h2⟩ | ⟨j, h1, _, _, h4⟩
  · rw [h1]; simp [h2]
  · rw [h1]; simp [h4]
end Go.Proofs.Ytaliphgdahpagaa
