/- What a part's number of binders is, by the document's Binds. -/
import Derived.Test.YtaliphgdahpagaaF1
namespace Go.Proofs.Ytaliphgdahpagaa
open Go.RowKit Go.Shelf

def inI (n : Int) : Prop := -9223372036854775808 ≤ n ∧ n ≤ 9223372036854775807
theorem inI_wrap (n : Int) : inI (wrap64 n) := by unfold inI wrap64; omega
theorem wrap_in {n : Int} (h : inI n) : wrap64 n = n := by unfold inI at h; unfold wrap64; omega
theorem lastN_in {b : Bool} {l : List Tm} {n : Int} (h : inI n) : inI (lastN b l n) := by
  unfold lastN
  split
  · exact inI_wrap _
  · exact h
theorem lastN_binds {kk n : Int} {ts : List Tm} {i : Nat} (hlt : i < ts.length) (hn : inI n) : wrap64 (n + bindsI kk i ts.length) = lastN (isB kk) (ts.drop (i + 1)) n := by
  rw [lastN_tst hlt, bindsI]
  split
  · rfl
  · rw [Int.add_zero, wrap_in hn]
theorem bindsI_01 (k i : Int) (n : Nat) : bindsI k i n = 0 ∨ bindsI k i n = 1 := by
  unfold bindsI
  split
  · exact .inr rfl
  · exact .inl rfl
end Go.Proofs.Ytaliphgdahpagaa
