/- The contracts of (*work).apply and (*work).spine. -/
import Derived.Test.YtaliphgdahpagaaU4
import Derived.Test.YtaliphgdahpagaaU5
namespace Go.Proofs.Ytaliphgdahpagaa
open Go.RowKit Go.Shelf

theorem AP_big {n : Nat} (h : 40000 < n) : AP n := fun S t x A c A2 c2 gw w _ _ _ _ _ _ _ hf => absurd hf.1 (by omega)
theorem SP_of {n : Nat} (h : ∀ m, n ≤ m → AP m) : SP n := fun S t l A c A2 c2 gw w hS hgw hbw hr hc hr2 hc2 hf => spine_calls l n h S t A c A2 c2 gw w hS hgw hbw hr hc hr2 hc2 hf
theorem apply_all : ∀ (d n : Nat), 40001 - n = d → AP n := by
  intro d
  induction d using Nat.strongRecOn with
  | _ d ih =>
    intro n hd
    rcases Nat.lt_or_ge 40000 n with h | h
    · exact AP_big h
    · have hA : ∀ m, n < m → AP m := fun m hm => ih (40001 - m) (by omega) m rfl
      exact apply_step n hA (fun m hm => SP_of (fun q hq => hA q (by omega)))
theorem apply_calls (n : Nat) : AP n := apply_all _ n rfl
theorem spine_all (n : Nat) : SP n := SP_of (fun m _ => apply_calls m)
end Go.Proofs.Ytaliphgdahpagaa
