/- The contract of amanuensisref06.invert. -/
import Derived.Test.YteojhbhaocgjoaaI3
import Derived.Test.YteojhbhaocgjoaaF3
import Derived.IntWalk
namespace Go.Proofs.Yteojhbhaocgjoaa
open Go.RowKit Go.Shelf

/-- What a part's term, or none, has come to, in a variable. -/
structure CutT (S : Nat → Prop) (rv : Option Tm) (wr : World) (bx : Nat) (b : Bool) (wx : World) : Prop where
  below : Below wr.heap.size wr wx
  out : (rv = none ∧ b = false) ∨ ∃ u B c, rv = some u ∧ b = true ∧ Blk wx bx #[.int .i64 u.k, .int .i64 u.h, .slice B u.a.length c] 24 ∧ u.a.length ≤ c ∧ Reads S wx B u.a

/-- The same of what comes back, in one form. -/
def RetX (S : Nat → Prop) (rv : Option Tm) (k h : Int) (B : Option Addr) (n c : Nat) (b : Bool) (w w' : World) : Prop :=
  Below w.heap.size w w' ∧ ((rv = none ∧ b = false) ∨ ∃ u, rv = some u ∧ b = true ∧ k = u.k ∧ h = u.h ∧ n = u.a.length ∧ n ≤ c ∧ Reads S w' B u.a)
theorem RetT.u {S : Nat → Prop} {rv : Option Tm} {w w' : World} {e : Ending} (h : RetT S rv w e w') :
    ∃ k h B n c b, e = .returned (.tuple #[.agg #[.int .i64 k, .int .i64 h, .slice B n c], .bool b]) ∧ RetX S rv k h B n c b w w' := by
  obtain ⟨hb, (⟨h1, h2⟩ | ⟨u, B, c, h1, h2, h3, h4⟩)⟩ := h
  · exact ⟨0, 0, none, 0, 0, false, h2, hb, .inl ⟨h1, rfl⟩⟩
  · exact ⟨u.k, u.h, B, u.a.length, c, true, h2, hb, .inr ⟨u, h1, rfl, rfl, rfl, rfl, h3, h4⟩⟩

end Go.Proofs.Yteojhbhaocgjoaa
