/- What comes back of a call that makes a term. -/
import Derived.Test.YtaliphgdahpagaaB
namespace Go.Proofs.Ytaliphgdahpagaa
open Go.RowKit Go.Shelf

def S3 (S : Nat → Prop) (g : Nat) : Nat → Prop := fun k => S k ∨ (g ≤ k ∧ k ≤ g + 2)
abbrev zeroTm : Value := .agg #[.int .i64 0, .int .i64 0, .slice none 0 0]
/-- What comes back: a term and true, or the nought and false. -/
def RetT (S : Nat → Prop) (r : Option Tm) (w : World) (e : Ending) (w' : World) : Prop :=
  Below w.heap.size w w' ∧ ((r = none ∧ e = .returned (.tuple #[zeroTm, .bool false])) ∨
    ∃ u B c, r = some u ∧ e = .returned (.tuple #[.agg #[.int .i64 u.k, .int .i64 u.h, .slice B u.a.length c], .bool true]) ∧ u.a.length ≤ c ∧ Reads S w' B u.a)

/-- What comes back: a term. -/
def RetU (S : Nat → Prop) (u : Tm) (w : World) (e : Ending) (w' : World) : Prop :=
  Below w.heap.size w w' ∧ ∃ B c, e = .returned (.agg #[.int .i64 u.k, .int .i64 u.h, .slice B u.a.length c]) ∧ u.a.length ≤ c ∧ Reads S w' B u.a
end Go.Proofs.Ytaliphgdahpagaa
