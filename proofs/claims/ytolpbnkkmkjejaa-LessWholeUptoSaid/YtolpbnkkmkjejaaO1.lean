/- The contracts of occur.Pattern, amanuensisref05.Pattern and amanuensisref05.Ints. -/
import Derived.Test.YtolpbnkkmkjejaaBI
import Derived.Test.YtolpbnkkmkjejaaOP
namespace Go.Proofs.Ytolpbnkkmkjejaa
open Go.RowKit Go.Shelf

/-- What comes back: numbers and true, or nil and false. -/
def RetI (r : Option (List Int)) (w : World) (e : Ending) (w' : World) : Prop :=
  Below w.heap.size w w' ∧ ((r = none ∧ e = .returned (.tuple #[.slice none 0 0, .bool false])) ∨
    ∃ vs B c, r = some vs ∧ e = .returned (.tuple #[.slice B vs.length c, .bool true]) ∧ vs.length ≤ c ∧ RdI (fun _ => False) w' B vs)

structure PatRel (w : World) (ts : List Tm) (hi : Int) (i : Nat) (v : Value) (wr : World) : Prop where
  le : i ≤ ts.length
  below : Below w.heap.size w wr
  out : ∃ vs, MineI w.heap.size wr v vs ∧ vs.length = i ∧ patV ts hi = patGo hi vs (ts.drop i)

theorem lim_limI {n : Nat} (h : n ≤ lim) : n ≤ limI := by unfold lim at h; unfold limI; omega

theorem patGo_at {below : Int} {vs : List Int} {ts : List Tm} {i : Nat} (hlt : i < ts.length) :
    patGo below vs (ts.drop i) = if ts[i].k = 4 ∧ ts[i].a.length = 0 ∧ 0 ≤ ts[i].h ∧ ts[i].h < below ∧ ts[i].h ∉ vs then patGo below (vs ++ [ts[i].h]) (ts.drop (i + 1)) else none := by
  rw [List.drop_eq_getElem_cons hlt, patGo]

end Go.Proofs.Ytolpbnkkmkjejaa
