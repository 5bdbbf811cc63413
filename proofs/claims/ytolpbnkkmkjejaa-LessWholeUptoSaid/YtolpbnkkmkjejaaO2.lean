/- The contracts of amanuensisref05.Pattern and amanuensisref05.Ints. -/
import Derived.Test.YtolpbnkkmkjejaaO1
namespace Go.Proofs.Ytolpbnkkmkjejaa
open Go.RowKit Go.Shelf

structure PatRel2 (w : World) (ts : List Tm) (hi : Int) (i : Nat) (v : Value) (wr : World) : Prop where
  le : i ≤ ts.length
  below : Below w.heap.size w wr
  out : MineI w.heap.size wr v ((ts.take i).map (·.h)) ∧ patV ts hi = patGo hi ((ts.take i).map (·.h)) (ts.drop i)
structure PatIn (w wr : World) (ts : List Tm) (i k : Nat) (wq : World) : Prop where
  le : k ≤ i
  below : Below w.heap.size w wq
  far : Below wr.heap.size wr wq
  ok : ∀ j, (hj : j < ts.length) → j < k → (hi : i < ts.length) → ts[j].h ≠ ts[i].h

theorem heads_take {ts : List Tm} {i : Nat} (hlt : i < ts.length) : (ts.take (i + 1)).map (·.h) = (ts.take i).map (·.h) ++ [ts[i].h] := by
  rw [List.map_take, List.map_take, List.take_add_one]
  simp [hlt]

/-- Are two rows of numbers the same? -/
def intsB (a b : List Int) : Bool := decide (a = b)

structure IntsRel (w : World) (xs ys : List Int) (i : Nat) (wr : World) : Prop where
  le : i ≤ xs.length
  below : Below w.heap.size w wr
  ok : ∀ j, (h1 : j < xs.length) → (h2 : j < ys.length) → j < i → xs[j] = ys[j]

end Go.Proofs.Ytolpbnkkmkjejaa
