/- The contract of amanuensislaw06.metaOf. -/
import Derived.Test.YtbmmdfehhhgkcaaGreatU3
import Derived.Test.YtbmmdfehhhgkcaaGreatBA
import Derived.Test.YtbmmdfehhhgkcaaGreatBI
import Derived.Deep.RegionLaw
namespace Go.Proofs.YtbmmdfehhhgkcaaGreat
open Go.RowKit Go.Shelf
set_option linter.unusedVariables false
set_option linter.unusedSimpArgs false

def varsT (l : List Int) : List Tm := l.map fun h => ⟨4, h, []⟩
theorem varsT_len (l : List Int) : (varsT l).length = l.length := by simp [varsT]
theorem varsT_snoc {l : List Int} {i : Nat} (h : i < l.length) : varsT (l.take i) ++ [⟨4, l[i], []⟩] = varsT (l.take (i + 1)) := by
  unfold varsT; rw [List.take_add_one, List.map_append]; simp [h]

def S2 (S : Nat → Prop) (g : Nat) : Nat → Prop := fun k => S k ∨ (g ≤ k ∧ k ≤ g + 1)
structure MoRel (S : Nat → Prop) (l : List Int) (w : World) (i : Nat) (wr : World) : Prop where
  le : i ≤ l.length
  below : Below w.heap.size w wr
  b0 : Blk wr w.heap.size #[.int .i64 0, .int .i64 0, .slice none 0 0] 25
  out : ∃ v, Blk wr (w.heap.size + 1) #[.int .i64 6, .int .i64 0, v] 25 ∧ Mine w.heap.size (S2 S w.heap.size) wr v (varsT (l.take i))

end Go.Proofs.YtbmmdfehhhgkcaaGreat
