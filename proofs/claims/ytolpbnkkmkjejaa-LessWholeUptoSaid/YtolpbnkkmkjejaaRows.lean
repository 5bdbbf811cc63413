/-
  NARROWER THAN 'FOR EVERY INPUT', by the rows' own cells (each row's printed sentence says how): LessTells: loops · LessMeans: loops · LessAll: loops · LessWhole: loops.
  DERIVED. THE GIVEN ROWS OF THIS SEAT. 4 by the template 'for every input the law returns true; each argument reads behind the call as it read before'; 0 by the template 'total and deterministic' (their statements: YtolpbnkkmkjejaaTotals.lean).
  GIVEN WITH THE SEED: the statements are not yours to turn. If you find one false, say at which input.
  Laid BY PROGRAM, IN A SANDBOX (cutbox-rows.mjs): the forced cells as the released guide's own fill.sh prints them over the translation bf97c1bdfb1dde8a… (all of the seat's roots in one cut). By AI agents, Wed Nov 11 2026. No macro, syntax, notation, axiom, sorry.
-/
import Derived.Test.YtolpbnkkmkjejaaChecked
import GoSem.Claim
import GoSem.ClaimJoined
import GoSem.ClaimMapViews
import Derived.JoinedTies
import Derived.KernelRfl
namespace Go.Proofs.Ytolpbnkkmkjejaa
/- THE CELL 'sum', in the pinned program and in every row, IS THE sha256 OF THE DUMP (.gsa) THAT YtolpbnkkmkjejaaProg.lean LOADS. Nothing in Lean hashes anything: it is a label: what it is worth is what the hold of that sum in a sandbox is worth. -/
noncomputable def Try.pinned : Pinned := { name := "ytolpbnkkmkjejaa", sum := "bf97c1bdfb1dde8accec7fca61073a094ea5c91153e596e4860a5c69969b7e5b", checked := Try.checked }
namespace Rows
def none {H : Type} : Left H := { results := [], args := [] }

/-- 'amanuensislaw18.LessTells': WHATEVER THE INPUT: true; the input reads as it did. -/
def lessTellsSpec : ChangeSpec := { name := "lessTells", fn := fun _ => fun
  | [d1, d2, d3] => { results := [.lit (.bool true)], args := [d1, d2, d3] }
  | _ => none }
def lessTellsRow : OpenClaim := { program := "ytolpbnkkmkjejaa", sum := "bf97c1bdfb1dde8accec7fca61073a094ea5c91153e596e4860a5c69969b7e5b", func := "amanuensis/amanuensislaw18.LessTells", spec := "lessTells", unfollowed := true, recurses := true, loops := true, apart := false }
def LessTellsSaid : Prop := lessTellsRow.holds Try.pinned (OpenSpec.ofChange lessTellsSpec)

/-- ITS FALSE NEIGHBOUR: 'it returns false'. Refute it at one input. -/
def lessTellsWrong : ChangeSpec := { name := "lessTells", fn := fun _ => fun
  | [d1, d2, d3] => { results := [.lit (.bool false)], args := [d1, d2, d3] }
  | _ => none }
def LessTellsWrongFalsely : Prop := lessTellsRow.holds Try.pinned (OpenSpec.ofChange lessTellsWrong)

/-- 'amanuensislaw18.LessMeans': WHATEVER THE INPUT: true; the input reads as it did. -/
def lessMeansSpec : ChangeSpec := { name := "lessMeans", fn := fun _ => fun
  | [d1, d2, d3] => { results := [.lit (.bool true)], args := [d1, d2, d3] }
  | _ => none }
def lessMeansRow : OpenClaim := { program := "ytolpbnkkmkjejaa", sum := "bf97c1bdfb1dde8accec7fca61073a094ea5c91153e596e4860a5c69969b7e5b", func := "amanuensis/amanuensislaw18.LessMeans", spec := "lessMeans", unfollowed := true, recurses := true, loops := true, apart := false }
def LessMeansSaid : Prop := lessMeansRow.holds Try.pinned (OpenSpec.ofChange lessMeansSpec)

/-- ITS FALSE NEIGHBOUR: 'it returns false'. Refute it at one input. -/
def lessMeansWrong : ChangeSpec := { name := "lessMeans", fn := fun _ => fun
  | [d1, d2, d3] => { results := [.lit (.bool false)], args := [d1, d2, d3] }
  | _ => none }
def LessMeansWrongFalsely : Prop := lessMeansRow.holds Try.pinned (OpenSpec.ofChange lessMeansWrong)

/-- 'amanuensislaw18.LessAll': WHATEVER THE INPUT: true; the input reads as it did. -/
def lessAllSpec : ChangeSpec := { name := "lessAll", fn := fun _ => fun
  | [d1, d2] => { results := [.lit (.bool true)], args := [d1, d2] }
  | _ => none }
def lessAllRow : OpenClaim := { program := "ytolpbnkkmkjejaa", sum := "bf97c1bdfb1dde8accec7fca61073a094ea5c91153e596e4860a5c69969b7e5b", func := "amanuensis/amanuensislaw18.LessAll", spec := "lessAll", unfollowed := true, recurses := true, loops := true, apart := false }
def LessAllSaid : Prop := lessAllRow.holds Try.pinned (OpenSpec.ofChange lessAllSpec)

/-- ITS FALSE NEIGHBOUR: 'it returns false'. Refute it at one input. -/
def lessAllWrong : ChangeSpec := { name := "lessAll", fn := fun _ => fun
  | [d1, d2] => { results := [.lit (.bool false)], args := [d1, d2] }
  | _ => none }
def LessAllWrongFalsely : Prop := lessAllRow.holds Try.pinned (OpenSpec.ofChange lessAllWrong)

/-- 'amanuensislaw18.LessWhole': WHATEVER THE INPUT: true; the input reads as it did. -/
def lessWholeSpec : ChangeSpec := { name := "lessWhole", fn := fun _ => fun
  | [d1, d2, d3] => { results := [.lit (.bool true)], args := [d1, d2, d3] }
  | _ => none }
def lessWholeRow : OpenClaim := { program := "ytolpbnkkmkjejaa", sum := "bf97c1bdfb1dde8accec7fca61073a094ea5c91153e596e4860a5c69969b7e5b", func := "amanuensis/amanuensislaw18.LessWhole", spec := "lessWhole", unfollowed := true, recurses := true, loops := true, apart := false }
def LessWholeSaid : Prop := lessWholeRow.holds Try.pinned (OpenSpec.ofChange lessWholeSpec)

/-- ITS FALSE NEIGHBOUR: 'it returns false'. Refute it at one input. -/
def lessWholeWrong : ChangeSpec := { name := "lessWhole", fn := fun _ => fun
  | [d1, d2, d3] => { results := [.lit (.bool false)], args := [d1, d2, d3] }
  | _ => none }
def LessWholeWrongFalsely : Prop := lessWholeRow.holds Try.pinned (OpenSpec.ofChange lessWholeWrong)

/- THE SECOND FORM. 'bulk': how many values and letters a reading holds, each counted each time it is reached (what is shared counts as often as it is met; a slice's spare places count too). A statement '..UptoSaid' is the law's where the arguments, and the package variables that the reading takes, are together of bulk at most 1048576: NARROWER than '..Said'. Prove '..Said' where nothing that the law and all that it calls make is longer than what came in: it says more and counts as full. Else prove '..UptoSaid'. A law counts once. -/
mutual
def uptoBulk {H : Type} : DataW H → Nat
  | .lit (.string bytes) => bytes.length + 1
  | .lit _ => 1
  | .nil => 1
  | .ptr d => uptoBulk d + 1
  | .slice elems spare => uptoBulkAll elems + uptoBulkAll spare + 1
  | .agg parts => uptoBulkAll parts + 1
  | .iface _ d => uptoBulk d + 1
  | .map entries => uptoBulkEntries entries + 1
  | .held _ => 1
def uptoBulkAll {H : Type} : List (DataW H) → Nat
  | [] => 0
  | d :: r => uptoBulk d + uptoBulkAll r
def uptoBulkEntries {H : Type} : List (Lit × DataW H) → Nat
  | [] => 0
  | x :: r => uptoBulkEntry x + uptoBulkEntries r
def uptoBulkEntry {H : Type} : Lit × DataW H → Nat
  | (.string bytes, d) => bytes.length + uptoBulk d + 1
  | (_, d) => uptoBulk d + 1
 end
def uptoSmall : (H : Type) → List (DataW H) → Bool := fun _ ds => decide (uptoBulkAll ds ≤ 1048576)
def OpenSpec.upto (s : _root_.Go.ChangeSpec) : _root_.Go.OpenSpec := { _root_.Go.OpenSpec.ofChange s with cond := some uptoSmall }

/-- 'amanuensislaw18.LessTells', WHERE WHAT IT READS IS OF BULK AT MOST 1048576: true; the input reads as it did. -/
def lessTellsUptoRow : OpenClaim := { program := "ytolpbnkkmkjejaa", sum := "bf97c1bdfb1dde8accec7fca61073a094ea5c91153e596e4860a5c69969b7e5b", func := "amanuensis/amanuensislaw18.LessTells", spec := "lessTells", unfollowed := true, recurses := true, loops := true, apart := false, narrowed := true }
def LessTellsUptoSaid : Prop := lessTellsUptoRow.holds Try.pinned (OpenSpec.upto lessTellsSpec)

/-- 'amanuensislaw18.LessMeans', WHERE WHAT IT READS IS OF BULK AT MOST 1048576: true; the input reads as it did. -/
def lessMeansUptoRow : OpenClaim := { program := "ytolpbnkkmkjejaa", sum := "bf97c1bdfb1dde8accec7fca61073a094ea5c91153e596e4860a5c69969b7e5b", func := "amanuensis/amanuensislaw18.LessMeans", spec := "lessMeans", unfollowed := true, recurses := true, loops := true, apart := false, narrowed := true }
def LessMeansUptoSaid : Prop := lessMeansUptoRow.holds Try.pinned (OpenSpec.upto lessMeansSpec)

/-- 'amanuensislaw18.LessAll', WHERE WHAT IT READS IS OF BULK AT MOST 1048576: true; the input reads as it did. -/
def lessAllUptoRow : OpenClaim := { program := "ytolpbnkkmkjejaa", sum := "bf97c1bdfb1dde8accec7fca61073a094ea5c91153e596e4860a5c69969b7e5b", func := "amanuensis/amanuensislaw18.LessAll", spec := "lessAll", unfollowed := true, recurses := true, loops := true, apart := false, narrowed := true }
def LessAllUptoSaid : Prop := lessAllUptoRow.holds Try.pinned (OpenSpec.upto lessAllSpec)

/-- 'amanuensislaw18.LessWhole', WHERE WHAT IT READS IS OF BULK AT MOST 1048576: true; the input reads as it did. -/
def lessWholeUptoRow : OpenClaim := { program := "ytolpbnkkmkjejaa", sum := "bf97c1bdfb1dde8accec7fca61073a094ea5c91153e596e4860a5c69969b7e5b", func := "amanuensis/amanuensislaw18.LessWhole", spec := "lessWhole", unfollowed := true, recurses := true, loops := true, apart := false, narrowed := true }
def LessWholeUptoSaid : Prop := lessWholeUptoRow.holds Try.pinned (OpenSpec.upto lessWholeSpec)

end Rows
end Go.Proofs.Ytolpbnkkmkjejaa
