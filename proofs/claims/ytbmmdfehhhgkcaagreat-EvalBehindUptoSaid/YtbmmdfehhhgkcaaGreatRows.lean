/-
  NARROWER THAN 'FOR EVERY INPUT', by the rows' own cells (each row's printed sentence says how): EvalTells: loops · EvalFuel: loops · EvalNone: loops · EvalClause: loops · EvalBehind: loops · EvalOwn: loops.
  DERIVED. THE GIVEN ROWS OF THIS SEAT. 7 by the template 'for every input the law returns true; each argument reads behind the call as it read before'; 0 by the template 'total and deterministic' (their statements: YtbmmdfehhhgkcaaGreatTotals.lean).
  GIVEN WITH THE SEED: the statements are not yours to turn. If you find one false, say at which input.
  Laid BY PROGRAM, IN A SANDBOX (cutbox-rows.mjs): the forced cells as the released guide's own fill.sh prints them over the translation 1193e9483d3094f2… (all of the seat's roots in one cut). By AI agents, Wed Nov 11 2026. No macro, syntax, notation, axiom, sorry.
-/
import Derived.Test.YtbmmdfehhhgkcaaGreatChecked
import GoSem.Claim
import GoSem.ClaimJoined
import GoSem.ClaimMapViews
import Derived.JoinedTies
import Derived.KernelRfl
namespace Go.Proofs.YtbmmdfehhhgkcaaGreat
/- THE CELL 'sum', in the pinned program and in every row, IS THE sha256 OF THE DUMP (.gsa) THAT YtbmmdfehhhgkcaaGreatProg.lean LOADS. Nothing in Lean hashes anything: it is a label: what it is worth is what the hold of that sum in a sandbox is worth. -/
noncomputable def Tryz.pinned : Pinned := { name := "ytbmmdfehhhgkcaagreat", sum := "1193e9483d3094f26dc3ccf088056f39d4c34b6e2b33876ffc906df93e21b4cf", checked := Tryz.checked }
namespace Rows
def none {H : Type} : Left H := { results := [], args := [] }

/-- 'amanuensislaw21.EvalTells': WHATEVER THE INPUT: true; the input reads as it did. -/
def evalTellsSpec : ChangeSpec := { name := "evalTells", fn := fun _ => fun
  | [d1, d2, d3, d4, d5] => { results := [.lit (.bool true)], args := [d1, d2, d3, d4, d5] }
  | _ => none }
def evalTellsRow : OpenClaim := { program := "ytbmmdfehhhgkcaagreat", sum := "1193e9483d3094f26dc3ccf088056f39d4c34b6e2b33876ffc906df93e21b4cf", func := "amanuensis/amanuensislaw21.EvalTells", spec := "evalTells", unfollowed := true, recurses := true, loops := true, apart := false }
def EvalTellsSaid : Prop := evalTellsRow.holds Tryz.pinned (OpenSpec.ofChange evalTellsSpec)

/-- ITS FALSE NEIGHBOUR: 'it returns false'. Refute it at one input. -/
def evalTellsWrong : ChangeSpec := { name := "evalTells", fn := fun _ => fun
  | [d1, d2, d3, d4, d5] => { results := [.lit (.bool false)], args := [d1, d2, d3, d4, d5] }
  | _ => none }
def EvalTellsWrongFalsely : Prop := evalTellsRow.holds Tryz.pinned (OpenSpec.ofChange evalTellsWrong)

/-- 'amanuensislaw21.EvalFuel': WHATEVER THE INPUT: true; the input reads as it did. -/
def evalFuelSpec : ChangeSpec := { name := "evalFuel", fn := fun _ => fun
  | [d1, d2, d3, d4, d5, d6] => { results := [.lit (.bool true)], args := [d1, d2, d3, d4, d5, d6] }
  | _ => none }
def evalFuelRow : OpenClaim := { program := "ytbmmdfehhhgkcaagreat", sum := "1193e9483d3094f26dc3ccf088056f39d4c34b6e2b33876ffc906df93e21b4cf", func := "amanuensis/amanuensislaw21.EvalFuel", spec := "evalFuel", unfollowed := true, recurses := true, loops := true, apart := false }
def EvalFuelSaid : Prop := evalFuelRow.holds Tryz.pinned (OpenSpec.ofChange evalFuelSpec)

/-- ITS FALSE NEIGHBOUR: 'it returns false'. Refute it at one input. -/
def evalFuelWrong : ChangeSpec := { name := "evalFuel", fn := fun _ => fun
  | [d1, d2, d3, d4, d5, d6] => { results := [.lit (.bool false)], args := [d1, d2, d3, d4, d5, d6] }
  | _ => none }
def EvalFuelWrongFalsely : Prop := evalFuelRow.holds Tryz.pinned (OpenSpec.ofChange evalFuelWrong)

/-- 'amanuensislaw21.EvalNone': WHATEVER THE INPUT: true; the input reads as it did. -/
def evalNoneSpec : ChangeSpec := { name := "evalNone", fn := fun _ => fun
  | [d1, d2, d3, d4, d5] => { results := [.lit (.bool true)], args := [d1, d2, d3, d4, d5] }
  | _ => none }
def evalNoneRow : OpenClaim := { program := "ytbmmdfehhhgkcaagreat", sum := "1193e9483d3094f26dc3ccf088056f39d4c34b6e2b33876ffc906df93e21b4cf", func := "amanuensis/amanuensislaw21.EvalNone", spec := "evalNone", unfollowed := true, recurses := true, loops := true, apart := false }
def EvalNoneSaid : Prop := evalNoneRow.holds Tryz.pinned (OpenSpec.ofChange evalNoneSpec)

/-- ITS FALSE NEIGHBOUR: 'it returns false'. Refute it at one input. -/
def evalNoneWrong : ChangeSpec := { name := "evalNone", fn := fun _ => fun
  | [d1, d2, d3, d4, d5] => { results := [.lit (.bool false)], args := [d1, d2, d3, d4, d5] }
  | _ => none }
def EvalNoneWrongFalsely : Prop := evalNoneRow.holds Tryz.pinned (OpenSpec.ofChange evalNoneWrong)

/-- 'amanuensislaw21.EvalClause': WHATEVER THE INPUT: true; the input reads as it did. -/
def evalClauseSpec : ChangeSpec := { name := "evalClause", fn := fun _ => fun
  | [d1, d2, d3, d4] => { results := [.lit (.bool true)], args := [d1, d2, d3, d4] }
  | _ => none }
def evalClauseRow : OpenClaim := { program := "ytbmmdfehhhgkcaagreat", sum := "1193e9483d3094f26dc3ccf088056f39d4c34b6e2b33876ffc906df93e21b4cf", func := "amanuensis/amanuensislaw21.EvalClause", spec := "evalClause", unfollowed := true, recurses := true, loops := true, apart := false }
def EvalClauseSaid : Prop := evalClauseRow.holds Tryz.pinned (OpenSpec.ofChange evalClauseSpec)

/-- ITS FALSE NEIGHBOUR: 'it returns false'. Refute it at one input. -/
def evalClauseWrong : ChangeSpec := { name := "evalClause", fn := fun _ => fun
  | [d1, d2, d3, d4] => { results := [.lit (.bool false)], args := [d1, d2, d3, d4] }
  | _ => none }
def EvalClauseWrongFalsely : Prop := evalClauseRow.holds Tryz.pinned (OpenSpec.ofChange evalClauseWrong)

/-- 'amanuensislaw21.EvalBehind': WHATEVER THE INPUT: true; the input reads as it did. -/
def evalBehindSpec : ChangeSpec := { name := "evalBehind", fn := fun _ => fun
  | [d1, d2, d3, d4, d5, d6] => { results := [.lit (.bool true)], args := [d1, d2, d3, d4, d5, d6] }
  | _ => none }
def evalBehindRow : OpenClaim := { program := "ytbmmdfehhhgkcaagreat", sum := "1193e9483d3094f26dc3ccf088056f39d4c34b6e2b33876ffc906df93e21b4cf", func := "amanuensis/amanuensislaw21.EvalBehind", spec := "evalBehind", unfollowed := true, recurses := true, loops := true, apart := false }
def EvalBehindSaid : Prop := evalBehindRow.holds Tryz.pinned (OpenSpec.ofChange evalBehindSpec)

/-- ITS FALSE NEIGHBOUR: 'it returns false'. Refute it at one input. -/
def evalBehindWrong : ChangeSpec := { name := "evalBehind", fn := fun _ => fun
  | [d1, d2, d3, d4, d5, d6] => { results := [.lit (.bool false)], args := [d1, d2, d3, d4, d5, d6] }
  | _ => none }
def EvalBehindWrongFalsely : Prop := evalBehindRow.holds Tryz.pinned (OpenSpec.ofChange evalBehindWrong)

/-- 'amanuensislaw21.EvalOwn': WHATEVER THE INPUT: true; the input reads as it did. -/
def evalOwnSpec : ChangeSpec := { name := "evalOwn", fn := fun _ => fun
  | [d1, d2, d3, d4, d5] => { results := [.lit (.bool true)], args := [d1, d2, d3, d4, d5] }
  | _ => none }
def evalOwnRow : OpenClaim := { program := "ytbmmdfehhhgkcaagreat", sum := "1193e9483d3094f26dc3ccf088056f39d4c34b6e2b33876ffc906df93e21b4cf", func := "amanuensis/amanuensislaw21.EvalOwn", spec := "evalOwn", unfollowed := true, recurses := true, loops := true, apart := false }
def EvalOwnSaid : Prop := evalOwnRow.holds Tryz.pinned (OpenSpec.ofChange evalOwnSpec)

/-- ITS FALSE NEIGHBOUR: 'it returns false'. Refute it at one input. -/
def evalOwnWrong : ChangeSpec := { name := "evalOwn", fn := fun _ => fun
  | [d1, d2, d3, d4, d5] => { results := [.lit (.bool false)], args := [d1, d2, d3, d4, d5] }
  | _ => none }
def EvalOwnWrongFalsely : Prop := evalOwnRow.holds Tryz.pinned (OpenSpec.ofChange evalOwnWrong)

/-- 'amanuensislaw21.EvalEnds': WHATEVER THE INPUT: true; the input reads as it did. -/
def evalEndsSpec : ChangeSpec := { name := "evalEnds", fn := fun _ => fun
  | [d1, d2] => { results := [.lit (.bool true)], args := [d1, d2] }
  | _ => none }
def evalEndsRow : OpenClaim := { program := "ytbmmdfehhhgkcaagreat", sum := "1193e9483d3094f26dc3ccf088056f39d4c34b6e2b33876ffc906df93e21b4cf", func := "amanuensis/amanuensislaw21.EvalEnds", spec := "evalEnds", unfollowed := true, recurses := true, apart := false }
def EvalEndsSaid : Prop := evalEndsRow.holds Tryz.pinned (OpenSpec.ofChange evalEndsSpec)

/-- ITS FALSE NEIGHBOUR: 'it returns false'. Refute it at one input. -/
def evalEndsWrong : ChangeSpec := { name := "evalEnds", fn := fun _ => fun
  | [d1, d2] => { results := [.lit (.bool false)], args := [d1, d2] }
  | _ => none }
def EvalEndsWrongFalsely : Prop := evalEndsRow.holds Tryz.pinned (OpenSpec.ofChange evalEndsWrong)

/- THE SECOND FORM. 'bulk': how many values and letters a reading holds, each counted each time it is reached (what is shared counts as often as it is met; a slice's spare places count too). A statement '..UptoSaid' is the law's where the arguments, and the package variables that the reading takes, are together of bulk at most 1048576: NARROWER than '..Said'. Prove '..Said' where nothing that the law and all that it calls make is longer than what came in: it says more and counts as full. Else prove '..UptoSaid'. A law counts once. -/
mutual
def uptoBulk {H : Type} : DataW H → Nat
  | .lit (.string bytes) => bytes.length + 1
  | .lit _ => 1
  | .nil => 1
  | .ptr d => uptoBulk d + 1
  | .slice elems spare => uptoBulkAll elems + uptoBulkAll spare + 1
  | .agg parts => uptoBulkAll parts + 1
  | .iface _ d => uptoBulk d + 1
  | .map entries => uptoBulkEntries entries + 1
  | .held _ => 1
def uptoBulkAll {H : Type} : List (DataW H) → Nat
  | [] => 0
  | d :: r => uptoBulk d + uptoBulkAll r
def uptoBulkEntries {H : Type} : List (Lit × DataW H) → Nat
  | [] => 0
  | x :: r => uptoBulkEntry x + uptoBulkEntries r
def uptoBulkEntry {H : Type} : Lit × DataW H → Nat
  | (.string bytes, d) => bytes.length + uptoBulk d + 1
  | (_, d) => uptoBulk d + 1
 end
def uptoSmall : (H : Type) → List (DataW H) → Bool := fun _ ds => decide (uptoBulkAll ds ≤ 1048576)
def OpenSpec.upto (s : _root_.Go.ChangeSpec) : _root_.Go.OpenSpec := { _root_.Go.OpenSpec.ofChange s with cond := some uptoSmall }

/-- 'amanuensislaw21.EvalTells', WHERE WHAT IT READS IS OF BULK AT MOST 1048576: true; the input reads as it did. -/
def evalTellsUptoRow : OpenClaim := { program := "ytbmmdfehhhgkcaagreat", sum := "1193e9483d3094f26dc3ccf088056f39d4c34b6e2b33876ffc906df93e21b4cf", func := "amanuensis/amanuensislaw21.EvalTells", spec := "evalTells", unfollowed := true, recurses := true, loops := true, apart := false, narrowed := true }
def EvalTellsUptoSaid : Prop := evalTellsUptoRow.holds Tryz.pinned (OpenSpec.upto evalTellsSpec)

/-- 'amanuensislaw21.EvalFuel', WHERE WHAT IT READS IS OF BULK AT MOST 1048576: true; the input reads as it did. -/
def evalFuelUptoRow : OpenClaim := { program := "ytbmmdfehhhgkcaagreat", sum := "1193e9483d3094f26dc3ccf088056f39d4c34b6e2b33876ffc906df93e21b4cf", func := "amanuensis/amanuensislaw21.EvalFuel", spec := "evalFuel", unfollowed := true, recurses := true, loops := true, apart := false, narrowed := true }
def EvalFuelUptoSaid : Prop := evalFuelUptoRow.holds Tryz.pinned (OpenSpec.upto evalFuelSpec)

/-- 'amanuensislaw21.EvalNone', WHERE WHAT IT READS IS OF BULK AT MOST 1048576: true; the input reads as it did. -/
def evalNoneUptoRow : OpenClaim := { program := "ytbmmdfehhhgkcaagreat", sum := "1193e9483d3094f26dc3ccf088056f39d4c34b6e2b33876ffc906df93e21b4cf", func := "amanuensis/amanuensislaw21.EvalNone", spec := "evalNone", unfollowed := true, recurses := true, loops := true, apart := false, narrowed := true }
def EvalNoneUptoSaid : Prop := evalNoneUptoRow.holds Tryz.pinned (OpenSpec.upto evalNoneSpec)

/-- 'amanuensislaw21.EvalClause', WHERE WHAT IT READS IS OF BULK AT MOST 1048576: true; the input reads as it did. -/
def evalClauseUptoRow : OpenClaim := { program := "ytbmmdfehhhgkcaagreat", sum := "1193e9483d3094f26dc3ccf088056f39d4c34b6e2b33876ffc906df93e21b4cf", func := "amanuensis/amanuensislaw21.EvalClause", spec := "evalClause", unfollowed := true, recurses := true, loops := true, apart := false, narrowed := true }
def EvalClauseUptoSaid : Prop := evalClauseUptoRow.holds Tryz.pinned (OpenSpec.upto evalClauseSpec)

/-- 'amanuensislaw21.EvalBehind', WHERE WHAT IT READS IS OF BULK AT MOST 1048576: true; the input reads as it did. -/
def evalBehindUptoRow : OpenClaim := { program := "ytbmmdfehhhgkcaagreat", sum := "1193e9483d3094f26dc3ccf088056f39d4c34b6e2b33876ffc906df93e21b4cf", func := "amanuensis/amanuensislaw21.EvalBehind", spec := "evalBehind", unfollowed := true, recurses := true, loops := true, apart := false, narrowed := true }
def EvalBehindUptoSaid : Prop := evalBehindUptoRow.holds Tryz.pinned (OpenSpec.upto evalBehindSpec)

/-- 'amanuensislaw21.EvalOwn', WHERE WHAT IT READS IS OF BULK AT MOST 1048576: true; the input reads as it did. -/
def evalOwnUptoRow : OpenClaim := { program := "ytbmmdfehhhgkcaagreat", sum := "1193e9483d3094f26dc3ccf088056f39d4c34b6e2b33876ffc906df93e21b4cf", func := "amanuensis/amanuensislaw21.EvalOwn", spec := "evalOwn", unfollowed := true, recurses := true, loops := true, apart := false, narrowed := true }
def EvalOwnUptoSaid : Prop := evalOwnUptoRow.holds Tryz.pinned (OpenSpec.upto evalOwnSpec)

/-- 'amanuensislaw21.EvalEnds', WHERE WHAT IT READS IS OF BULK AT MOST 1048576: true; the input reads as it did. -/
def evalEndsUptoRow : OpenClaim := { program := "ytbmmdfehhhgkcaagreat", sum := "1193e9483d3094f26dc3ccf088056f39d4c34b6e2b33876ffc906df93e21b4cf", func := "amanuensis/amanuensislaw21.EvalEnds", spec := "evalEnds", unfollowed := true, recurses := true, apart := false, narrowed := true }
def EvalEndsUptoSaid : Prop := evalEndsUptoRow.holds Tryz.pinned (OpenSpec.upto evalEndsSpec)

end Rows
end Go.Proofs.YtbmmdfehhhgkcaaGreat
