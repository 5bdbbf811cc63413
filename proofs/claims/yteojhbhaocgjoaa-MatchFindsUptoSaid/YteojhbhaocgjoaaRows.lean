/-
  NARROWER THAN 'FOR EVERY INPUT', by the rows' own cells (each row's printed sentence says how): MatchSelf: loops · MatchParam: loops · MatchKeeps: loops · MatchFills: loops · MatchFinds: loops.
  DERIVED. THE GIVEN ROWS OF THIS SEAT. 5 by the template 'for every input the law returns true; each argument reads behind the call as it read before'; 0 by the template 'total and deterministic' (their statements: YteojhbhaocgjoaaTotals.lean).
  GIVEN WITH THE SEED: the statements are not yours to turn. If you find one false, say at which input.
  Laid BY PROGRAM, IN A SANDBOX (cutbox-rows.mjs): the forced cells as the released guide's own fill.sh prints them over the translation 966d5ec3d64ee2ae… (all of the seat's roots in one cut). By AI agents, Wed Nov 11 2026. No macro, syntax, notation, axiom, sorry.
-/
import Derived.Test.YteojhbhaocgjoaaChecked
import GoSem.Claim
import GoSem.ClaimJoined
import GoSem.ClaimMapViews
import Derived.JoinedTies
import Derived.KernelRfl
namespace Go.Proofs.Yteojhbhaocgjoaa
/- THE CELL 'sum', in the pinned program and in every row, IS THE sha256 OF THE DUMP (.gsa) THAT YteojhbhaocgjoaaProg.lean LOADS. Nothing in Lean hashes anything: it is a label: what it is worth is what the hold of that sum in a sandbox is worth. -/
noncomputable def Try.pinned : Pinned := { name := "yteojhbhaocgjoaa", sum := "966d5ec3d64ee2ae674782bfe0a21d5438cbe6aa9a1de274003040b7a73a8a50", checked := Try.checked }
namespace Rows
def none {H : Type} : Left H := { results := [], args := [] }

/-- 'amanuensislaw07.MatchSelf': WHATEVER THE INPUT: true; the input reads as it did. -/
def matchSelfSpec : ChangeSpec := { name := "matchSelf", fn := fun _ => fun
  | [d1, d2, d3] => { results := [.lit (.bool true)], args := [d1, d2, d3] }
  | _ => none }
def matchSelfRow : OpenClaim := { program := "yteojhbhaocgjoaa", sum := "966d5ec3d64ee2ae674782bfe0a21d5438cbe6aa9a1de274003040b7a73a8a50", func := "amanuensis/amanuensislaw07.MatchSelf", spec := "matchSelf", unfollowed := true, recurses := true, loops := true, apart := false }
def MatchSelfSaid : Prop := matchSelfRow.holds Try.pinned (OpenSpec.ofChange matchSelfSpec)

/-- ITS FALSE NEIGHBOUR: 'it returns false'. Refute it at one input. -/
def matchSelfWrong : ChangeSpec := { name := "matchSelf", fn := fun _ => fun
  | [d1, d2, d3] => { results := [.lit (.bool false)], args := [d1, d2, d3] }
  | _ => none }
def MatchSelfWrongFalsely : Prop := matchSelfRow.holds Try.pinned (OpenSpec.ofChange matchSelfWrong)

/-- 'amanuensislaw07.MatchParam': WHATEVER THE INPUT: true; the input reads as it did. -/
def matchParamSpec : ChangeSpec := { name := "matchParam", fn := fun _ => fun
  | [d1, d2, d3] => { results := [.lit (.bool true)], args := [d1, d2, d3] }
  | _ => none }
def matchParamRow : OpenClaim := { program := "yteojhbhaocgjoaa", sum := "966d5ec3d64ee2ae674782bfe0a21d5438cbe6aa9a1de274003040b7a73a8a50", func := "amanuensis/amanuensislaw07.MatchParam", spec := "matchParam", unfollowed := true, recurses := true, loops := true, apart := false }
def MatchParamSaid : Prop := matchParamRow.holds Try.pinned (OpenSpec.ofChange matchParamSpec)

/-- ITS FALSE NEIGHBOUR: 'it returns false'. Refute it at one input. -/
def matchParamWrong : ChangeSpec := { name := "matchParam", fn := fun _ => fun
  | [d1, d2, d3] => { results := [.lit (.bool false)], args := [d1, d2, d3] }
  | _ => none }
def MatchParamWrongFalsely : Prop := matchParamRow.holds Try.pinned (OpenSpec.ofChange matchParamWrong)

/-- 'amanuensislaw07.MatchKeeps': WHATEVER THE INPUT: true; the input reads as it did. -/
def matchKeepsSpec : ChangeSpec := { name := "matchKeeps", fn := fun _ => fun
  | [d1, d2, d3, d4, d5] => { results := [.lit (.bool true)], args := [d1, d2, d3, d4, d5] }
  | _ => none }
def matchKeepsRow : OpenClaim := { program := "yteojhbhaocgjoaa", sum := "966d5ec3d64ee2ae674782bfe0a21d5438cbe6aa9a1de274003040b7a73a8a50", func := "amanuensis/amanuensislaw07.MatchKeeps", spec := "matchKeeps", unfollowed := true, recurses := true, loops := true, apart := false }
def MatchKeepsSaid : Prop := matchKeepsRow.holds Try.pinned (OpenSpec.ofChange matchKeepsSpec)

/-- ITS FALSE NEIGHBOUR: 'it returns false'. Refute it at one input. -/
def matchKeepsWrong : ChangeSpec := { name := "matchKeeps", fn := fun _ => fun
  | [d1, d2, d3, d4, d5] => { results := [.lit (.bool false)], args := [d1, d2, d3, d4, d5] }
  | _ => none }
def MatchKeepsWrongFalsely : Prop := matchKeepsRow.holds Try.pinned (OpenSpec.ofChange matchKeepsWrong)

/-- 'amanuensislaw07.MatchFills': WHATEVER THE INPUT: true; the input reads as it did. -/
def matchFillsSpec : ChangeSpec := { name := "matchFills", fn := fun _ => fun
  | [d1, d2, d3, d4] => { results := [.lit (.bool true)], args := [d1, d2, d3, d4] }
  | _ => none }
def matchFillsRow : OpenClaim := { program := "yteojhbhaocgjoaa", sum := "966d5ec3d64ee2ae674782bfe0a21d5438cbe6aa9a1de274003040b7a73a8a50", func := "amanuensis/amanuensislaw07.MatchFills", spec := "matchFills", unfollowed := true, recurses := true, loops := true, apart := false }
def MatchFillsSaid : Prop := matchFillsRow.holds Try.pinned (OpenSpec.ofChange matchFillsSpec)

/-- ITS FALSE NEIGHBOUR: 'it returns false'. Refute it at one input. -/
def matchFillsWrong : ChangeSpec := { name := "matchFills", fn := fun _ => fun
  | [d1, d2, d3, d4] => { results := [.lit (.bool false)], args := [d1, d2, d3, d4] }
  | _ => none }
def MatchFillsWrongFalsely : Prop := matchFillsRow.holds Try.pinned (OpenSpec.ofChange matchFillsWrong)

/-- 'amanuensislaw07.MatchFinds': WHATEVER THE INPUT: true; the input reads as it did. -/
def matchFindsSpec : ChangeSpec := { name := "matchFinds", fn := fun _ => fun
  | [d1, d2, d3] => { results := [.lit (.bool true)], args := [d1, d2, d3] }
  | _ => none }
def matchFindsRow : OpenClaim := { program := "yteojhbhaocgjoaa", sum := "966d5ec3d64ee2ae674782bfe0a21d5438cbe6aa9a1de274003040b7a73a8a50", func := "amanuensis/amanuensislaw07.MatchFinds", spec := "matchFinds", unfollowed := true, recurses := true, loops := true, apart := false }
def MatchFindsSaid : Prop := matchFindsRow.holds Try.pinned (OpenSpec.ofChange matchFindsSpec)

/-- ITS FALSE NEIGHBOUR: 'it returns false'. Refute it at one input. -/
def matchFindsWrong : ChangeSpec := { name := "matchFinds", fn := fun _ => fun
  | [d1, d2, d3] => { results := [.lit (.bool false)], args := [d1, d2, d3] }
  | _ => none }
def MatchFindsWrongFalsely : Prop := matchFindsRow.holds Try.pinned (OpenSpec.ofChange matchFindsWrong)

/- THE SECOND FORM. 'bulk': how many values and letters a reading holds, each counted each time it is reached (what is shared counts as often as it is met; a slice's spare places count too). A statement '..UptoSaid' is the law's where the arguments, and the package variables that the reading takes, are together of bulk at most 1048576: NARROWER than '..Said'. Prove '..Said' where nothing that the law and all that it calls make is longer than what came in: it says more and counts as full. Else prove '..UptoSaid'. A law counts once. -/
mutual
def uptoBulk {H : Type} : DataW H → Nat
  | .lit (.string bytes) => bytes.length + 1
  | .lit _ => 1
  | .nil => 1
  | .ptr d => uptoBulk d + 1
  | .slice elems spare => uptoBulkAll elems + uptoBulkAll spare + 1
  | .agg parts => uptoBulkAll parts + 1
  | .iface _ d => uptoBulk d + 1
  | .map entries => uptoBulkEntries entries + 1
  | .held _ => 1
def uptoBulkAll {H : Type} : List (DataW H) → Nat
  | [] => 0
  | d :: r => uptoBulk d + uptoBulkAll r
def uptoBulkEntries {H : Type} : List (Lit × DataW H) → Nat
  | [] => 0
  | x :: r => uptoBulkEntry x + uptoBulkEntries r
def uptoBulkEntry {H : Type} : Lit × DataW H → Nat
  | (.string bytes, d) => bytes.length + uptoBulk d + 1
  | (_, d) => uptoBulk d + 1
 end
def uptoSmall : (H : Type) → List (DataW H) → Bool := fun _ ds => decide (uptoBulkAll ds ≤ 1048576)
def OpenSpec.upto (s : _root_.Go.ChangeSpec) : _root_.Go.OpenSpec := { _root_.Go.OpenSpec.ofChange s with cond := some uptoSmall }

/-- 'amanuensislaw07.MatchSelf', WHERE WHAT IT READS IS OF BULK AT MOST 1048576: true; the input reads as it did. -/
def matchSelfUptoRow : OpenClaim := { program := "yteojhbhaocgjoaa", sum := "966d5ec3d64ee2ae674782bfe0a21d5438cbe6aa9a1de274003040b7a73a8a50", func := "amanuensis/amanuensislaw07.MatchSelf", spec := "matchSelf", unfollowed := true, recurses := true, loops := true, apart := false, narrowed := true }
def MatchSelfUptoSaid : Prop := matchSelfUptoRow.holds Try.pinned (OpenSpec.upto matchSelfSpec)

/-- 'amanuensislaw07.MatchParam', WHERE WHAT IT READS IS OF BULK AT MOST 1048576: true; the input reads as it did. -/
def matchParamUptoRow : OpenClaim := { program := "yteojhbhaocgjoaa", sum := "966d5ec3d64ee2ae674782bfe0a21d5438cbe6aa9a1de274003040b7a73a8a50", func := "amanuensis/amanuensislaw07.MatchParam", spec := "matchParam", unfollowed := true, recurses := true, loops := true, apart := false, narrowed := true }
def MatchParamUptoSaid : Prop := matchParamUptoRow.holds Try.pinned (OpenSpec.upto matchParamSpec)

/-- 'amanuensislaw07.MatchKeeps', WHERE WHAT IT READS IS OF BULK AT MOST 1048576: true; the input reads as it did. -/
def matchKeepsUptoRow : OpenClaim := { program := "yteojhbhaocgjoaa", sum := "966d5ec3d64ee2ae674782bfe0a21d5438cbe6aa9a1de274003040b7a73a8a50", func := "amanuensis/amanuensislaw07.MatchKeeps", spec := "matchKeeps", unfollowed := true, recurses := true, loops := true, apart := false, narrowed := true }
def MatchKeepsUptoSaid : Prop := matchKeepsUptoRow.holds Try.pinned (OpenSpec.upto matchKeepsSpec)

/-- 'amanuensislaw07.MatchFills', WHERE WHAT IT READS IS OF BULK AT MOST 1048576: true; the input reads as it did. -/
def matchFillsUptoRow : OpenClaim := { program := "yteojhbhaocgjoaa", sum := "966d5ec3d64ee2ae674782bfe0a21d5438cbe6aa9a1de274003040b7a73a8a50", func := "amanuensis/amanuensislaw07.MatchFills", spec := "matchFills", unfollowed := true, recurses := true, loops := true, apart := false, narrowed := true }
def MatchFillsUptoSaid : Prop := matchFillsUptoRow.holds Try.pinned (OpenSpec.upto matchFillsSpec)

/-- 'amanuensislaw07.MatchFinds', WHERE WHAT IT READS IS OF BULK AT MOST 1048576: true; the input reads as it did. -/
def matchFindsUptoRow : OpenClaim := { program := "yteojhbhaocgjoaa", sum := "966d5ec3d64ee2ae674782bfe0a21d5438cbe6aa9a1de274003040b7a73a8a50", func := "amanuensis/amanuensislaw07.MatchFinds", spec := "matchFinds", unfollowed := true, recurses := true, loops := true, apart := false, narrowed := true }
def MatchFindsUptoSaid : Prop := matchFindsUptoRow.holds Try.pinned (OpenSpec.upto matchFindsSpec)

end Rows
end Go.Proofs.Yteojhbhaocgjoaa
