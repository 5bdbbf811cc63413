/- The law EvalEnds returns true for every input, and leaves its arguments as they were. -/
import Derived.Test.YtbmmdfehhhgkcaaGreatRows
import Derived.Test.YtbmmdfehhhgkcaaGreatES
import Derived.Test.YtbmmdfehhhgkcaaGreatRF
import Derived.WalkKit
import Derived.ProofKit
import Derived.OpenShut
import Derived.ChangeOld
import Derived.Below
import Derived.SizedLaws
namespace Go.Proofs.YtbmmdfehhhgkcaaGreat.evalEnds
open Go.ChangeShapes Go.WideShapes Go.ChangeAt Go.RowKit
set_option linter.unusedVariables false
theorem own : ownKnob Tryz.prog.godebug = none := by kernel_rfl
theorem laidOut : laidOutB Tryz.prog = true := by kernel_rfl
set_option maxRecDepth 100000 in
theorem lifted (os : Os) (started : os.Started) (H : Type) (enc : TypeId × Value → H) :
    ReturnsInHanded {} Tryz.checked os 9 .any (Rows.evalEndsSpec.pre6 enc Tryz.prog Tryz.f9 Rows.evalEndsRow.domain false) (Rows.evalEndsSpec.post enc Tryz.prog Tryz.f9 false true false false) := by
  refine returnsInHanded_of_change_sized (C := Tryz.checked) own started (by kernel_rfl) Tryz.func9
    (ChangeSpec.witness6 (enc := enc) (C := Tryz.checked) false ⟨#[], #[.int .i64 0, .bool false], []⟩ 8 (by kernel_rfl) (by kernel_rfl) (by kernel_rfl) (by kernel_rfl)) ?_
  intro W base args ds gs before hval0 hW hcnd hsz0 _
  have hsz : (DataW.weightsEach Tryz.prog (Tryz.f9.params.toList ++ Rows.evalEndsSpec.plain.varTypes Tryz.prog) (ds ++ gs)).all (· ≤ reachBytes) = true := hsz0
  have hval : ∀ (j : Nat) t v, Tryz.f9.params[j]? = some t → args[j]? = some v → Value.okWide Tryz.prog W .any base t v := hval0
  have hW' := hW
  obtain ⟨p, q, hA0, hV, rfl, hfz, hnd⟩ := hW
  have hA : DataW.TrodAll enc Tryz.prog W 0 (fun _ => true) true Tryz.f9.params.toList args.toList ds p := hA0
  rw [Tryz.params9] at hA hval hsz
  obtain ⟨v0, vs0, d0, ds0, p0, q0, hargs, rfl, rfl, h0, r0⟩ := trodAll_cons hA
  obtain ⟨v1, vs1, d1, ds1, p1, q1, rfl, rfl, rfl, h1, r1⟩ := trodAll_cons r0
  obtain ⟨rfl, rfl, rfl⟩ := trodAll_nil r1
  obtain rfl : args = #[v0, v1] := by cases args; simp_all
  obtain ⟨rfl, rfl⟩ := trodVars_none hV
  obtain ⟨a0, rfl, rfl, rfl, w0⟩ := open_int (k := .i64) (by kernel_rfl) (hval 0 3 v0 rfl rfl) h0
  have z0 : -9223372036854775808 ≤ a0 ∧ a0 ≤ 9223372036854775807 := by
    simp [Lit.wf] at w0
    rw [show IntKind.i64.min = -9223372036854775808 from rfl] at w0
    omega
  obtain ⟨a1, rfl, rfl, rfl⟩ := open_bool (by kernel_rfl) (hval 1 4 v1 rfl rfl) h1
  refine (EvalEnds_row W a0 z0 a1).mono fun e W' ⟨he, bel⟩ => ?_
  subst he
  exact ⟨_, rfl, _, _, _, [], _, [], hW', trodAll_mk1 (shut_bool (by kernel_rfl) _), (trodAll_cons_mk (shut_int (by kernel_rfl) w0) (trodAll_cons_mk (shut_bool (by kernel_rfl) _) trodAll_mk0)), rfl, bel.frame _, fun h => by cases h⟩
theorem over : Rows.evalEndsRow.holds Tryz.pinned (OpenSpec.ofChange Rows.evalEndsSpec) :=
  OpenClaim.holds_of_wide 9 Tryz.f9 rfl rfl rfl rfl rfl rfl rfl ⟨rfl, rfl, rfl, rfl, rfl⟩ rfl rfl rfl rfl rfl (by kernel_rfl) Tryz.func9 (by kernel_rfl)
    (of_decide_eq_true (by kernel_rfl)) (by unfold Func.isWrapper; first | (rw [if_pos (by decide +kernel)]; kernel_rfl) | (rw [if_neg (by decide +kernel)]; exact ⟨rfl, rfl⟩))
    (fun os started H enc _ => lifted os started H enc)
theorem proved : Rows.EvalEndsSaid := over
end Go.Proofs.YtbmmdfehhhgkcaaGreat.evalEnds
namespace Go.Proofs.YtbmmdfehhhgkcaaGreat
theorem evalEnds_holds : Rows.EvalEndsSaid := evalEnds.proved
#print axioms evalEnds_holds
end Go.Proofs.YtbmmdfehhhgkcaaGreat
