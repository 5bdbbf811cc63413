/- The law OccurLess returns true for every input, on no other condition, and leaves its arguments as they were. -/
import Derived.Test.YtjpnlmlckmhcaaaRows
import Derived.Test.YtjpnlmlckmhcaaaO17
import Derived.Test.YtjpnlmlckmhcaaaRU
import Derived.WalkKit
import Derived.ProofKit
import Derived.OpenShut
import Derived.ChangeOld
import Derived.Below
import Derived.SizedLaws
namespace Go.Proofs.Ytjpnlmlckmhcaaa.occurLess
open Go.ChangeShapes Go.WideShapes Go.ChangeAt Go.RowKit
set_option linter.unusedVariables false
theorem own : ownKnob Try.prog.godebug = none := by kernel_rfl
theorem laidOut : laidOutB Try.prog = true := by kernel_rfl
set_option maxRecDepth 100000 in
theorem lifted (os : Os) (started : os.Started) (H : Type) (enc : TypeId × Value → H) :
    ReturnsInHanded {} Try.checked os 7 .any (Rows.occurLessSpec.pre6 enc Try.prog Try.f7 Rows.occurLessRow.domain false) (Rows.occurLessSpec.post enc Try.prog Try.f7 false true false false) := by
  refine returnsInHanded_of_change_sized (C := Try.checked) own started (by kernel_rfl) Try.func7
    (ChangeSpec.witness6 (enc := enc) (C := Try.checked) false ⟨#[], #[.slice none 0 0, .int .i64 0, .int .i64 0, .int .i64 0], []⟩ 8 (by kernel_rfl) (by kernel_rfl) (by kernel_rfl) (by kernel_rfl)) ?_
  intro W base args ds gs before hval0 hW hcnd hsz0 _
  have hsz : (DataW.weightsEach Try.prog (Try.f7.params.toList ++ Rows.occurLessSpec.plain.varTypes Try.prog) (ds ++ gs)).all (· ≤ reachBytes) = true := hsz0
  have hval : ∀ (j : Nat) t v, Try.f7.params[j]? = some t → args[j]? = some v → Value.okWide Try.prog W .any base t v := hval0
  have hW' := hW
  obtain ⟨p, q, hA0, hV, rfl, hfz, hnd⟩ := hW
  have hA : DataW.TrodAll enc Try.prog W 0 (fun _ => true) true Try.f7.params.toList args.toList ds p := hA0
  rw [Try.params7] at hA hval hsz
  obtain ⟨v0, vs0, d0, ds0, p0, q0, hargs, rfl, rfl, h0, r0⟩ := trodAll_cons hA
  obtain ⟨v1, vs1, d1, ds1, p1, q1, rfl, rfl, rfl, h1, r1⟩ := trodAll_cons r0
  obtain ⟨v2, vs2, d2, ds2, p2, q2, rfl, rfl, rfl, h2, r2⟩ := trodAll_cons r1
  obtain ⟨v3, vs3, d3, ds3, p3, q3, rfl, rfl, rfl, h3, r3⟩ := trodAll_cons r2
  obtain ⟨rfl, rfl, rfl⟩ := trodAll_nil r3
  obtain rfl : args = #[v0, v1, v2, v3] := by cases args; simp_all
  obtain ⟨rfl, rfl⟩ := trodVars_none hV
  have k0 := h0
  have lt0 : ∀ x ∈ p0, x.block < W.heap.size := by obtain ⟨m, hm⟩ := k0; exact DataW.trod_lt m _ _ _ hm
  obtain ⟨t0, A0, c0, rfl, hc0, hr0, b0, g0⟩ := open_terms (hval 0 22 v0 rfl rfl) h0 (fun m hm => of_decide_eq_true (List.all_eq_true.1 hsz m (DataW.weights_mem_each (j := 0) rfl rfl m hm)))
  obtain ⟨a1, rfl, rfl, rfl, w1⟩ := open_int (k := .i64) (by kernel_rfl) (hval 1 3 v1 rfl rfl) h1
  have z1 : -9223372036854775808 ≤ a1 ∧ a1 ≤ 9223372036854775807 := by
    simp [Lit.wf] at w1
    rw [show IntKind.i64.min = -9223372036854775808 from rfl] at w1
    omega
  obtain ⟨a2, rfl, rfl, rfl, w2⟩ := open_int (k := .i64) (by kernel_rfl) (hval 2 3 v2 rfl rfl) h2
  have z2 : -9223372036854775808 ≤ a2 ∧ a2 ≤ 9223372036854775807 := by
    simp [Lit.wf] at w2
    rw [show IntKind.i64.min = -9223372036854775808 from rfl] at w2
    omega
  obtain ⟨a3, rfl, rfl, rfl, w3⟩ := open_int (k := .i64) (by kernel_rfl) (hval 3 3 v3 rfl rfl) h3
  have z3 : -9223372036854775808 ≤ a3 ∧ a3 ≤ 9223372036854775807 := by
    simp [Lit.wf] at w3
    rw [show IntKind.i64.min = -9223372036854775808 from rfl] at w3
    omega
  refine (OccurLess_row W t0 A0 c0 hr0 hc0 g0 a1 z1 a2 z2 a3 z3).mono fun e W' ⟨he, bel⟩ => ?_
  subst he
  exact ⟨_, rfl, _, _, _, [], _, [], hW', trodAll_mk1 (shut_bool (by kernel_rfl) _), (trodAll_cons_mk (Below.trod laidOut (by kernel_rfl) (of_decide_eq_true (by kernel_rfl)) k0 bel lt0) (trodAll_cons_mk (shut_int (by kernel_rfl) w1) (trodAll_cons_mk (shut_int (by kernel_rfl) w2) (trodAll_cons_mk (shut_int (by kernel_rfl) w3) trodAll_mk0)))), rfl, bel.frame _, fun h => by cases h⟩
theorem over : Rows.occurLessRow.holds Try.pinned (OpenSpec.ofChange Rows.occurLessSpec) :=
  OpenClaim.holds_of_wide 7 Try.f7 rfl rfl rfl rfl rfl rfl rfl ⟨rfl, rfl, rfl, rfl, rfl⟩ rfl rfl rfl rfl rfl (by kernel_rfl) Try.func7 (by kernel_rfl)
    (of_decide_eq_true (by kernel_rfl)) (by unfold Func.isWrapper; first | (rw [if_pos (by decide +kernel)]; kernel_rfl) | (rw [if_neg (by decide +kernel)]; exact ⟨rfl, rfl⟩))
    (fun os started H enc _ => lifted os started H enc)
theorem proved : Rows.OccurLessSaid := over
end Go.Proofs.Ytjpnlmlckmhcaaa.occurLess
namespace Go.Proofs.Ytjpnlmlckmhcaaa
theorem occurLess_holds : Rows.OccurLessSaid := occurLess.proved
#print axioms occurLess_holds
end Go.Proofs.Ytjpnlmlckmhcaaa
