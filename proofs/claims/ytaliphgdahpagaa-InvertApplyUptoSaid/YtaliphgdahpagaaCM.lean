/- The contract of shift.may. -/
import Derived.Test.YtaliphgdahpagaaC3
import Derived.Test.YtaliphgdahpagaaT3
namespace Go.Proofs.Ytaliphgdahpagaa
open Go.RowKit Go.Shelf

def mayS (t : Tm) (b fr : Int) : Bool := mayB t && (decide (0 ≤ b) && (decide (b ≤ 1048576) && (decide (0 ≤ fr) && decide (fr ≤ 1048576))))

set_option maxHeartbeats 2000000 in
theorem smay_calls (t : Tm) (A : Option Addr) (c : Nat) (b fr : Int) (w : World) (hr : Reads (fun _ => False) w A t.a) (hc : t.a.length ≤ c) :
    Calls Try.prog 31 #[.agg #[.int .i64 t.k, .int .i64 t.h, .slice A t.a.length c], .int .i64 b, .int .i64 fr] w fun e w' => e = .returned (.bool (mayS t b fr)) ∧ Below w.heap.size w w' := by
  have hb0 : Below w.heap.size w (w.alloc (.cells #[.int .i64 t.k, .int .i64 t.h, .slice A t.a.length c] 24)) := bl_alloc (Below.refl _ _) _
  have hM := May_calls t A c _ (hr.mov hb0) hc
  have HM := Lib.hid hM
  have HB0 := Lib.hid hb0
  clear hb0 hM
  unfold mayS
  generalize mayB t = mb at *
  go_enter Try.func31, Try.ntmps31
  go_wp2_with (go_at_call 12; refine HM.out.mono ?_; clear HM; rintro e w1 ⟨rfl, hb1⟩)
  all_goals go_ret
  all_goals refine ⟨ret_bool ?_, bl_then HB0.out hb1⟩
  all_goals (subst_vars; first | rfl | (simp [*]; done) | (simp_all; done) | (rw [eq_comm]; simp only [Bool.and_eq_false_iff, decide_eq_false_iff_not]; omega))

end Go.Proofs.Ytaliphgdahpagaa
