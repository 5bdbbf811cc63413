/- The contracts of less.Call, less.Clause and of the document's. -/
import Derived.Test.YtolpbnkkmkjejaaK1
namespace Go.Proofs.Ytolpbnkkmkjejaa
open Go.RowKit Go.Shelf
set_option linter.unusedSimpArgs false

def lessE (fs : List Fu) (c : Cs) (x : Cl) : Int := if lessB fs c x = true then 0 else 11
theorem lessE_no {fs : List Fu} {c : Cs} {x : Cl} (h : lessB fs c x = false) : lessE fs c x = 11 := by unfold lessE; rw [h]; rfl
theorem lessE_yes {fs : List Fu} {c : Cs} {x : Cl} (h : lessB fs c x = true) : lessE fs c x = 0 := by unfold lessE; rw [h]; rfl
def testsB (fs : List Fu) (y : Cs) (x : Cl) : List Bool := [totB fs x, metB y x, renB x, partB y x]
theorem tests_next {l : List Bool} {i : Nat} (hi : i < l.length) (h : (l.take i).all id = true) : ((l.take (i + 1)).all id = true) = (l[i] = true) := by
  rw [List.take_add_one, List.all_append, h]
  simp [hi]

set_option maxHeartbeats 8000000 in
set_option maxRecDepth 100000 in
theorem lessCall_calls (fs : List Fu) (A : Option Addr) (a : Nat) (y : Cs) (x : Cl) (ks xs : List Value) (w : World) (hr : Row eF 13 (fun _ => False) w A fs) (hk : eK (fun _ => False) w ks y) (hx : eC (fun _ => False) w xs x) (hp : gT 1048576 y.p) :
    Calls Try.prog 11 #[.slice A fs.length a, .agg ks.toArray, .agg xs.toArray] w fun e w' => e = .returned (.int .i64 (lessE fs y x)) ∧ Below w.heap.size w w' := by
  have hk0 := hk
  have hx0 := hx
  obtain ⟨A1, a1, B1, b1, C1, c1, D1, d1, E1, e1, rfl, -⟩ := hk
  obtain ⟨A2, a2, B2, b2, C2, c2, rfl, -⟩ := hx
  have h1 := Lib.hid (fun (W : World) (hb : Below w.heap.size w W) => total_calls fs A a y x _ _ W (hr.mov lasts_F (by decide) hb) (lasts_K.mov hk0 hb) (lasts_C.mov hx0 hb))
  have h2 := Lib.hid (fun (W : World) (hb : Below w.heap.size w W) => meta_calls fs A a y x _ _ W (lasts_K.mov hk0 hb) (lasts_C.mov hx0 hb))
  have h3 := Lib.hid (fun (W : World) (hb : Below w.heap.size w W) => renamed_calls fs A a y x _ _ W (lasts_K.mov hk0 hb) (lasts_C.mov hx0 hb))
  have h4 := Lib.hid (fun (W : World) (hb : Below w.heap.size w W) => part_calls fs A a y x _ _ W (lasts_K.mov hk0 hb) (lasts_C.mov hx0 hb) hp)
  have hb0 : Below w.heap.size w ((((w.alloc (.cells #[.slice A1 y.ms.length a1, .slice B1 y.th.length b1, .int .i64 y.p.k, .int .i64 y.p.h, .slice C1 y.p.a.length c1, .slice D1 y.cs.length d1, .int .i64 y.r.k, .int .i64 y.r.h, .slice E1 y.r.a.length e1] 29)).alloc (.cells #[.int .i64 x.f, .slice A2 x.ext.length a2, .slice B2 x.th.length b2, .int .i64 x.arg.k, .int .i64 x.arg.h, .slice C2 x.arg.a.length c2] 31)).alloc (.cells #[.slice A fs.length a, .slice A1 y.ms.length a1, .slice B1 y.th.length b1, .int .i64 y.p.k, .int .i64 y.p.h, .slice C1 y.p.a.length c1, .slice D1 y.cs.length d1, .int .i64 y.r.k, .int .i64 y.r.h, .slice E1 y.r.a.length e1, .int .i64 x.f, .slice A2 x.ext.length a2, .slice B2 x.th.length b2, .int .i64 x.arg.k, .int .i64 x.arg.h, .slice C2 x.arg.a.length c2] 54)).alloc (.cells #[.func (.func 24) #[.agg #[.slice A fs.length a, .slice A1 y.ms.length a1, .slice B1 y.th.length b1, .int .i64 y.p.k, .int .i64 y.p.h, .slice C1 y.p.a.length c1, .slice D1 y.cs.length d1, .int .i64 y.r.k, .int .i64 y.r.h, .slice E1 y.r.a.length e1, .int .i64 x.f, .slice A2 x.ext.length a2, .slice B2 x.th.length b2, .int .i64 x.arg.k, .int .i64 x.arg.h, .slice C2 x.arg.a.length c2]] #[], .func (.func 25) #[.agg #[.slice A fs.length a, .slice A1 y.ms.length a1, .slice B1 y.th.length b1, .int .i64 y.p.k, .int .i64 y.p.h, .slice C1 y.p.a.length c1, .slice D1 y.cs.length d1, .int .i64 y.r.k, .int .i64 y.r.h, .slice E1 y.r.a.length e1, .int .i64 x.f, .slice A2 x.ext.length a2, .slice B2 x.th.length b2, .int .i64 x.arg.k, .int .i64 x.arg.h, .slice C2 x.arg.a.length c2]] #[], .func (.func 26) #[.agg #[.slice A fs.length a, .slice A1 y.ms.length a1, .slice B1 y.th.length b1, .int .i64 y.p.k, .int .i64 y.p.h, .slice C1 y.p.a.length c1, .slice D1 y.cs.length d1, .int .i64 y.r.k, .int .i64 y.r.h, .slice E1 y.r.a.length e1, .int .i64 x.f, .slice A2 x.ext.length a2, .slice B2 x.th.length b2, .int .i64 x.arg.k, .int .i64 x.arg.h, .slice C2 x.arg.a.length c2]] #[], .func (.func 27) #[.agg #[.slice A fs.length a, .slice A1 y.ms.length a1, .slice B1 y.th.length b1, .int .i64 y.p.k, .int .i64 y.p.h, .slice C1 y.p.a.length c1, .slice D1 y.cs.length d1, .int .i64 y.r.k, .int .i64 y.r.h, .slice E1 y.r.a.length e1, .int .i64 x.f, .slice A2 x.ext.length a2, .slice B2 x.th.length b2, .int .i64 x.arg.k, .int .i64 x.arg.h, .slice C2 x.arg.a.length c2]] #[]] 32)) := bl_alloc (bl_alloc (bl_alloc (bl_alloc (Below.refl _ _) _) _) _) _
  have e0 := Blk.new (((w.alloc (.cells #[.slice A1 y.ms.length a1, .slice B1 y.th.length b1, .int .i64 y.p.k, .int .i64 y.p.h, .slice C1 y.p.a.length c1, .slice D1 y.cs.length d1, .int .i64 y.r.k, .int .i64 y.r.h, .slice E1 y.r.a.length e1] 29)).alloc (.cells #[.int .i64 x.f, .slice A2 x.ext.length a2, .slice B2 x.th.length b2, .int .i64 x.arg.k, .int .i64 x.arg.h, .slice C2 x.arg.a.length c2] 31)).alloc (.cells #[.slice A fs.length a, .slice A1 y.ms.length a1, .slice B1 y.th.length b1, .int .i64 y.p.k, .int .i64 y.p.h, .slice C1 y.p.a.length c1, .slice D1 y.cs.length d1, .int .i64 y.r.k, .int .i64 y.r.h, .slice E1 y.r.a.length e1, .int .i64 x.f, .slice A2 x.ext.length a2, .slice B2 x.th.length b2, .int .i64 x.arg.k, .int .i64 x.arg.h, .slice C2 x.arg.a.length c2] 54)) #[.func (.func 24) #[.agg #[.slice A fs.length a, .slice A1 y.ms.length a1, .slice B1 y.th.length b1, .int .i64 y.p.k, .int .i64 y.p.h, .slice C1 y.p.a.length c1, .slice D1 y.cs.length d1, .int .i64 y.r.k, .int .i64 y.r.h, .slice E1 y.r.a.length e1, .int .i64 x.f, .slice A2 x.ext.length a2, .slice B2 x.th.length b2, .int .i64 x.arg.k, .int .i64 x.arg.h, .slice C2 x.arg.a.length c2]] #[], .func (.func 25) #[.agg #[.slice A fs.length a, .slice A1 y.ms.length a1, .slice B1 y.th.length b1, .int .i64 y.p.k, .int .i64 y.p.h, .slice C1 y.p.a.length c1, .slice D1 y.cs.length d1, .int .i64 y.r.k, .int .i64 y.r.h, .slice E1 y.r.a.length e1, .int .i64 x.f, .slice A2 x.ext.length a2, .slice B2 x.th.length b2, .int .i64 x.arg.k, .int .i64 x.arg.h, .slice C2 x.arg.a.length c2]] #[], .func (.func 26) #[.agg #[.slice A fs.length a, .slice A1 y.ms.length a1, .slice B1 y.th.length b1, .int .i64 y.p.k, .int .i64 y.p.h, .slice C1 y.p.a.length c1, .slice D1 y.cs.length d1, .int .i64 y.r.k, .int .i64 y.r.h, .slice E1 y.r.a.length e1, .int .i64 x.f, .slice A2 x.ext.length a2, .slice B2 x.th.length b2, .int .i64 x.arg.k, .int .i64 x.arg.h, .slice C2 x.arg.a.length c2]] #[], .func (.func 27) #[.agg #[.slice A fs.length a, .slice A1 y.ms.length a1, .slice B1 y.th.length b1, .int .i64 y.p.k, .int .i64 y.p.h, .slice C1 y.p.a.length c1, .slice D1 y.cs.length d1, .int .i64 y.r.k, .int .i64 y.r.h, .slice E1 y.r.a.length e1, .int .i64 x.f, .slice A2 x.ext.length a2, .slice B2 x.th.length b2, .int .i64 x.arg.k, .int .i64 x.arg.h, .slice C2 x.arg.a.length c2]] #[]] 32
  simp only [World.size_alloc] at e0
  have HR0 := Lib.hid (show Below w.heap.size w _ ∧ Blk _ _ _ _ from ⟨hb0, e0⟩)
  clear hb0 e0 hk0 hx0 hr
  have hmf : ∀ (fn : Fn) (first cap : Array Value) (w : World), (Instr.makeFunc fn first cap).run Try.prog w = .ok (.func fn first cap) w := fun _ _ _ _ => rfl
  go_enter Try.func11, Try.ntmps11
  go_wp2_with fail
  go_loopw [9, 24] (fun _ j wr => ∃ i : Nat, j = .int .i64 i ∧ i ≤ 4 ∧ Below w.heap.size w wr ∧ Blk wr (w.heap.size + 1 + 1 + 1) #[.func (.func 24) #[.agg #[.slice A fs.length a, .slice A1 y.ms.length a1, .slice B1 y.th.length b1, .int .i64 y.p.k, .int .i64 y.p.h, .slice C1 y.p.a.length c1, .slice D1 y.cs.length d1, .int .i64 y.r.k, .int .i64 y.r.h, .slice E1 y.r.a.length e1, .int .i64 x.f, .slice A2 x.ext.length a2, .slice B2 x.th.length b2, .int .i64 x.arg.k, .int .i64 x.arg.h, .slice C2 x.arg.a.length c2]] #[], .func (.func 25) #[.agg #[.slice A fs.length a, .slice A1 y.ms.length a1, .slice B1 y.th.length b1, .int .i64 y.p.k, .int .i64 y.p.h, .slice C1 y.p.a.length c1, .slice D1 y.cs.length d1, .int .i64 y.r.k, .int .i64 y.r.h, .slice E1 y.r.a.length e1, .int .i64 x.f, .slice A2 x.ext.length a2, .slice B2 x.th.length b2, .int .i64 x.arg.k, .int .i64 x.arg.h, .slice C2 x.arg.a.length c2]] #[], .func (.func 26) #[.agg #[.slice A fs.length a, .slice A1 y.ms.length a1, .slice B1 y.th.length b1, .int .i64 y.p.k, .int .i64 y.p.h, .slice C1 y.p.a.length c1, .slice D1 y.cs.length d1, .int .i64 y.r.k, .int .i64 y.r.h, .slice E1 y.r.a.length e1, .int .i64 x.f, .slice A2 x.ext.length a2, .slice B2 x.th.length b2, .int .i64 x.arg.k, .int .i64 x.arg.h, .slice C2 x.arg.a.length c2]] #[], .func (.func 27) #[.agg #[.slice A fs.length a, .slice A1 y.ms.length a1, .slice B1 y.th.length b1, .int .i64 y.p.k, .int .i64 y.p.h, .slice C1 y.p.a.length c1, .slice D1 y.cs.length d1, .int .i64 y.r.k, .int .i64 y.r.h, .slice E1 y.r.a.length e1, .int .i64 x.f, .slice A2 x.ext.length a2, .slice B2 x.th.length b2, .int .i64 x.arg.k, .int .i64 x.arg.h, .slice C2 x.arg.a.length c2]] #[]] 32 ∧ ((testsB fs y x).take i).all id = true) (fun _ j _ => 4 - (intOf j).toNat)
  case atStart => exact ⟨0, rfl, by omega, HR0.out.1, HR0.out.2, rfl⟩
  case round =>
    clear HR0
    obtain ⟨i, rfl, hi, hbw, hbk, hpre⟩ := hrel
    have q0 := hbk.cell 0
    have q1 := hbk.cell 1
    have q2 := hbk.cell 2
    have q3 := hbk.cell 3
    have hcs : i = 0 ∨ i = 1 ∨ i = 2 ∨ i = 3 ∨ i = 4 := by omega
    rcases hcs with rfl | rfl | rfl | rfl | rfl
    · cases hv : totB fs x
      all_goals
        have hc := h1.out wr hbw
        rw [hv] at hc
        have HC := Lib.hid hc
        have HV := Lib.hid hv
        clear hc hv
        go_wp2_with (refine HC.out.mono ?_; clear HC; rintro e w1 ⟨rfl, hb⟩)
      · go_ret
        exact ⟨ret_int (lessE_no (by unfold lessB; rw [HV.out]; simp)).symm, bl_then hbw hb⟩
      · refine ⟨⟨1, rfl, by omega, bl_then hbw hb, hbk.mov hb, ?_⟩, by simp [intOf]⟩
        rw [tests_next (i := 0) (by simp [testsB]) hpre]
        exact HV.out
    · cases hv : metB y x
      all_goals
        have hc := h2.out wr hbw
        rw [hv] at hc
        have HC := Lib.hid hc
        have HV := Lib.hid hv
        clear hc hv
        go_wp2_with (refine HC.out.mono ?_; clear HC; rintro e w1 ⟨rfl, hb⟩)
      · go_ret
        exact ⟨ret_int (lessE_no (by unfold lessB; rw [HV.out]; simp)).symm, bl_then hbw hb⟩
      · refine ⟨⟨2, rfl, by omega, bl_then hbw hb, hbk.mov hb, ?_⟩, by simp [intOf]⟩
        rw [tests_next (i := 1) (by simp [testsB]) hpre]
        exact HV.out
    · cases hv : renB x
      all_goals
        have hc := h3.out wr hbw
        rw [hv] at hc
        have HC := Lib.hid hc
        have HV := Lib.hid hv
        clear hc hv
        go_wp2_with (refine HC.out.mono ?_; clear HC; rintro e w1 ⟨rfl, hb⟩)
      · go_ret
        exact ⟨ret_int (lessE_no (by unfold lessB; rw [HV.out]; simp)).symm, bl_then hbw hb⟩
      · refine ⟨⟨3, rfl, by omega, bl_then hbw hb, hbk.mov hb, ?_⟩, by simp [intOf]⟩
        rw [tests_next (i := 2) (by simp [testsB]) hpre]
        exact HV.out
    · cases hv : partB y x
      all_goals
        have hc := h4.out wr hbw
        rw [hv] at hc
        have HC := Lib.hid hc
        have HV := Lib.hid hv
        clear hc hv
        go_wp2_with (refine HC.out.mono ?_; clear HC; rintro e w1 ⟨rfl, hb⟩)
      · go_ret
        exact ⟨ret_int (lessE_no (by unfold lessB; rw [HV.out]; simp)).symm, bl_then hbw hb⟩
      · refine ⟨⟨4, rfl, by omega, bl_then hbw hb, hbk.mov hb, ?_⟩, by simp [intOf]⟩
        rw [tests_next (i := 3) (by simp [testsB]) hpre]
        exact HV.out
    · have hyes : lessB fs y x = true := by
        simp [testsB] at hpre
        unfold lessB
        simp [hpre]
      have HY := Lib.hid hyes
      clear hyes hpre q0 q1 q2 q3
      go_wp2_with fail
      go_ret
      exact ⟨ret_int (lessE_yes HY.out).symm, hbw⟩
end Go.Proofs.Ytolpbnkkmkjejaa
