/- The law LessAll. -/
import Derived.Test.YtolpbnkkmkjejaaK6
namespace Go.Proofs.Ytolpbnkkmkjejaa
open Go.RowKit Go.Shelf
set_option linter.unusedVariables false
set_option linter.unusedSimpArgs false

def noneK (y : Cs) : Cs := ⟨y.ms, y.th, y.p, [], y.r⟩
theorem none_yes (fs : List Fu) (y : Cs) : clauseE fs (noneK y) = 0 := rfl

structure AllRel9 (fs : List Fu) (y : Cs) (w : World) (i : Nat) (b : Bool) (wr : World) : Prop where
  le : i ≤ y.cs.length
  below : Below w.heap.size w wr
  rest : y.cs.all (lessB fs y) = (b && (y.cs.drop i).all (lessB fs y))

set_option maxHeartbeats 8000000 in
set_option maxRecDepth 100000 in
theorem LessAll_row (w : World) (fs : List Fu) (A : Option Addr) (a : Nat) (hr : Row eF 13 (fun _ => False) w A fs) (_ : fs.length ≤ a) (gf : ∀ f ∈ fs, gF 1048576 f) (y : Cs) (ks : List Value) (hk : eK (fun _ => False) w ks y) (gk : gK 1048576 y) :
    Calls Try.prog 5 #[.slice A fs.length a, .agg ks.toArray] w fun e w' => e = .returned (.bool true) ∧ Below w.heap.size w w' := by
  have hk0 := hk
  obtain ⟨A1, a1, B1, b1, C1, c1, D1, d1, E1, e1, rfl, z1, z2, z3, ⟨hd, hrd⟩, z5⟩ := hk
  have hlen := hrd.1
  unfold lim at hlen
  have hkn : eK (fun _ => False) w [.slice A1 y.ms.length a1, .slice B1 y.th.length b1, .int .i64 y.p.k, .int .i64 y.p.h, .slice C1 y.p.a.length c1, .slice none 0 0, .int .i64 y.r.k, .int .i64 y.r.h, .slice E1 y.r.a.length e1] (noneK y) := ⟨A1, a1, B1, b1, C1, c1, none, 0, E1, e1, rfl, z1, z2, z3, ⟨Nat.le_refl _, .nil _⟩, z5⟩
  have hb0 : Below w.heap.size w (w.alloc (.cells #[.slice A1 y.ms.length a1, .slice B1 y.th.length b1, .int .i64 y.p.k, .int .i64 y.p.h, .slice C1 y.p.a.length c1, .slice D1 y.cs.length d1, .int .i64 y.r.k, .int .i64 y.r.h, .slice E1 y.r.a.length e1] 29)) := bl_alloc (Below.refl _ _) _
  have e0 := Blk.new w #[.slice A1 y.ms.length a1, .slice B1 y.th.length b1, .int .i64 y.p.k, .int .i64 y.p.h, .slice C1 y.p.a.length c1, .slice D1 y.cs.length d1, .int .i64 y.r.k, .int .i64 y.r.h, .slice E1 y.r.a.length e1] 29
  have HB0 := Lib.hid hb0
  have E0 := Lib.hid e0
  have HF := Lib.hid (fun (W : World) (hb : Below w.heap.size w W) => LightFuns_calls fs A a W (hr.mov lasts_F (by decide) hb))
  have HK := Lib.hid (fun (W : World) (hb : Below w.heap.size w W) => LightClause_calls y _ W (lasts_K.mov hk0 hb))
  have HC0 := Lib.hid (fun (W : World) (hb : Below w.heap.size w W) (x : Cl) (xs : List Value) (hx : eC (fun _ => False) W xs x) => lessCall_calls fs A a y x _ xs W (hr.mov lasts_F (by decide) hb) (lasts_K.mov hk0 hb) hx gk.2.2.1)
  have H3 := Lib.hid (fun (W : World) (hb : Below w.heap.size w W) => lessClause_calls fs A a y _ W (hr.mov lasts_F (by decide) hb) (lasts_K.mov hk0 hb) gk.2.2.1)
  have H4 := Lib.hid (fun (W : World) (hb : Below w.heap.size w W) => none_yes fs y ▸ lessClause_calls fs A a (noneK y) _ W (hr.mov lasts_F (by decide) hb) (lasts_K.mov hkn hb) gk.2.2.1)
  clear hb0 e0 hk0 hkn z1 z2 z3 z5
  generalize funsB fs = fb at *
  generalize clauseB y = kb at *
  cases fb <;> cases kb
  all_goals
    go_enter Try.func5, Try.ntmps5
    go_wp2_with (first
      | (go_at_call 7; refine (awake18_calls _).mono ?_; rintro e w1 ⟨rfl, hb1⟩; have hw1 := bl_then HB0.out hb1)
      | (go_at_call 8; refine (HF.out _ hw1).mono ?_; clear HF; rintro e w2 ⟨rfl, hb2⟩; have hw2 := bl_then hw1 hb2; have q := (E0.out.mov hb1).mov hb2; have k0 := q.cell 0; have k1 := q.cell 1; have k2 := q.cell 2; have k3 := q.cell 3; have k4 := q.cell 4; have k5 := q.cell 5; have k6 := q.cell 6; have k7 := q.cell 7; have k8 := q.cell 8; clear q)
      | (go_at_call 9; refine (HK.out _ hw2).mono ?_; clear HK k0 k1 k2 k3 k4 k5 k6 k7 k8; rintro e w3 ⟨rfl, hb3⟩; have hw3 := bl_then hw2 hb3; have HX := Lib.hid (((E0.out.mov hb1).mov hb2).mov hb3)))
  all_goals first
    | (go_ret; exact ⟨rfl, hw3⟩)
    | skip
  clear hb1 hb2 hb3 hw1 hw2
  go_loopw [8, 9] (fun b j wr => ∃ (i : Nat) (v : Bool), b = .bool v ∧ j = .int .i64 i ∧ AllRel9 fs y w3 i v wr) (fun _ j _ => y.cs.length - (intOf j).toNat)
  case atStart => exact ⟨0, true, rfl, rfl, Nat.zero_le _, Below.refl _ _, by simp⟩
  case round =>
    obtain ⟨i, v, rfl, rfl, hrel⟩ := hrel
    have hbw := hrel.below
    have hrs := hrel.rest
    have q := HX.out.mov hbw
    have k0 := q.cell 0; have k1 := q.cell 1; have k2 := q.cell 2; have k3 := q.cell 3; have k4 := q.cell 4; have k5 := q.cell 5; have k6 := q.cell 6; have k7 := q.cell 7; have k8 := q.cell 8;
    have hgl := q.lt
    clear q
    by_cases hlt : i < y.cs.length
    · rw [List.drop_eq_getElem_cons hlt, List.all_cons] at hrs
      obtain ⟨ad, xs, rfl, -, hcl, g0, gj, hE⟩ := ((hrd.mov lasts_C (by decide) hw3).mov lasts_C (by decide) hbw).at hlt
      have hE0 := hE
      obtain ⟨A2, a2, B2, b2, C2, c2, rfl, -⟩ := hE
      have q0 := g0 _ rfl
      have q1 := gj 1 _ rfl
      have q2 := gj 2 _ rfl
      have q3 := gj 3 _ rfl
      have q4 := gj 4 _ rfl
      have q5 := gj 5 _ rfl
      have hcall := fun (W : World) (hb : Below wr.heap.size wr W) => HC0.out W (bl_then hw3 (bl_then hbw hb)) y.cs[i] _ (lasts_C.mov hE0 hb)
      have HC := Lib.hid hcall
      have HR := Lib.hid hrs
      clear hcall hrs hE0 hcl g0 gj hrel
      have hi0 : (0 : Int) ≤ (i : Int) := by omega
      have hi1 : (i : Int) < (y.cs.length : Int) := by omega
      cases v
      · clear HC
        go_wp2_with fail
        go_quiet (fail)
        go_wp2_with fail
        exact ⟨⟨i + 1, false, rfl, by go_num, hlt, bl_drewN hbw _, HR.out⟩, by simp [intOf]; omega⟩
      · have HR2 : Hid (y.cs.all (lessB fs y) = (lessB fs y y.cs[i] && (y.cs.drop (i + 1)).all (lessB fs y))) := HR.out
        cases hv : lessB fs y y.cs[i]
        all_goals
          have HC2 := HC.out
          first | rw [lessE_no hv] at HC2 | rw [lessE_yes hv] at HC2
          rw [hv] at HR2
          have HC3 := Lib.hid HC2
          clear HC2 HC hv
          go_wp2_with fail
          go_still_tail 9, (by kernel_rfl)
          go_wp2_with (go_at_call 11; refine (HC3.out _ (Below.refl _ _).drew).mono ?_; clear HC3; rintro e w5 ⟨rfl, hb5'⟩; have hb5 := bl_undrew hb5')
        · exact ⟨⟨i + 1, false, rfl, by go_num, hlt, bl_then hbw hb5, HR2.out⟩, by simp [intOf]; omega⟩
        · exact ⟨⟨i + 1, true, rfl, by go_num, hlt, bl_then hbw hb5, HR2.out⟩, by simp [intOf]; omega⟩
    · obtain rfl : i = y.cs.length := by have := hrel.le; omega
      rw [List.drop_length] at hrs
      have hce : y.cs.all (lessB fs y) = v := by rw [hrs]; simp
      have hww := bl_then hw3 hbw
      have H5 := Lib.hid (H3.out _ (bl_alloc hww (.cells #[.slice A1 y.ms.length a1, .slice B1 y.th.length b1, .int .i64 y.p.k, .int .i64 y.p.h, .slice C1 y.p.a.length c1, .slice none 0 0, .int .i64 y.r.k, .int .i64 y.r.h, .slice E1 y.r.a.length e1] 29)))
      have y0 := (Blk.nw wr #[.slice A1 y.ms.length a1, .slice B1 y.th.length b1, .int .i64 y.p.k, .int .i64 y.p.h, .slice C1 y.p.a.length c1, .slice none 0 0, .int .i64 y.r.k, .int .i64 y.r.h, .slice E1 y.r.a.length e1] 29 _ rfl)
      have Y0 := Lib.hid y0
      have HE := Lib.hid hce
      have hce2 : clauseE fs y = if v = true then 0 else 11 := by unfold clauseE; rw [hce]
      rw [hce2] at H5
      have H6 := Lib.hid (fun (W : World) (hb : Below w.heap.size w W) => H4.out W hb)
      clear hrs hce hce2 hrel y0 H3 H4
      cases v
      all_goals
        simp only [Bool.false_eq_true, if_false, if_true] at H5
        go_wp2_with (first
          | (go_at_call 13; (with_reducible refine H5.out.mono ?_); clear H5; rintro e w8 ⟨rfl, hb8⟩; have z := Y0.out.mov hb8; have z0 := z.cell 0; have z1 := z.cell 1; have z2 := z.cell 2; have z3 := z.cell 3; have z4 := z.cell 4; have z5 := z.cell 5; have z6 := z.cell 6; have z7 := z.cell 7; have z8 := z.cell 8; clear z)
          | (go_at_call 13; refine (H6.out _ (bl_then (bl_alloc hww _) hb8)).mono ?_; clear H6; rintro e w9 ⟨rfl, hb9⟩))
        all_goals
          go_ret
          exact ⟨by simp, bl_then (bl_then (bl_alloc hww _) hb8) hb9⟩
end Go.Proofs.Ytolpbnkkmkjejaa
