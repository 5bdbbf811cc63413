/- The law LessMeans. -/
import Derived.Test.YtolpbnkkmkjejaaK6
namespace Go.Proofs.Ytolpbnkkmkjejaa
open Go.RowKit Go.Shelf
set_option linter.unusedVariables false
set_option linter.unusedSimpArgs false

structure InRel8 (ms : List Int) (h : Int) (w : World) (i : Nat) (b : Bool) (wr : World) : Prop where
  le : i ≤ ms.length
  below : Below w.heap.size w wr
  is : b = decide (h ∈ ms.take i)

theorem in_take {ms : List Int} {h : Int} {i : Nat} (hi : i < ms.length) : decide (h ∈ ms.take (i + 1)) = (decide (h ∈ ms.take i) || (ms[i] == h)) := by
  rw [List.take_add_one, List.getElem?_eq_getElem hi, Bool.eq_iff_iff]
  simp only [Option.toList, decide_eq_true_eq, Bool.or_eq_true, beq_iff_eq, List.mem_append, List.mem_singleton]
  constructor
  · rintro (q | q)
    · exact .inl q
    · exact .inr q.symm
  · rintro (q | q)
    · exact .inl q
    · exact .inr q.symm

set_option maxHeartbeats 8000000 in
set_option maxRecDepth 100000 in
theorem LessMeans_row (w : World) (fs : List Fu) (A : Option Addr) (a : Nat) (hr : Row eF 13 (fun _ => False) w A fs) (_ : fs.length ≤ a) (gf : ∀ f ∈ fs, gF 1048576 f) (y : Cs) (ks : List Value) (hk : eK (fun _ => False) w ks y) (gk : gK 1048576 y) (x : Cl) (xs : List Value) (hx : eC (fun _ => False) w xs x) (gx : gC 1048576 x) :
    Calls Try.prog 4 #[.slice A fs.length a, .agg ks.toArray, .agg xs.toArray] w fun e w' => e = .returned (.bool true) ∧ Below w.heap.size w w' := by
  have hlen := hr.1
  unfold lim at hlen
  have hk0 := hk
  have hx0 := hx
  obtain ⟨A1, a1, B1, b1, C1, c1, D1, d1, E1, e1, rfl, ⟨-, hms⟩, -, ⟨hcp, hrp⟩, -⟩ := hk
  obtain ⟨A2, a2, B2, b2, C2, c2, rfl, -, -, -, -, hca, hra⟩ := hx
  have hlm := hms.1
  unfold lim at hlm
  have hb0 : Below w.heap.size w ((w.alloc (.cells #[.slice A1 y.ms.length a1, .slice B1 y.th.length b1, .int .i64 y.p.k, .int .i64 y.p.h, .slice C1 y.p.a.length c1, .slice D1 y.cs.length d1, .int .i64 y.r.k, .int .i64 y.r.h, .slice E1 y.r.a.length e1] 29)).alloc (.cells #[.int .i64 x.f, .slice A2 x.ext.length a2, .slice B2 x.th.length b2, .int .i64 x.arg.k, .int .i64 x.arg.h, .slice C2 x.arg.a.length c2] 31)) := bl_alloc (bl_alloc (Below.refl _ _) _) _
  have e0 := (Blk.new w #[.slice A1 y.ms.length a1, .slice B1 y.th.length b1, .int .i64 y.p.k, .int .i64 y.p.h, .slice C1 y.p.a.length c1, .slice D1 y.cs.length d1, .int .i64 y.r.k, .int .i64 y.r.h, .slice E1 y.r.a.length e1] 29).mov (bl_alloc (Below.refl _ _) (.cells #[.int .i64 x.f, .slice A2 x.ext.length a2, .slice B2 x.th.length b2, .int .i64 x.arg.k, .int .i64 x.arg.h, .slice C2 x.arg.a.length c2] 31))
  have e1' := Blk.new (w.alloc (.cells #[.slice A1 y.ms.length a1, .slice B1 y.th.length b1, .int .i64 y.p.k, .int .i64 y.p.h, .slice C1 y.p.a.length c1, .slice D1 y.cs.length d1, .int .i64 y.r.k, .int .i64 y.r.h, .slice E1 y.r.a.length e1] 29)) #[.int .i64 x.f, .slice A2 x.ext.length a2, .slice B2 x.th.length b2, .int .i64 x.arg.k, .int .i64 x.arg.h, .slice C2 x.arg.a.length c2] 31
  simp only [World.size_alloc] at e1'
  have HB0 := Lib.hid hb0
  have E0 := Lib.hid e0
  have EX := Lib.hid e1'
  have HF := Lib.hid (fun (W : World) (hb : Below w.heap.size w W) => LightFuns_calls fs A a W (hr.mov lasts_F (by decide) hb))
  have HK := Lib.hid (fun (W : World) (hb : Below w.heap.size w W) => LightClause_calls y _ W (lasts_K.mov hk0 hb))
  have HL := Lib.hid (fun (W : World) (hb : Below w.heap.size w W) => Light_calls x.arg C2 c2 300 60 W (hra.mov hb) hca)
  have H1 := Lib.hid (fun (W : World) (hb : Below w.heap.size w W) => lessCall_calls fs A a y x _ _ W (hr.mov lasts_F (by decide) hb) (lasts_K.mov hk0 hb) (lasts_C.mov hx0 hb) gk.2.2.1)
  have H2 := Lib.hid (fun (W : World) (hb : Below w.heap.size w W) => refCall_calls fs A a y x _ _ W (hr.mov lasts_F (by decide) hb) (lasts_K.mov hk0 hb) (lasts_C.mov hx0 hb) gk.2.2.1)
  have H3 := Lib.hid (fun (W : World) (hb : Below w.heap.size w W) => lessClause_calls fs A a y _ W (hr.mov lasts_F (by decide) hb) (lasts_K.mov hk0 hb) gk.2.2.1)
  have H4 := Lib.hid (fun (W : World) (hb : Below w.heap.size w W) => refClause_calls fs A a y _ W (hr.mov lasts_F (by decide) hb) (lasts_K.mov hk0 hb) gk.2.2.1)
  clear hb0 e0 e1' hk0 hx0
  generalize funsB fs = fb at *
  generalize clauseB y = kb at *
  generalize lightB x.arg 300 60 = lb at *
  have HM := Lib.hid (fun (W : World) (hb : Below w.heap.size w W) => Metas_ret y.p C1 c1 W (hrp.mov hb) hcp gk.2.2.1.1 gk.2.2.1.2)
  clear H2 H3 H4
  cases hl : lessB fs y x
  · rw [lessE_no hl] at H1
    clear hl
    go_enter Try.func4, Try.ntmps4
    go_wp2_with (first
    | (go_at_call 7; refine (awake18_calls _).mono ?_; rintro e w1 ⟨rfl, hb1⟩; have hw1 := bl_then HB0.out hb1)
    | (go_at_call 8; refine (HF.out _ hw1).mono ?_; clear HF; rintro e w2 ⟨rfl, hb2⟩; have hw2 := bl_then hw1 hb2; have q := (E0.out.mov hb1).mov hb2; have k0 := q.cell 0; have k1 := q.cell 1; have k2 := q.cell 2; have k3 := q.cell 3; have k4 := q.cell 4; have k5 := q.cell 5; have k6 := q.cell 6; have k7 := q.cell 7; have k8 := q.cell 8; clear q)
    | (go_at_call 9; refine (HK.out _ hw2).mono ?_; clear HK k0 k1 k2 k3 k4 k5 k6 k7 k8; rintro e w3 ⟨rfl, hb3⟩; have hw3 := bl_then hw2 hb3; have q := ((EX.out.mov hb1).mov hb2).mov hb3; have x3 := q.cell 3; have x4 := q.cell 4; have x5 := q.cell 5; clear q)
    | (go_at_call 10; refine (HL.out _ hw3).mono ?_; clear HL x3 x4 x5; rintro e w4 ⟨rfl, hb4⟩; have hw4 := bl_then hw3 hb4; have q := (((E0.out.mov hb1).mov hb2).mov hb3).mov hb4; have r := (((EX.out.mov hb1).mov hb2).mov hb3).mov hb4; have k0 := q.cell 0; have k1 := q.cell 1; have k2 := q.cell 2; have k3 := q.cell 3; have k4 := q.cell 4; have k5 := q.cell 5; have k6 := q.cell 6; have k7 := q.cell 7; have k8 := q.cell 8; have x0 := r.cell 0; have x1 := r.cell 1; have x2 := r.cell 2; have x3 := r.cell 3; have x4 := r.cell 4; have x5 := r.cell 5; clear q r)
      | (go_at_call 11; refine (H1.out _ hw4).mono ?_; clear H1; rintro e w5 ⟨rfl, hb5⟩; have hw5 := bl_then hw4 hb5))
    all_goals
      go_ret
      exact ⟨rfl, by first | exact hw5 | exact hw4⟩
  · rw [lessE_yes hl] at H1
    have hl0 : totB fs x = true ∧ metB y x = true ∧ renB x = true ∧ partB y x = true := by
      unfold lessB at hl
      simpa using hl
    obtain ⟨ht, hmt, -, hpt⟩ := hl0
    simp only [totB, Bool.and_eq_true, decide_eq_true_eq] at ht
    obtain ⟨f0, f1, ft⟩ := ht
    obtain ⟨n, hn⟩ : ∃ n : Nat, x.f = (n : Int) := ⟨x.f.toNat, by omega⟩
    have hlt : n < fs.length := by omega
    rw [hn, Int.toNat_natCast, List.getElem?_eq_getElem hlt] at ft
    simp only [Option.map_some, Option.getD_some] at ft
    simp only [metB, Bool.and_eq_true, beq_iff_eq, decide_eq_true_eq] at hmt
    obtain ⟨m6, m0, m1⟩ := hmt
    simp only [partB, Bool.and_eq_true, decide_eq_true_eq] at hpt
    obtain ⟨p6, pm⟩ := hpt
    obtain ⟨ad, cs, rfl, -, hcl, g0, gj, hE⟩ := hr.at hlt
    obtain ⟨A3, a3, B3, b3, C3, c3, D3, d3, E3, e3, F3, f3, G3, g3, rfl, -⟩ := hE
    have q11 := gj 11 _ rfl
    rw [ft] at q11
    have Q11 := Lib.hid q11
    have P6 := Lib.hid p6
    have PM := Lib.hid pm
    have M6 := Lib.hid m6
    have NF := Lib.hid hn
    clear hl q11 p6 pm m6 hcl g0 gj ft hn
    generalize hmsn : (nodesW y.p 0).foldl stepM [] = ms at *
    clear hmsn
    go_enter Try.func4, Try.ntmps4
    go_wp2_with (first
    | (go_at_call 7; refine (awake18_calls _).mono ?_; rintro e w1 ⟨rfl, hb1⟩; have hw1 := bl_then HB0.out hb1)
    | (go_at_call 8; refine (HF.out _ hw1).mono ?_; clear HF; rintro e w2 ⟨rfl, hb2⟩; have hw2 := bl_then hw1 hb2; have q := (E0.out.mov hb1).mov hb2; have k0 := q.cell 0; have k1 := q.cell 1; have k2 := q.cell 2; have k3 := q.cell 3; have k4 := q.cell 4; have k5 := q.cell 5; have k6 := q.cell 6; have k7 := q.cell 7; have k8 := q.cell 8; clear q)
    | (go_at_call 9; refine (HK.out _ hw2).mono ?_; clear HK k0 k1 k2 k3 k4 k5 k6 k7 k8; rintro e w3 ⟨rfl, hb3⟩; have hw3 := bl_then hw2 hb3; have q := ((EX.out.mov hb1).mov hb2).mov hb3; have x3 := q.cell 3; have x4 := q.cell 4; have x5 := q.cell 5; clear q)
    | (go_at_call 10; refine (HL.out _ hw3).mono ?_; clear HL x3 x4 x5; rintro e w4 ⟨rfl, hb4⟩; have hw4 := bl_then hw3 hb4; have q := (((E0.out.mov hb1).mov hb2).mov hb3).mov hb4; have r := (((EX.out.mov hb1).mov hb2).mov hb3).mov hb4; have k0 := q.cell 0; have k1 := q.cell 1; have k2 := q.cell 2; have k3 := q.cell 3; have k4 := q.cell 4; have k5 := q.cell 5; have k6 := q.cell 6; have k7 := q.cell 7; have k8 := q.cell 8; have x0 := r.cell 0; have x1 := r.cell 1; have x2 := r.cell 2; have x3 := r.cell 3; have x4 := r.cell 4; have x5 := r.cell 5; clear q r)
      | (go_at_call 11; refine (H1.out _ hw4).mono ?_; clear H1; rintro e w5 ⟨rfl, hb5⟩; have hw5 := bl_then hw4 hb5; have HZ := Lib.hid (((((E0.out.mov hb1).mov hb2).mov hb3).mov hb4).mov hb5); have HY := Lib.hid (((((EX.out.mov hb1).mov hb2).mov hb3).mov hb4).mov hb5); clear k0 k1 k2 k3 k4 k5 k6 k7 k8 x0 x1 x2 x3 x4 x5; have k2 := HZ.out.cell 2; have k3 := HZ.out.cell 3; have k4 := HZ.out.cell 4)
      | (go_at_call 15; refine (HM.out _ hw5).mono ?_; clear HM; rintro e w6 ⟨⟨B6, d6, rfl, hr6⟩, hb6⟩; have hw6 := bl_then hw5 hb6))
    all_goals first
      | (go_ret; exact ⟨rfl, by first | exact hw5 | exact hw4⟩)
      | skip
    have hl6 := hr6.1
    unfold limI at hl6
    have HR6 := Lib.hid hr6
    clear k2 k3 k4 hr6
    go_loopw [12, 13] (fun b j wr => ∃ (i : Nat) (v : Bool), b = .bool v ∧ j = .int .i64 i ∧ InRel8 ms x.arg.h w6 i v wr) (fun _ j _ => ms.length - (intOf j).toNat)
    case atStart => exact ⟨0, false, rfl, rfl, Nat.zero_le _, Below.refl _ _, by simp⟩
    case round =>
      obtain ⟨i, v, rfl, rfl, hrel⟩ := hrel
      have hbw := hrel.below
      have his := hrel.is
      by_cases hli : i < ms.length
      · obtain ⟨ad6, e6, -, m2⟩ := (HR6.out.mov hbw).2 i hli
        cases e6
        have x4 := ((HY.out.mov hb6).mov hbw).cell 4
        have hi0 : (0 : Int) ≤ (i : Int) := by omega
        have hi1 : (i : Int) < (ms.length : Int) := by omega
        have hnx := in_take (h := x.arg.h) hli
        rw [← his] at hnx
        have HN := Lib.hid hnx
        clear his hnx hrel
        cases v
        · go_wp2_with fail
          go_quiet (fail)
          go_wp2_with fail
          exact ⟨⟨i + 1, _, rfl, by go_num, hli, bl_drewN hbw _, HN.out.symm⟩, by simp [intOf]; omega⟩
        · go_wp2_with fail
          go_quiet (fail)
          go_wp2_with fail
          exact ⟨⟨i + 1, true, rfl, by go_num, hli, bl_drewN hbw _, HN.out.symm⟩, by simp [intOf]; omega⟩
      · obtain rfl : i = ms.length := by have := hrel.le; omega
        rw [List.take_length, decide_eq_true PM.out] at his
        subst his
        have q := (HZ.out.mov hb6).mov hbw
        have r := (HY.out.mov hb6).mov hbw
        have k0 := q.cell 0; have k1 := q.cell 1; have k2 := q.cell 2; have k3 := q.cell 3; have k4 := q.cell 4; have k5 := q.cell 5; have k6 := q.cell 6; have k7 := q.cell 7; have k8 := q.cell 8;
        have x0 := r.cell 0; have x1 := r.cell 1; have x2 := r.cell 2; have x3 := r.cell 3; have x4 := r.cell 4; have x5 := r.cell 5;
        rw [NF.out] at x0 f0 f1
        have m6 := M6.out
        have p6 := P6.out
        have q11 := cell_mov Q11.out (bl_then hw6 hbw)
        clear q r
        go_wp2_with fail
        go_ret
        exact ⟨by simp [*], bl_then hw6 hbw⟩
end Go.Proofs.Ytolpbnkkmkjejaa
