/- The law EvalClause; the contract of the reference's List. -/
import Derived.Test.YtbmmdfehhhgkcaaGreatE7
namespace Go.Proofs.YtbmmdfehhhgkcaaGreat
open Go.RowKit Go.Shelf
set_option linter.unusedVariables false
set_option linter.unusedSimpArgs false

mutual
theorem sameB_own : ∀ t : Tm, sameB t t = true
  | ⟨k, h, a⟩ => by rw [sameB, sameL_own a]; simp
theorem sameL_own : ∀ l : List Tm, sameL l l = true
  | [] => by rw [sameL]
  | t :: l => by rw [sameL, sameB_own t, sameL_own l]; rfl
end
theorem hB_c {m : Tm} (h : lightB m 300 60 = true) (hm : mayB m = true) : hB (1099511627776 + fillU) m := (light_hB h hm).mono (by decide)
/-- By one step, with a first clause that has no calls. -/
theorem evalV_one {fs : List Fu} {j : Nat} {theta : List Tm} {m : Tm} (hj : j < fs.length) (h0 : 0 < fs[j].cl.length) (hcs : fs[j].cl[0].cs = []) {bs : List Bd} (hm : MatchV (paramsV fs[j].cl[0].ms) [] fs[j].cl[0].p m (fs[j].psi.length : Int) (bd0 fs[j].cl[0].ms.length) = .ok bs)
    (hw : bs.any (fun x => !x.is) = false) {own : List Tm} (ho : AllV fs[j].cl[0].th (toldV bs) (sizesV fs[j].del) = .ok own) (hs : sameL own theta = true) :
    (evalV fs 1 (j : Int) theta m 0).1 = FillV (toldV bs) fs[j].cl[0].r (fs[j].phi.length : Int) := by
  have hf : findV fs[j] theta m = .ok (fs[j].cl[0], toldV bs) := by
    unfold findV
    have hfit : fitV fs[j].psi.length m fs[j].cl[0] = some (toldV bs, 0) := by
      unfold fitV
      rw [hm]
      dsimp only
      rw [hw]
      rfl
    have h := fitsV_at (k := fs[j].psi.length) (m := m) h0
    rw [List.drop_zero, hfit] at h
    dsimp only at h
    rw [h]
    rw [findL, if_pos rfl, ho]
    dsimp only
    rw [if_pos hs]
  rw [evalV, if_neg (by omega), if_neg (by omega)]
  simp only [Int.toNat_natCast, List.getElem?_eq_getElem hj, hf]
  rw [hcs, callsV]

structure EqRelR (ts ss : List Tm) (w : World) (i : Nat) (wr : World) : Prop where
  le : i ≤ ts.length
  below : Below w.heap.size w wr
  rest : sameL (ts.drop i) (ss.drop i) = sameL ts ss
set_option maxRecDepth 100000 in
set_option maxHeartbeats 8000000 in
theorem ListR_calls (ts ss : List Tm) (A : Option Addr) (c : Nat) (B : Option Addr) (d : Nat) (w : World) (hr : Reads (fun _ => False) w A ts) (hs : Reads (fun _ => False) w B ss) :
    Calls Tryz.prog 24 #[.slice A ts.length c, .slice B ss.length d] w fun e w' => e = .returned (.bool (sameL ts ss)) ∧ Below w.heap.size w w' := by
  have h1 := hr.len
  have h2 := hs.len
  unfold lim at h1 h2
  by_cases hq : ts.length = ss.length
  · have hne : ((ts.length : Int) != (ss.length : Int)) = false := by simp [hq]
    have HQ := Lib.hid hq
    clear hq
    go_enter Tryz.func24, Tryz.ntmps24
    go_wp2_with fail
    go_loopw [5, 6] (fun j _ wr => ∃ i : Nat, j = .int .i64 i ∧ EqRelR ts ss w i wr) (fun j _ _ => ts.length - (intOf j).toNat)
    case atStart => exact ⟨0, rfl, Nat.zero_le _, Below.refl _ _, rfl⟩
    case round =>
      obtain ⟨i, rfl, hrel⟩ := hrel
      have hbw := hrel.below
      by_cases hlt : i < ts.length
      · have hlt2 : i < ss.length := by rw [← HQ.out]; exact hlt
        obtain ⟨ad, B1, d1, rfl, -, c0, c1, c2, hd, hsub⟩ := (hr.mov hbw).at hlt
        obtain ⟨ad2, B2, d2, rfl, -, v0, v1, v2, hd2, hsub2⟩ := (hs.mov hbw).at hlt2
        have HC := Lib.hid (fun (W : World) (hb : Below wr.heap.size wr W) => SameR_calls ts[i] ss[i] B1 d1 B2 d2 W (hsub.mov hb) hd (hsub2.mov hb) hd2)
        have hres := hrel.rest
        rw [List.drop_eq_getElem_cons hlt, List.drop_eq_getElem_cons hlt2, sameL] at hres
        obtain ⟨b, hb⟩ : ∃ b, sameB ts[i] ss[i] = b := ⟨_, rfl⟩
        rw [hb] at HC hres
        have HR := Lib.hid hres
        clear hb hres hrel hsub hsub2
        cases b
        all_goals
          go_wp2_with fail
          go_still_tail 8, (by kernel_rfl)
          go_wp2_with (go_at_call 17; refine (HC.out _ (bl_eta (Below.refl _ _))).mono ?_; clear HC; rintro e w1 ⟨rfl, hb0⟩; have hb1 := bl_then (bl_eta (Below.refl _ _)) hb0; clear hb0)
        · go_ret
          exact ⟨ret_bool (by rw [← HR.out]; rfl), bl_then hbw hb1⟩
        · exact ⟨⟨i + 1, by go_num, hlt, bl_then hbw hb1, by rw [← HR.out, Bool.true_and]⟩, by simp [intOf]; omega⟩
      · obtain rfl : i = ts.length := by have := hrel.le; omega
        have hres := hrel.rest
        rw [List.drop_length, HQ.out, List.drop_length] at hres
        have HR := Lib.hid hres
        clear hres hrel
        go_wp2_with fail
        go_ret
        exact ⟨ret_bool (by rw [← HR.out]; rfl), hbw⟩
  · have hne : ((ts.length : Int) != (ss.length : Int)) = true := by simp; omega
    rw [sameL_ne hq]
    clear hq
    go_enter Tryz.func24, Tryz.ntmps24
    go_wp2_with fail
    go_ret
    exact ⟨rfl, Below.refl _ _⟩

set_option maxRecDepth 100000 in
set_option maxHeartbeats 16000000 in
theorem EvalClause_walk (w : World) (fs : List Fu) (A : Option Addr) (a : Nat) (hr : Row eF 13 (fun _ => False) w A fs) (_ : fs.length ≤ a) (gf : ∀ f ∈ fs, gF 1048576 f) (no : Int) (hn1 : -9223372036854775808 ≤ no) (hn2 : no ≤ 9223372036854775807) (theta : List Tm) (T : Option Addr) (ct : Nat) (hT : Reads (fun _ => False) w T theta) (hct : theta.length ≤ ct)
    (m : Tm) (M : Option Addr) (cm : Nat) (hM : Reads (fun _ => False) w M m.a) (hcm : m.a.length ≤ cm) (gm : gT 1048576 m) :
    Calls Tryz.prog 6 #[.slice A fs.length a, .int .i64 no, .slice T theta.length ct, .agg #[.int .i64 m.k, .int .i64 m.h, .slice M m.a.length cm]] w fun e w' => e = .returned (.bool true) ∧ Below w.heap.size w w' := by
  have hb0 : Below w.heap.size w (w.alloc (.cells #[.int .i64 m.k, .int .i64 m.h, .slice M m.a.length cm] 25)) := bl_alloc (Below.refl _ _) _
  have e0 : Blk (w.alloc (.cells #[.int .i64 m.k, .int .i64 m.h, .slice M m.a.length cm] 25)) w.heap.size #[.int .i64 m.k, .int .i64 m.h, .slice M m.a.length cm] 25 := Blk.nw _ _ _ _ rfl
  obtain ⟨W0, hW0⟩ : ∃ W0, (w.alloc (.cells #[.int .i64 m.k, .int .i64 m.h, .slice M m.a.length cm] 25)) = W0 := ⟨_, rfl⟩
  rw [hW0] at hb0 e0
  have hlf := hr.1
  unfold lim at hlf
  have HB0 := Lib.hid hb0
  have E0 := Lib.hid e0
  have HF := Lib.hid (fun (W : World) (hb : Below W0.heap.size W0 W) => LightFuns_calls fs A a W (hr.mov lasts_F (by decide) (bl_then hb0 hb)))
  have HS := Lib.hid (fun (W : World) (hb : Below W0.heap.size W0 W) => Lights_calls theta T ct 300 60 W (hT.mov (bl_then hb0 hb)))
  have HL := Lib.hid (fun (W : World) (hb : Below W0.heap.size W0 W) => Light_calls m M cm 300 60 W (hM.mov (bl_then hb0 hb)) hcm)
  obtain ⟨fb, hfb⟩ : ∃ b, funsB fs = b := ⟨_, rfl⟩
  obtain ⟨sb, hsb⟩ : ∃ b, lightsB theta 300 60 = b := ⟨_, rfl⟩
  obtain ⟨lb, hlb⟩ : ∃ b, lightB m 300 60 = b := ⟨_, rfl⟩
  rw [hfb] at HF
  rw [hsb] at HS
  rw [hlb] at HL
  by_cases hall : fb = true ∧ sb = true ∧ lb = true
  rotate_left
  · clear hb0 e0 hr gf hT hct hM hcm gm hfb hsb hlb hn1 hn2
    cases fb <;> cases sb <;> cases lb <;>
    first
    | (exact absurd ⟨rfl, rfl, rfl⟩ hall)
    | (clear hall
       go_enter Tryz.func6, Tryz.ntmps6
       go_upto_region 1 with fail
       clear hW0
       go_wp2_with (first
      | (go_at_call 10; refine (awake21_calls _).mono ?_; rintro e w1 ⟨rfl, hw1⟩)
      | (go_at_call 11; refine (HF.out _ hw1).mono ?_; clear HF; rintro e w2 ⟨rfl, hb2⟩; have hw2 := bl_then hw1 hb2)
      | (go_at_call 12; refine (HS.out _ hw2).mono ?_; clear HS; rintro e w3 ⟨rfl, hb3⟩; have hw3 := bl_then hw2 hb3; have q := E0.out.mov hw3; have m0 := q.cell 0; have m1 := q.cell 1; have m2 := q.cell 2; clear q)
      | (go_at_call 13; refine (HL.out _ hw3).mono ?_; clear HL m0 m1 m2; rintro e w4 ⟨rfl, hb4⟩; have hw4 := bl_then hw3 hb4; have hv4 := bl_then HB0.out hw4; skip))
       go_ret
       exact ⟨rfl, hv4⟩)
  obtain ⟨rfl, rfl, rfl⟩ := hall
  by_cases h0 : no < 0
  · have d0 : decide (no < 0) = true := by simp; omega
    clear hb0 e0 hr gf hT hct hM hcm gm hfb hsb hlb hn1 hn2
    go_enter Tryz.func6, Tryz.ntmps6
    go_upto_region 1 with fail
    clear hW0
    go_wp2_with (first
      | (go_at_call 10; refine (awake21_calls _).mono ?_; rintro e w1 ⟨rfl, hw1⟩)
      | (go_at_call 11; refine (HF.out _ hw1).mono ?_; clear HF; rintro e w2 ⟨rfl, hb2⟩; have hw2 := bl_then hw1 hb2)
      | (go_at_call 12; refine (HS.out _ hw2).mono ?_; clear HS; rintro e w3 ⟨rfl, hb3⟩; have hw3 := bl_then hw2 hb3; have q := E0.out.mov hw3; have m0 := q.cell 0; have m1 := q.cell 1; have m2 := q.cell 2; clear q)
      | (go_at_call 13; refine (HL.out _ hw3).mono ?_; clear HL m0 m1 m2; rintro e w4 ⟨rfl, hb4⟩; have hw4 := bl_then hw3 hb4; have hv4 := bl_then HB0.out hw4; skip))
    go_ret
    exact ⟨rfl, hv4⟩
  obtain ⟨j, rfl⟩ := Int.eq_ofNat_of_zero_le (Int.not_lt.1 h0)
  have d0 : decide (((j : Nat) : Int) < 0) = false := by simp
  by_cases hj : ¬ j < fs.length
  · have d1 : decide (fs.length ≤ j) = true := by simp; omega
    have d1' : decide ((fs.length : Int) ≤ (j : Int)) = true := by simp; omega
    clear hb0 e0 hr gf hT hct hM hcm gm hfb hsb hlb hn1 hn2 h0
    go_enter Tryz.func6, Tryz.ntmps6
    go_upto_region 1 with fail
    clear hW0
    go_wp2_with (first
      | (go_at_call 10; refine (awake21_calls _).mono ?_; rintro e w1 ⟨rfl, hw1⟩)
      | (go_at_call 11; refine (HF.out _ hw1).mono ?_; clear HF; rintro e w2 ⟨rfl, hb2⟩; have hw2 := bl_then hw1 hb2)
      | (go_at_call 12; refine (HS.out _ hw2).mono ?_; clear HS; rintro e w3 ⟨rfl, hb3⟩; have hw3 := bl_then hw2 hb3; have q := E0.out.mov hw3; have m0 := q.cell 0; have m1 := q.cell 1; have m2 := q.cell 2; clear q)
      | (go_at_call 13; refine (HL.out _ hw3).mono ?_; clear HL m0 m1 m2; rintro e w4 ⟨rfl, hb4⟩; have hw4 := bl_then hw3 hb4; have hv4 := bl_then HB0.out hw4; skip))
    go_ret
    exact ⟨rfl, hv4⟩
  replace hj : j < fs.length := by omega
  have d1 : decide (fs.length ≤ j) = false := by simp; omega
  have d1' : decide ((fs.length : Int) ≤ (j : Int)) = false := by simp; omega
  obtain ⟨ad, cs, rfl, hS0, hcl, k0, kj, hE⟩ := (hr.mov lasts_F (by decide) hb0).at hj
  obtain ⟨fA, fa, fB, fb, fC, fc, fD, fd, fE, fe, fF, ff, fG, fg, rfl, hsch, hdel, hpsi, hfa, hphi, hfbb, hfcl⟩ := hE
  have u0 := k0 _ rfl
  have u1 := kj 1 _ rfl
  have u2 := kj 2 _ rfl
  have u3 := kj 3 _ rfl
  have u4 := kj 4 _ rfl
  have u5 := kj 5 _ rfl
  have u6 := kj 6 _ rfl
  have u7 := kj 7 _ rfl
  have u8 := kj 8 _ rfl
  have u9 := kj 9 _ rfl
  have u10 := kj 10 _ rfl
  have u11 := kj 11 _ rfl
  have u12 := kj 12 _ rfl
  clear k0 kj hcl hS0
  have hlg := hfcl.2.1
  unfold lim at hlg
  by_cases hc0 : fs[j].cl.length = 0
  · have d2 : ((fs[j].cl.length : Int) == 0) = true := by simp [hc0]
    have d2' : (fs[j].cl.length == 0) = true := by simp [hc0]
    have HU := Lib.hid (fun (W : World) (hb : Below W0.heap.size W0 W) => cell_mov u12 hb)
    clear hb0 e0 hr gf hT hct hM hcm gm hfb hsb hlb hn1 hn2 h0 u0 u1 u2 u3 u4 u5 u6 u7 u8 u9 u10 u11 u12 hsch hdel hpsi hfa hphi hfbb hfcl hc0
    go_enter Tryz.func6, Tryz.ntmps6
    go_upto_region 1 with fail
    clear hW0
    go_wp2_with (first
      | (go_at_call 10; refine (awake21_calls _).mono ?_; rintro e w1 ⟨rfl, hw1⟩)
      | (go_at_call 11; refine (HF.out _ hw1).mono ?_; clear HF; rintro e w2 ⟨rfl, hb2⟩; have hw2 := bl_then hw1 hb2)
      | (go_at_call 12; refine (HS.out _ hw2).mono ?_; clear HS; rintro e w3 ⟨rfl, hb3⟩; have hw3 := bl_then hw2 hb3; have q := E0.out.mov hw3; have m0 := q.cell 0; have m1 := q.cell 1; have m2 := q.cell 2; clear q)
      | (go_at_call 13; refine (HL.out _ hw3).mono ?_; clear HL m0 m1 m2; rintro e w4 ⟨rfl, hb4⟩; have hw4 := bl_then hw3 hb4; have hv4 := bl_then HB0.out hw4; (have q12 := HU.out _ hw4)))
    go_ret
    exact ⟨rfl, hv4⟩
  have hc1 : 0 < fs[j].cl.length := by omega
  have d2 : ((fs[j].cl.length : Int) == 0) = false := by simp; intro h; exact hc0 (by rw [h]; rfl)
  have d2' : (fs[j].cl.length == 0) = false := by simp; intro h; exact hc0 (by rw [h]; rfl)
  obtain ⟨⟨cb, co, csp⟩, cs2, rfl, hsp, hS2, hcl2, kj2, hE2⟩ := hfcl.2.2 0 hc1
  dsimp only at hsp kj2 hE2
  subst hsp
  obtain ⟨kA, ka, kB, kb, kC, kc, kD, kd, kE, ke, rfl, hms, hth, hp, hcsr, hrr⟩ := hE2
  have v0 := kj2 0 _ rfl
  have v1 := kj2 1 _ rfl
  have v2 := kj2 2 _ rfl
  have v3 := kj2 3 _ rfl
  have v4 := kj2 4 _ rfl
  have v5 := kj2 5 _ rfl
  have v6 := kj2 6 _ rfl
  have v7 := kj2 7 _ rfl
  have v8 := kj2 8 _ rfl
  simp only [Nat.zero_mul, Nat.zero_add, Nat.add_zero] at v0 v1 v2 v3 v4 v5 v6 v7 v8
  clear kj2 hcl2 hS2
  have hlc := hcsr.2.1
  unfold lim at hlc
  by_cases hc2 : 0 < fs[j].cl[0].cs.length
  · have d3 : decide (0 < fs[j].cl[0].cs.length) = true := decide_eq_true hc2
    have d3' : decide ((0 : Int) < (fs[j].cl[0].cs.length : Int)) = true := decide_eq_true (by omega)
    have HU := Lib.hid (fun (W : World) (hb : Below W0.heap.size W0 W) => And.intro (cell_mov u12 hb) (cell_mov v5 hb))
    clear hb0 e0 hr gf hT hct hM hcm gm hfb hsb hlb hn1 hn2 h0 u0 u1 u2 u3 u4 u5 u6 u7 u8 u9 u10 u11 u12 hsch hdel hpsi hfa hphi hfbb hfcl hc0 v0 v1 v2 v3 v4 v5 v6 v7 v8 hms hth hp hcsr hrr
    go_enter Tryz.func6, Tryz.ntmps6
    go_upto_region 1 with fail
    clear hW0
    go_wp2_with (first
      | (go_at_call 10; refine (awake21_calls _).mono ?_; rintro e w1 ⟨rfl, hw1⟩)
      | (go_at_call 11; refine (HF.out _ hw1).mono ?_; clear HF; rintro e w2 ⟨rfl, hb2⟩; have hw2 := bl_then hw1 hb2)
      | (go_at_call 12; refine (HS.out _ hw2).mono ?_; clear HS; rintro e w3 ⟨rfl, hb3⟩; have hw3 := bl_then hw2 hb3; have q := E0.out.mov hw3; have m0 := q.cell 0; have m1 := q.cell 1; have m2 := q.cell 2; clear q)
      | (go_at_call 13; refine (HL.out _ hw3).mono ?_; clear HL m0 m1 m2; rintro e w4 ⟨rfl, hb4⟩; have hw4 := bl_then hw3 hb4; have hv4 := bl_then HB0.out hw4; (obtain ⟨q12, r5⟩ := HU.out _ hw4)))
    go_ret
    exact ⟨rfl, hv4⟩
  have d3 : decide (0 < fs[j].cl[0].cs.length) = false := decide_eq_false hc2
  have d3' : decide ((0 : Int) < (fs[j].cl[0].cs.length : Int)) = false := decide_eq_false (by omega)
  have hcs0 : fs[j].cl[0].cs = [] := List.eq_nil_of_length_eq_zero (by omega)
  have hX : fs[j].cl[0] ∈ fs[j].cl := List.getElem_mem hc1
  obtain ⟨hfo, hl20⟩ := fus_ok gf hfb
  replace hfo := hfo fs[j] (List.getElem_mem hj)
  have hmB : mayB m = true → hB 1099511627776 m := fun h => light_hB hlb h
  have hmc : cnt m ≤ 1048576 := gm.2
  have hmsl : fs[j].cl[0].ms.length ≤ 1048576 := (hfo.cl _ hX).2
  have HPA := Lib.hid (fun (W : World) (hb : Below W0.heap.size W0 W) => Params_calls fs[j].cl[0].ms kA ka W (hms.2.mov lasts_M (by decide) hb))
  have HMA := Lib.hid (fun (W : World) (hb : Below W0.heap.size W0 W) (g : Nat) (PP : Option Addr) (cpp : Nat) (h1 : Row eB 4 (fun _ => False) W (some ⟨g, 0, none⟩) (bd0 fs[j].cl[0].ms.length)) (h2 : RowBo W PP (paramsV fs[j].cl[0].ms)) =>
    Match0_calls (fun _ => False) fs[j].cl[0].ms fs[j].cl[0].p m fs[j].psi.length kC kc M cm g PP cpp W (fun _ q => q.elim) (hp.2.mov hb) hp.1 ((hM.mov hb0).mov hb) hcm h1 h2 hmsl
      (fun hpp hmm => ⟨⟨((hfo.cl _ hX).1.1 hpp).mono (by decide), (hfo.cl _ hX).1.2.1, may_cnt hpp (by have := (hfo.cl _ hX).1.2.2; omega)⟩, (hmB hmm).mono (by decide), may_cnt hmm (by omega)⟩))
  have HSI := Lib.hid (fun (W : World) (hb : Below W0.heap.size W0 W) => Sizes_calls fs[j].del fB fb W (hdel.2.mov lasts_M (by decide) hb))
  have HAL := Lib.hid (fun (W : World) (hb : Below W0.heap.size W0 W) (rho : List Tm) (R : Option Addr) (n : Nat) (hrn : rho.length ≤ n) (hR : Reads (fun _ => False) W R rho) (hrho : ∀ t ∈ rho, hB (1099511627776 + 1000) t ∧ cnt t ≤ 4000) (N : Option Addr) (dn : Nat) (hN : RdI (fun _ => False) W N (sizesV fs[j].del)) =>
    (by have h := All_calls (fun _ => False) fs[j].cl[0].th rho (sizesV fs[j].del) kB kb R n N dn W hrn (1099511627776 + 1000) (by decide) (by decide) (fun _ q => q.elim) (hth.2.mov hb) hR.toE hN (fun t ht => ⟨fun h => ((hfo.th _ hX t ht).1 h).mono (by decide), (hfo.th _ hX t ht).2⟩) (fun t ht => ⟨fun _ => (hrho t ht).1, by have := (hrho t ht).2; omega⟩)
        rw [sizesV_len] at h
        exact h : Calls Tryz.prog 22 #[.slice kB fs[j].cl[0].th.length kb, .slice R rho.length n, .slice N fs[j].del.length dn] W (RetQL (fun _ => False) (AllV fs[j].cl[0].th rho (sizesV fs[j].del)) W)))
  have HLI := Lib.hid (fun (W : World) (hb : Below W0.heap.size W0 W) (own : List Tm) (R : Option Addr) (n : Nat) (hR : Reads (fun _ => False) W R own) => ListR_calls own theta R n T ct W hR ((hT.mov hb0).mov hb))
  have HFI := Lib.hid (fun (W : World) (hb : Below W0.heap.size W0 W) (rho : List Tm) (R : Option Addr) (n : Nat) (hrn : rho.length ≤ n) (hR : Reads (fun _ => False) W R rho) (hrho : ∀ t ∈ rho, hB (1099511627776 + 1000) t ∧ cnt t ≤ 4000) =>
    Fill_callsE (fun _ => False) rho R n hrn (1099511627776 + 1000) (by decide) (by decide) fs[j].cl[0].r kE ke (fs[j].phi.length : Int) W (fun _ q => q.elim) (hrr.2.mov hb) hrr.1 hR.toE (fun h => ((hfo.r _ hX).1 h).mono (by decide)) (by have := (hfo.r _ hX).2; omega) (fun t ht => ⟨fun _ => (hrho t ht).1, by have := (hrho t ht).2; omega⟩))
  have HEV := Lib.hid (fun (W : World) (hb : Below W0.heap.size W0 W) => Eval_calls fs (fus_ok gf hfb).1 (by omega) (fun _ => False) (some ad) a (j : Int) 1 theta m T ct M cm 1099511627776 W (by decide) (by decide) (fun _ q => q.elim) room_0 (hr.mov lasts_F (by decide) (bl_then hb0 hb)) hct (hT.mov (bl_then hb0 hb)) hcm (hM.mov (bl_then hb0 hb)) (hB_c hlb) hmc)
  have HLAW := Lib.hid (fun (bs : List Bd) h1 h2 (own : List Tm) h3 h4 => evalV_one (theta := theta) (m := m) hj hc1 hcs0 (bs := bs) h1 h2 (own := own) h3 h4)
  have HRB := Lib.hid (fun (bs : List Bd) (h1 : MatchV (paramsV fs[j].cl[0].ms) [] fs[j].cl[0].p m (fs[j].psi.length : Int) (bd0 fs[j].cl[0].ms.length) = .ok bs) (h2 : bs.any (fun x => !x.is) = false) =>
    fit_bnd (B := 1099511627776) (by decide) hmB hmc (show fitV fs[j].psi.length m fs[j].cl[0] = some (toldV bs, 0) from by unfold fitV; rw [h1]; dsimp only; rw [h2]; rfl))
  obtain ⟨mv, hmv⟩ : ∃ mv, MatchV (paramsV fs[j].cl[0].ms) [] fs[j].cl[0].p m (fs[j].psi.length : Int) (bd0 fs[j].cl[0].ms.length) = mv := ⟨_, rfl⟩
  rw [hmv] at HMA HLAW HRB
  obtain ⟨ev1, hev1⟩ : ∃ ev1, evalV fs 1 (j : Int) theta m 0 = ev1 := ⟨_, rfl⟩
  rw [show (1 : Int).toNat = 1 from rfl, hev1] at HEV
  rw [hev1] at HLAW
  have HU := Lib.hid (fun (W : World) (hb : Below W0.heap.size W0 W) => show W.cell? (ad.add (j * 13)) = some (.string fs[j].nm) ∧ W.cell? ⟨(ad.add (j * 13)).block, (ad.add (j * 13)).off + 1, none⟩ = some (.slice fA fs[j].sch.length fa) ∧ W.cell? ⟨(ad.add (j * 13)).block, (ad.add (j * 13)).off + 2, none⟩ = some (.slice fB fs[j].del.length fb) ∧ W.cell? ⟨(ad.add (j * 13)).block, (ad.add (j * 13)).off + 3, none⟩ = some (.slice fC fs[j].psi.length fc) ∧ W.cell? ⟨(ad.add (j * 13)).block, (ad.add (j * 13)).off + 4, none⟩ = some (.int .i64 fs[j].a.k) ∧ W.cell? ⟨(ad.add (j * 13)).block, (ad.add (j * 13)).off + 5, none⟩ = some (.int .i64 fs[j].a.h) ∧ W.cell? ⟨(ad.add (j * 13)).block, (ad.add (j * 13)).off + 6, none⟩ = some (.slice fD fs[j].a.a.length fd) ∧ W.cell? ⟨(ad.add (j * 13)).block, (ad.add (j * 13)).off + 7, none⟩ = some (.slice fE fs[j].phi.length fe) ∧ W.cell? ⟨(ad.add (j * 13)).block, (ad.add (j * 13)).off + 8, none⟩ = some (.int .i64 fs[j].b.k) ∧ W.cell? ⟨(ad.add (j * 13)).block, (ad.add (j * 13)).off + 9, none⟩ = some (.int .i64 fs[j].b.h) ∧ W.cell? ⟨(ad.add (j * 13)).block, (ad.add (j * 13)).off + 10, none⟩ = some (.slice fF fs[j].b.a.length ff) ∧ W.cell? ⟨(ad.add (j * 13)).block, (ad.add (j * 13)).off + 11, none⟩ = some (.bool fs[j].tot) ∧ W.cell? ⟨(ad.add (j * 13)).block, (ad.add (j * 13)).off + 12, none⟩ = some (.slice (some ⟨cb, co, none⟩) fs[j].cl.length fg) from ⟨cell_mov u0 hb, cell_mov u1 hb, cell_mov u2 hb, cell_mov u3 hb, cell_mov u4 hb, cell_mov u5 hb, cell_mov u6 hb, cell_mov u7 hb, cell_mov u8 hb, cell_mov u9 hb, cell_mov u10 hb, cell_mov u11 hb, cell_mov u12 hb⟩)
  have HV := Lib.hid (fun (W : World) (hb : Below W0.heap.size W0 W) => show W.cell? ⟨cb, co, none⟩ = some (.slice kA fs[j].cl[0].ms.length ka) ∧ W.cell? ⟨cb, co + 1, none⟩ = some (.slice kB fs[j].cl[0].th.length kb) ∧ W.cell? ⟨cb, co + 2, none⟩ = some (.int .i64 fs[j].cl[0].p.k) ∧ W.cell? ⟨cb, co + 3, none⟩ = some (.int .i64 fs[j].cl[0].p.h) ∧ W.cell? ⟨cb, co + 4, none⟩ = some (.slice kC fs[j].cl[0].p.a.length kc) ∧ W.cell? ⟨cb, co + 5, none⟩ = some (.slice kD fs[j].cl[0].cs.length kd) ∧ W.cell? ⟨cb, co + 6, none⟩ = some (.int .i64 fs[j].cl[0].r.k) ∧ W.cell? ⟨cb, co + 7, none⟩ = some (.int .i64 fs[j].cl[0].r.h) ∧ W.cell? ⟨cb, co + 8, none⟩ = some (.slice kE fs[j].cl[0].r.a.length ke) from ⟨cell_mov v0 hb, cell_mov v1 hb, cell_mov v2 hb, cell_mov v3 hb, cell_mov v4 hb, cell_mov v5 hb, cell_mov v6 hb, cell_mov v7 hb, cell_mov v8 hb⟩)
  obtain ⟨O, hO⟩ : ∃ O : Obj, Obj.cells (madeCells #[.bool false, .int .i64 0, .int .i64 0, .slice none 0 0] (fs[j].cl[0].ms.length * 4)) 78 = O := ⟨_, rfl⟩
  have hmk : ∀ w : World, (Instr.makeSlice 43 (.int .i64 fs[j].cl[0].ms.length) (.int .i64 fs[j].cl[0].ms.length)).run Tryz.prog w = .ok (.slice (some ⟨w.heap.size, 0, none⟩) fs[j].cl[0].ms.length fs[j].cl[0].ms.length) (w.alloc O) := fun w => hO ▸ bd_make _ hmsl w
  have HO := Lib.hid hO
  clear hO hb0 e0 hr gf hT hct hM hcm gm hfb hsb hlb hn1 hn2 h0 u0 u1 u2 u3 u4 u5 u6 u7 u8 u9 u10 u11 u12 hsch hdel hpsi hfa hphi hfbb hfcl hc0 v0 v1 v2 v3 v4 v5 v6 v7 v8 hms hth hp hcsr hrr hcs0 hX hfo hmB hmc hmv hev1 hl20 hc2
  go_enter Tryz.func6, Tryz.ntmps6
  go_upto_region 1 with fail
  clear hW0
  go_upto_region 9 with (first
      | (go_at_call 10; refine (awake21_calls _).mono ?_; rintro e w1 ⟨rfl, hw1⟩)
      | (go_at_call 11; refine (HF.out _ hw1).mono ?_; clear HF; rintro e w2 ⟨rfl, hb2⟩; have hw2 := bl_then hw1 hb2)
      | (go_at_call 12; refine (HS.out _ hw2).mono ?_; clear HS; rintro e w3 ⟨rfl, hb3⟩; have hw3 := bl_then hw2 hb3; have q := E0.out.mov hw3; have m0 := q.cell 0; have m1 := q.cell 1; have m2 := q.cell 2; clear q)
      | (go_at_call 13; refine (HL.out _ hw3).mono ?_; clear HL m0 m1 m2; rintro e w4 ⟨rfl, hb4⟩; have hw4 := bl_then hw3 hb4; have hv4 := bl_then HB0.out hw4; (obtain ⟨q0, q1, q2, q3, q4, q5, q6, q7, q8, q9, q10, q11, q12⟩ := HU.out _ hw4; obtain ⟨r0, r1, r2, r3, r4, r5, r6, r7, r8⟩ := HV.out _ hw4; obtain ⟨s0, s1, s2, s3, s4, s5, s6, s7, s8⟩ := HV.out _ (bl_alloc hw4 (.cells #[.string fs[j].nm, .slice fA fs[j].sch.length fa, .slice fB fs[j].del.length fb, .slice fC fs[j].psi.length fc, .int .i64 fs[j].a.k, .int .i64 fs[j].a.h, .slice fD fs[j].a.a.length fd, .slice fE fs[j].phi.length fe, .int .i64 fs[j].b.k, .int .i64 fs[j].b.h, .slice fF fs[j].b.a.length ff, .bool fs[j].tot, .slice (some ⟨cb, co, none⟩) fs[j].cl.length fg] 39)); obtain ⟨W6, hW6⟩ : ∃ W6, ((w4.alloc (.cells #[.string fs[j].nm, .slice fA fs[j].sch.length fa, .slice fB fs[j].del.length fb, .slice fC fs[j].psi.length fc, .int .i64 fs[j].a.k, .int .i64 fs[j].a.h, .slice fD fs[j].a.a.length fd, .slice fE fs[j].phi.length fe, .int .i64 fs[j].b.k, .int .i64 fs[j].b.h, .slice fF fs[j].b.a.length ff, .bool fs[j].tot, .slice (some ⟨cb, co, none⟩) fs[j].cl.length fg] 39)).alloc (.cells #[.slice kA fs[j].cl[0].ms.length ka, .slice kB fs[j].cl[0].th.length kb, .int .i64 fs[j].cl[0].p.k, .int .i64 fs[j].cl[0].p.h, .slice kC fs[j].cl[0].p.a.length kc, .slice kD fs[j].cl[0].cs.length kd, .int .i64 fs[j].cl[0].r.k, .int .i64 fs[j].cl[0].r.h, .slice kE fs[j].cl[0].r.a.length ke] 42)) = W6 := ⟨_, rfl⟩; have HX6 := Lib.hid (show Below W0.heap.size W0 W6 ∧ Blk W6 w4.heap.size #[.string fs[j].nm, .slice fA fs[j].sch.length fa, .slice fB fs[j].del.length fb, .slice fC fs[j].psi.length fc, .int .i64 fs[j].a.k, .int .i64 fs[j].a.h, .slice fD fs[j].a.a.length fd, .slice fE fs[j].phi.length fe, .int .i64 fs[j].b.k, .int .i64 fs[j].b.h, .slice fF fs[j].b.a.length ff, .bool fs[j].tot, .slice (some ⟨cb, co, none⟩) fs[j].cl.length fg] 39 ∧ Blk W6 (w4.heap.size + 1) #[.slice kA fs[j].cl[0].ms.length ka, .slice kB fs[j].cl[0].th.length kb, .int .i64 fs[j].cl[0].p.k, .int .i64 fs[j].cl[0].p.h, .slice kC fs[j].cl[0].p.a.length kc, .slice kD fs[j].cl[0].cs.length kd, .int .i64 fs[j].cl[0].r.k, .int .i64 fs[j].cl[0].r.h, .slice kE fs[j].cl[0].r.a.length ke] 42 from (by rw [← hW6]; exact ⟨bl_alloc (bl_alloc hw4 _) _, (Blk.nw _ _ _ _ rfl).al _, Blk.nw _ _ _ _ (by simp)⟩)))))
  clear hW6 q0 q1 q2 q3 q4 q5 q6 q7 q8 q9 q10 q11 q12 r0 r1 r2 r3 r4 r5 r6 r7 r8 s0 s1 s2 s3 s4 s5 s6 s7 s8 hv4
  obtain ⟨hx6, b13, b14⟩ := HX6.out
  have HCE : Hid (∀ W, Below W6.heap.size W6 W → (Below W6.heap.size W6 W ∧ W.cell? ⟨w4.heap.size + 1, 0, none⟩ = some (.slice kA fs[j].cl[0].ms.length ka) ∧ W.cell? ⟨w4.heap.size + 1, 2, none⟩ = some (.int .i64 fs[j].cl[0].p.k) ∧ W.cell? ⟨w4.heap.size + 1, 3, none⟩ = some (.int .i64 fs[j].cl[0].p.h) ∧ W.cell? ⟨w4.heap.size + 1, 4, none⟩ = some (.slice kC fs[j].cl[0].p.a.length kc) ∧ W.cell? ⟨w.heap.size, 0, none⟩ = some (.int .i64 m.k) ∧ W.cell? ⟨w.heap.size, 1, none⟩ = some (.int .i64 m.h) ∧ W.cell? ⟨w.heap.size, 2, none⟩ = some (.slice M m.a.length cm) ∧ W.cell? ⟨w4.heap.size, 3, none⟩ = some (.slice fC fs[j].psi.length fc))) := Lib.hid (fun W hb => ⟨hb, (b14.mov hb).cell 0, (b14.mov hb).cell 2, (b14.mov hb).cell 3, (b14.mov hb).cell 4, (E0.out.mov (bl_then hx6 hb)).cell 0, (E0.out.mov (bl_then hx6 hb)).cell 1, (E0.out.mov (bl_then hx6 hb)).cell 2, (b13.mov hb).cell 3⟩)
  have hv6 := bl_then HB0.out hx6
  have HV6 := Lib.hid hv6
  clear hx6 b13 b14 hw4 hb4 hw3 hb3 hw2 hb2 hw1 hv6
  go_cut [15, 16] (fun s15 s16 wx => ∃ B n d x, s15 = .slice B n d ∧ s16 = .int .i64 x ∧ Below W6.heap.size W6 wx ∧ RetMC (fun _ => False) mv B n d x wx)
  case first =>
    go_region_held2 (fun W => (Below W6.heap.size W6 W ∧ W.cell? ⟨w4.heap.size + 1, 0, none⟩ = some (.slice kA fs[j].cl[0].ms.length ka) ∧ W.cell? ⟨w4.heap.size + 1, 2, none⟩ = some (.int .i64 fs[j].cl[0].p.k) ∧ W.cell? ⟨w4.heap.size + 1, 3, none⟩ = some (.int .i64 fs[j].cl[0].p.h) ∧ W.cell? ⟨w4.heap.size + 1, 4, none⟩ = some (.slice kC fs[j].cl[0].p.a.length kc) ∧ W.cell? ⟨w.heap.size, 0, none⟩ = some (.int .i64 m.k) ∧ W.cell? ⟨w.heap.size, 1, none⟩ = some (.int .i64 m.h) ∧ W.cell? ⟨w.heap.size, 2, none⟩ = some (.slice M m.a.length cm) ∧ W.cell? ⟨w4.heap.size, 3, none⟩ = some (.slice fC fs[j].psi.length fc)))
      ((first | exact HCE.out _ hx3 | exact HCE.out _ hx2 | exact HCE.out _ (bl_alloc hx2 _) | exact HCE.out _ (Below.refl _ _) | exact HCE.out _ (bl_alloc (Below.refl _ _) _) | exact HCE.out _ (Below.refl _ _).drew | exact HCE.out _ (bl_alloc (Below.refl _ _).drew _)))
      (first
        | (go_at_call 20; refine (HPA.out _ ?hb).mono ?_; (case hb => first | exact bl_then HX6.out.1 (Below.refl _ _).drew | exact bl_then HX6.out.1 (bl_alloc (Below.refl _ _) _).drew | exact bl_then HX6.out.1 (bl_alloc (Below.refl _ _).drew _)); rintro e2 w2 ⟨hb2, BP, dP, rfl, hdP, hrP⟩; have hx2 : Below W6.heap.size W6 w2 := (by first | exact bl_undrew hb2 | exact bl_then (bl_alloc (Below.refl _ _) _) (bl_undrew hb2)))
        | (go_at_call 19; refine (HMA.out _ ?hb _ _ _ ?h1 ?h2).mono ?_; (case hb => first | exact bl_then HX6.out.1 hx2 | exact bl_then HX6.out.1 (bl_alloc hx2 _)); (case h1 => (have e := HO.out; subst e; first | exact row_made ((Blk.nw W6 _ _ _ rfl).mov (bl_undrew hb2)) (Nat.le_trans hmsl (by unfold lim; omega)) | exact row_made (Blk.nw w2 _ _ _ rfl) (Nat.le_trans hmsl (by unfold lim; omega)))); (case h2 => first | exact hrP | exact hrP.mov (bl_alloc (Below.refl _ _) _)); rintro e3 w3 q; obtain ⟨hb3, B3, n3, d3, x3, rfl, hrc⟩ := q.open; have hx3 : Below W6.heap.size W6 w3 := (by first | exact bl_then hx2 hb3 | exact bl_then (bl_alloc hx2 _) hb3)))
    all_goals
      go_wp2_with fail
      go_meet
      exact ⟨_, _, _, _, rfl, rfl, hx3, hrc⟩
  case rest =>
    obtain ⟨B3, n3, d3', x3, rfl, rfl, hx3, hrc⟩ := hcut
    clear HPA HMA HCE hmk HO
    rcases hrc with ⟨rfl, hx0, rfl, rfl, rfl⟩ | ⟨bs, rfl, rfl, rfl, hdd3, hr3⟩
    · have h0' : (x3 != 0) = true := by simpa using hx0
      clear hx0
      have HX3 := Lib.hid (bl_then HV6.out hx3)
      go_wp2_with (go_at_call 21; refine (Whole0_calls _).mono ?_; rintro e w7 ⟨hb7, B5, d5, rfl⟩; have hv7 := bl_then HX3.out hb7)
      go_ret
      exact ⟨rfl, hv7⟩
    · have HWH := Lib.hid (fun (W : World) (hb : Below wc.heap.size wc W) => Whole_calls (fun _ => False) bs B3 d3' W (fun _ q => q.elim) (hr3.mov hb))
      have HX3 := Lib.hid (bl_then HV6.out hx3)
      have HY3 := Lib.hid hx3
      clear hr3
      by_cases hw : bs.any (fun x => !x.is) = true
      · have HWT := Lib.hid hw
        clear hw
        go_wp2_with (go_at_call 21; refine (HWH.out _ (Below.refl _ _)).mono ?_; rintro e w7 ⟨hb7, (⟨-, rfl⟩ | ⟨hn, -⟩)⟩; rotate_left; (exact absurd HWT.out (by rw [hn]; exact Bool.false_ne_true)); have hv7 := bl_then HX3.out hb7)
        go_ret
        exact ⟨rfl, hv7⟩
      · have hw' : bs.any (fun x => !x.is) = false := by simpa using hw
        have HWT := Lib.hid hw'
        have HRHO := Lib.hid (HRB.out bs rfl hw')
        clear hw hw'
        go_upto_region 13 with (go_at_call 21; refine (HWH.out _ (Below.refl _ _)).mono ?_; rintro e w7 ⟨hb7, (⟨hn, -⟩ | ⟨-, B5, d5, rfl, hd5, hr5⟩)⟩; (exact absurd hn (by rw [HWT.out]; exact Bool.false_ne_true)))
        have hx7 := bl_then (bl_then HX6.out.1 hx3) hb7
        have HX7 := Lib.hid hx7
        have hb67 := bl_then hx3 hb7
        have HY7 := Lib.hid hb67
        have HR5 := Lib.hid hr5
        have HD5 := Lib.hid hd5
        have hrl : bs.length = (toldV bs).length := by simp [toldV]
        have HRL := Lib.hid hrl
        have b13 := HX6.out.2.1.mov hb67
        have b14 := HX6.out.2.2.mov hb67
        have HCS : Hid (∀ W, Below w7.heap.size w7 W → (Below w7.heap.size w7 W ∧ W.cell? ⟨w4.heap.size + 1, 1, none⟩ = some (.slice kB fs[j].cl[0].th.length kb) ∧ W.cell? ⟨w4.heap.size, 2, none⟩ = some (.slice fB fs[j].del.length fb))) := Lib.hid (fun W hb => ⟨hb, (b14.mov hb).cell 1, (b13.mov hb).cell 2⟩)
        have HAL7 := Lib.hid (fun (W : World) (hb : Below w7.heap.size w7 W) => HAL.out W (bl_then HX7.out hb) (toldV bs) B5 d5 (HRL.out ▸ HD5.out) (HR5.out.mov hb) HRHO.out)
        rw [← HRL.out] at HAL7
        obtain ⟨av, hav⟩ : ∃ av, AllV fs[j].cl[0].th (toldV bs) (sizesV fs[j].del) = av := ⟨_, rfl⟩
        rw [hav] at HAL7
        have HAV := Lib.hid hav
        clear HAL HRB hx7 hb67 hr5 hd5 hrl b13 b14 hav hb7 hx3
        go_cut [19, 20] (fun s19 s20 wx => ∃ B n d y, s19 = .slice B n d ∧ s20 = .int .i64 y ∧ Below w7.heap.size w7 wx ∧ RetLC (fun _ => False) av B n d y wx)
        case first =>
          go_region_held2 (fun W => (Below w7.heap.size w7 W ∧ W.cell? ⟨w4.heap.size + 1, 1, none⟩ = some (.slice kB fs[j].cl[0].th.length kb) ∧ W.cell? ⟨w4.heap.size, 2, none⟩ = some (.slice fB fs[j].del.length fb)))
            ((first | exact HCS.out _ hx9 | exact HCS.out _ hx8 | exact HCS.out _ (Below.refl _ _) | exact HCS.out _ (Below.refl _ _).drew))
            (first
              | (go_at_call 23; refine (HSI.out _ (bl_then HX7.out (Below.refl _ _).drew)).mono ?_; rintro e8 w8 ⟨hb8, BS, dS, rfl, hdS, hrS⟩; have hx8 : Below w7.heap.size w7 w8 := bl_undrew hb8)
              | (go_at_call 22; refine (HAL7.out _ hx8 _ _ hrS).mono ?_; rintro e9 w9 q; obtain ⟨hb9, B9, n9, d9, y9, rfl, hrl⟩ := q.open; have hx9 : Below w7.heap.size w7 w9 := bl_then hx8 hb9))
          all_goals
            go_wp2_with fail
            go_meet
            exact ⟨_, _, _, _, rfl, rfl, hx9, hrl⟩
        case rest =>
          obtain ⟨B9, n9, d9, y9, rfl, rfl, hx9, hrl⟩ := hcut
          clear HCS HSI HAL7
          have HX9 := Lib.hid (bl_then HX7.out hx9)
          have HY9 := Lib.hid hx9
          rcases hrl with ⟨rfl, hy0, rfl, rfl, rfl⟩ | ⟨own, rfl, rfl, rfl, hd9, hr9⟩
          · have h0' : (y9 != 0) = true := by simpa using hy0
            clear hy0
            have HL9 := Lib.hid (HLI.out _ HX9.out [] none 0 (.nil _))
            generalize sameL [] theta = sl at *
            clear hx9 HLI HLAW
            cases sl <;>
            (go_wp2_with (go_at_call 24; refine HL9.out.mono ?_; rintro e w10 ⟨rfl, hb10⟩; have hv10 := bl_then (bl_then HB0.out HX9.out) hb10)
             go_ret
             exact ⟨rfl, hv10⟩)
          · have HL9 := Lib.hid (HLI.out _ HX9.out own B9 d9 hr9)
            clear HLI hx9 hr9
            obtain ⟨sl, hsl⟩ : ∃ sl, sameL own theta = sl := ⟨_, rfl⟩
            rw [hsl] at HL9
            cases sl
            · clear hsl HLAW
              go_wp2_with (go_at_call 24; refine HL9.out.mono ?_; rintro e w10 ⟨rfl, hb10⟩; have hv10 := bl_then (bl_then HB0.out HX9.out) hb10)
              go_ret
              exact ⟨rfl, hv10⟩
            · have hlaw := HLAW.out bs rfl HWT.out own HAV.out hsl
              clear HLAW hsl HAV
              obtain ⟨fv, hfv⟩ : ∃ fv, FillV (toldV bs) fs[j].cl[0].r (fs[j].phi.length : Int) = fv := ⟨_, rfl⟩
              rw [hfv] at hlaw
              rw [hlaw] at HEV
              have HFI7 := Lib.hid (fun (W : World) (hb : Below w7.heap.size w7 W) => HFI.out W (bl_then HX7.out hb) (toldV bs) B5 d5 (HRL.out ▸ HD5.out) (HR5.out.mov hb) HRHO.out)
              rw [hfv, ← HRL.out] at HFI7
              clear HFI hlaw hfv ev1
              rcases fv with x | t
              · go_wp2_with (first
                | (go_at_call 24; refine HL9.out.mono ?_; clear HL9; rintro e w10 ⟨rfl, hb10⟩; have hx10 := bl_then HX9.out hb10; have hy10 := bl_then HY9.out hb10; have q := E0.out.mov hx10; have m0 := q.cell 0; have m1 := q.cell 1; have m2 := q.cell 2; clear q)
                | (go_at_call 15; refine (HEV.out _ hx10).mono ?_; clear HEV m0 m1 m2; rintro e w11 ⟨hb11, hq⟩; (rcases hq with ⟨y, hy, hy0, rfl⟩ | ⟨us, _, _, hy, _⟩; rotate_left; (cases hy); obtain rfl := Except.error.inj hy; clear hy hy0; dsimp only [zeroTm]); have hy11 := bl_alloc (bl_then hy10 hb11) (.cells #[.int .i64 0, .int .i64 0, .slice none 0 0] 25); have hz11 := bl_then HY7.out hy11; have X1 := Lib.hid (Blk.nw w11 #[.int .i64 0, .int .i64 0, .slice none 0 0] 25 w11.heap.size rfl); have q14 := HX6.out.2.2.mov hz11; have r6 := q14.cell 6; have r7 := q14.cell 7; have r8 := q14.cell 8; have q13 := HX6.out.2.1.mov hz11; have r9 := q13.cell 7; clear q14 q13)
                | (go_at_call 25; refine (HFI7.out _ hy11).mono ?_; clear HFI7 r6 r7 r8 r9; rintro e w12 ⟨hb12, hq⟩; (rcases hq with ⟨y, hy, hy0, rfl⟩ | ⟨us, _, _, hy, _⟩; rotate_left; (cases hy); obtain rfl := Except.error.inj hy; clear hy hy0; dsimp only [zeroTm]); have q := (X1.out.mov hb12).al (.cells #[.int .i64 0, .int .i64 0, .slice none 0 0] 25); have o0 := q.cell 0; have o1 := q.cell 1; have o2 := q.cell 2; have b8 := Blk.nw w12 #[.int .i64 0, .int .i64 0, .slice none 0 0] 25 w12.heap.size rfl; have s0 := b8.cell 0; have s1 := b8.cell 1; have s2 := b8.cell 2; have hv12 := bl_then HB0.out (bl_then HX7.out (bl_alloc (bl_then hy11 hb12) (.cells #[.int .i64 0, .int .i64 0, .slice none 0 0] 25))); clear b8 q)
                | (go_at_call 18; refine (Same_calls ⟨0, 0, []⟩ ⟨0, 0, []⟩ none 0 none 0 _ (.nil _) (Nat.le_refl _) (.nil _) (Nat.le_refl _)).mono ?_; rintro e w13 ⟨rfl, hb13⟩; rw [sameB_own]; have hv13 := bl_then hv12 hb13))
                go_ret
                exact ⟨rfl, hv13⟩
              · go_wp2_with (first
                | (go_at_call 24; refine HL9.out.mono ?_; clear HL9; rintro e w10 ⟨rfl, hb10⟩; have hx10 := bl_then HX9.out hb10; have hy10 := bl_then HY9.out hb10; have q := E0.out.mov hx10; have m0 := q.cell 0; have m1 := q.cell 1; have m2 := q.cell 2; clear q)
                | (go_at_call 15; refine (HEV.out _ hx10).mono ?_; clear HEV m0 m1 m2; rintro e w11 ⟨hb11, hq⟩; (rcases hq with ⟨y, hy, _⟩ | ⟨us, B1, c1, hy, rfl, hc1, hr1⟩; (cases hy); obtain rfl := Except.ok.inj hy; clear hy); have hy11 := bl_alloc (bl_then hy10 hb11) (.cells #[.int .i64 t.k, .int .i64 t.h, .slice B1 t.a.length c1] 25); have hz11 := bl_then HY7.out hy11; have X1 := Lib.hid (Blk.nw w11 #[.int .i64 t.k, .int .i64 t.h, .slice B1 t.a.length c1] 25 w11.heap.size rfl); have q14 := HX6.out.2.2.mov hz11; have r6 := q14.cell 6; have r7 := q14.cell 7; have r8 := q14.cell 8; have q13 := HX6.out.2.1.mov hz11; have r9 := q13.cell 7; clear q14 q13)
                | (go_at_call 25; refine (HFI7.out _ hy11).mono ?_; clear HFI7 r6 r7 r8 r9; rintro e w12 ⟨hb12, hq⟩; (rcases hq with ⟨y, hy, _⟩ | ⟨us, B2, c2, hy, rfl, hc2, hr2⟩; (cases hy); obtain rfl := Except.ok.inj hy; clear hy); have q := (X1.out.mov hb12).al (.cells #[.int .i64 t.k, .int .i64 t.h, .slice B2 t.a.length c2] 25); have o0 := q.cell 0; have o1 := q.cell 1; have o2 := q.cell 2; have b8 := Blk.nw w12 #[.int .i64 t.k, .int .i64 t.h, .slice B2 t.a.length c2] 25 w12.heap.size rfl; have s0 := b8.cell 0; have s1 := b8.cell 1; have s2 := b8.cell 2; have hv12 := bl_then HB0.out (bl_then HX7.out (bl_alloc (bl_then hy11 hb12) (.cells #[.int .i64 t.k, .int .i64 t.h, .slice B2 t.a.length c2] 25))); clear b8 q)
                | (go_at_call 18; refine (Same_calls t t B1 c1 B2 c2 _ ((hr1.mov (bl_then (bl_alloc (Below.refl _ _) _) hb12)).mov (bl_alloc (Below.refl _ _) _)) hc1 (hr2.mov (bl_alloc (Below.refl _ _) _)) hc2).mono ?_; rintro e w13 ⟨rfl, hb13⟩; rw [sameB_own]; have hv13 := bl_then hv12 hb13))
                go_ret
                exact ⟨rfl, hv13⟩
theorem EvalClause_row (w : World) (fs : List Fu) (A : Option Addr) (a : Nat) (hr : Row eF 13 (fun _ => False) w A fs) (ha : fs.length ≤ a) (gf : ∀ f ∈ fs, gF 1048576 f) (no : Int) (hn : -9223372036854775808 ≤ no ∧ no ≤ 9223372036854775807) (theta : List Tm) (T : Option Addr) (ct : Nat) (hT : Reads (fun _ => False) w T theta) (hct : theta.length ≤ ct) (_ : okL theta)
    (m : Tm) (M : Option Addr) (cm : Nat) (hM : Reads (fun _ => False) w M m.a) (hcm : m.a.length ≤ cm) (gm : okT m) (hb : cnt m ≤ 1048576) :
    Calls Tryz.prog 6 #[.slice A fs.length a, .int .i64 no, .slice T theta.length ct, .agg #[.int .i64 m.k, .int .i64 m.h, .slice M m.a.length cm]] w fun e w' => e = .returned (.bool true) ∧ Below w.heap.size w w' :=
  EvalClause_walk w fs A a hr ha gf no hn.1 hn.2 theta T ct hT hct m M cm hM hcm ⟨gm, hb⟩
end Go.Proofs.YtbmmdfehhhgkcaaGreat
