/- The law MatchFinds. -/
import Derived.Test.YteojhbhaocgjoaaPF
import Derived.Test.YteojhbhaocgjoaaFB
import Derived.Test.YteojhbhaocgjoaaO7
import Derived.Test.YteojhbhaocgjoaaRU
import Derived.Deep.RegionLaw
import Derived.Deep.RegionHeld2
namespace Go.Proofs.Yteojhbhaocgjoaa
open Go.RowKit Go.Shelf
set_option linter.unusedVariables false
set_option linter.unusedSimpArgs false

theorem okL_at : ∀ {l : List Tm}, okL l → ∀ x ∈ l, okT x
  | t :: l, h, x, hx => by
    rw [okL] at h
    rcases List.mem_cons.1 hx with rfl | hx
    · exact h.1
    · exact okL_at h.2 x hx
/-- The lengths in plain words. -/
theorem Match_callsL (params rigid : List Bool) (p t : Tm) (n : Int) (bs : List Bd) (A : Option Addr) (c : Nat) (A2 : Option Addr) (c2 : Nat) (Ab : Option Addr) (cb : Nat) (P : Option Addr) (cp : Nat) (R : Option Addr) (cr : Nat) (w : World)
    (hr : Reads (fun _ => False) w A p.a) (hc : p.a.length ≤ c) (hr2 : Reads (fun _ => False) w A2 t.a) (hc2 : t.a.length ≤ c2) (hb : Row eB 4 (fun _ => False) w Ab bs) (hcb : bs.length ≤ cb) (hP : RowBo w P params) (hR : RowBo w R rigid) (hbl : bs.length ≤ 1048576) (hpl : params.length ≤ 1048576)
    (hq : mayB p = true → mayB t = true → QM p t n) (hbb : ∀ x ∈ bs, x.is = true → (mayB x.t = true → hB bindB x.t) ∧ cnt x.t ≤ 1048576) {lb lp : Nat} (eb : bs.length = lb) (ep : params.length = lp) :
    Calls Try.prog 12 #[.agg #[.int .i64 p.k, .int .i64 p.h, .slice A p.a.length c], .agg #[.int .i64 t.k, .int .i64 t.h, .slice A2 t.a.length c2], .int .i64 n, .slice Ab lb cb, .slice P lp cp, .slice R rigid.length cr] w (RetM (MatchV params rigid p t n bs) w) := by
  subst eb
  subst ep
  exact Match_calls params rigid p t n bs A c A2 c2 Ab cb P cp R cr w hr hc hr2 hc2 hb hcb hP hR hbl hpl hq hbb
theorem cnt_len : ∀ l : List Tm, l.length ≤ cntL l
  | [] => Nat.zero_le _
  | t :: l => by
    have h1 := cnt_pos t
    have h2 := cnt_len l
    rw [cntL, List.length_cons]
    omega
set_option maxRecDepth 100000 in
set_option maxHeartbeats 16000000 in
theorem MatchFinds_row (w : World) (t : Tm) (A : Option Addr) (c : Nat) (hr : Reads (fun _ => False) w A t.a) (hc : t.a.length ≤ c) (g : okT t) (th : List Tm) (AT : Option Addr) (ct : Nat) (hrt : Reads (fun _ => False) w AT th) (hct : th.length ≤ ct) (gt : okL th)
    (n : Int) (_ : -9223372036854775808 ≤ n ∧ n ≤ 9223372036854775807) (hcn : cnt t + cntL th ≤ 1048576) :
    Calls Try.prog 7 #[.agg #[.int .i64 t.k, .int .i64 t.h, .slice A t.a.length c], .slice AT th.length ct, .int .i64 n] w fun e w' => e = .returned (.bool true) ∧ Below w.heap.size w w' := by
  obtain ⟨W0, hW0⟩ : ∃ W0, (w.alloc (.cells #[.int .i64 t.k, .int .i64 t.h, .slice A t.a.length c] 24)) = W0 := ⟨_, rfl⟩
  have hb0 : Below w.heap.size w W0 := by rw [← hW0]; exact bl_alloc (Below.refl _ _) _
  have b1 : Blk W0 w.heap.size #[.int .i64 t.k, .int .i64 t.h, .slice A t.a.length c] 24 := by rw [← hW0]; exact Blk.nw _ _ _ _ rfl
  have HB0 := Lib.hid hb0
  have E0 : Hid (∀ W, Below W0.heap.size W0 W → W.cell? ⟨w.heap.size, 0, none⟩ = some (.int .i64 t.k) ∧ W.cell? ⟨w.heap.size, 1, none⟩ = some (.int .i64 t.h) ∧ W.cell? ⟨w.heap.size, 2, none⟩ = some (.slice A t.a.length c)) :=
    Lib.hid (fun W hb => ⟨(b1.mov hb).cell 0, (b1.mov hb).cell 1, (b1.mov hb).cell 2⟩)
  have hr' := hr.mov hb0
  have hrt' := hrt.mov hb0
  have htl := hrt.len
  unfold lim at htl
  have HRT := Lib.hid (fun (W : World) (hb : Below W0.heap.size W0 W) => hrt'.mov hb)
  have HL1 := Lib.hid (fun (W : World) (hb : Below W0.heap.size W0 W) => Light_calls t A c 300 60 W (hr'.mov hb) hc)
  have HL2 := Lib.hid (fun (W : World) (hb : Below W0.heap.size W0 W) => Lights_calls th AT ct 300 60 W (hrt'.mov hb))
  have HM1 := Lib.hid (fun (W : World) (hb : Below W0.heap.size W0 W) => May_calls t A c W (hr'.mov hb) hc)
  have HPT := Lib.hid (fun (W : World) (hb : Below W0.heap.size W0 W) => Patterns_calls t A c n W (hr'.mov hb) hc)
  have HME1 := Lib.hid (fun (W : World) (hb : Below W0.heap.size W0 W) => Metas_calls t A c W (hr'.mov hb) hc g (by unfold limI; omega))
  have HG := Lib.hid (okL_at gt)
  have HCT := Lib.hid (fun (x : Tm) (hx : x ∈ th) => show cnt x ≤ 1048576 by have := cnt_mem hx; omega)
  have HFL := Lib.hid (fun (hbt : mayB t = true → hB bindB t) (hbth : ∀ x ∈ th, (mayB x = true → hB bindB x) ∧ cnt x ≤ 1048576) (W : World) (hb : Below W0.heap.size W0 W) => Fill_calls (fun _ => False) th AT ct hct bindB (by decide) (by decide) t A c n W (fun _ q => q.elim) (hr'.mov hb) hc (hrt'.mov hb) hbt (by omega) hbth)
  have HM0 := Lib.hid (fun (u : Tm) (A2 : Option Addr) (c2 : Nat) (hc2 : u.a.length ≤ c2) (hq : QM t u n) (W : World) (hb : Below W0.heap.size W0 W) (hr2 : Reads (fun _ => False) W A2 u.a) (gg gq : Nat) (h1 : Row eB 4 (fun _ => False) W (some ⟨gg, 0, none⟩) (bd0 th.length)) (h2 : RowBo W (some ⟨gq, 0, none⟩) (List.replicate th.length false)) => Match_callsL (List.replicate th.length false) [] t u n (bd0 th.length) A c A2 c2 (some ⟨gg, 0, none⟩) th.length (some ⟨gq, 0, none⟩) th.length none 0 W (hr'.mov hb) hc hr2 hc2 h1 (by rw [bd0_len]; exact Nat.le_refl _) h2 rowBo_nil (by rw [bd0_len]; have := cnt_len th; omega) (by rw [List.length_replicate]; have := cnt_len th; omega) (fun _ _ => hq) (fun x hx hi => by simp [bd0] at hx; rw [hx.2] at hi; cases hi) (bd0_len _) (List.length_replicate (n := th.length) (a := false)))
  have HP : Hid (lightB t 300 60 = true → lightsB th 300 60 = true → mayB t = true → 0 ≤ n ∧ n ≤ 100 → patsB t n = true → th.length ≤ 60 ∧ (∀ h ∈ metasOf (nodesW t 0), 0 ≤ h) ∧ hB bindB t ∧ (∀ x ∈ th, (mayB x = true → hB bindB x) ∧ cnt x ≤ 1048576) ∧ ((th.all mayB) = true → (FillV th t n = .error 2 ∨ FillV th t n = .error 4) ∨ ∃ u s, FillV th t n = .ok u ∧ QM t u n ∧ MatchV (List.replicate th.length false) [] t u n (bd0 th.length) = .ok s ∧ s.length = th.length ∧
      ∀ h ∈ metasOf (nodesW t 0), ∃ x, s[h.toNat]? = some x ∧ x.is = true ∧ th[h.toNat]? = some x.t)) :=
    Lib.hid fun l1 l2 m1 hn hp => by
      unfold lightsB at l2
      rw [Bool.and_eq_true, decide_eq_true_eq] at l2
      have hl2 : ∀ x ∈ th, lightB x 300 60 = true := fun x hx => List.all_eq_true.1 l2.2 x hx
      have hcx : ∀ x ∈ th, cnt x ≤ 1048576 := fun x hx => by have := cnt_mem hx; omega
      refine ⟨l2.1, fun h hh => metas_pos (light_hB l1 m1) h hh, (light_hB l1 m1).mono (by decide), fun x hx => ⟨fun hm => (light_hB (hl2 x hx) hm).mono (by decide), hcx x hx⟩, fun hall => ?_⟩
      rcases finds_law m1 (light_hB l1 m1) (may_cnt m1 (by omega)) hn l2.1 (fun x hx => ⟨List.all_eq_true.1 hall x hx, light_hB (hl2 x hx) (List.all_eq_true.1 hall x hx), by have := light_cnt (hcx x hx) (hl2 x hx); omega⟩) hp with e | ⟨u, s, e1, e2, e3, e4, e5, e6, e7⟩
      · exact .inl e
      · exact .inr ⟨u, s, e1, ⟨⟨(light_hB l1 m1).mono (by decide), g, may_cnt m1 (by omega)⟩, e3, e4⟩, e5, e6, e7⟩
  obtain ⟨m1, hm1⟩ : ∃ b, mayB t = b := ⟨_, rfl⟩
  obtain ⟨l1, hl1⟩ : ∃ b, lightB t 300 60 = b := ⟨_, rfl⟩
  obtain ⟨l2, hl2⟩ : ∃ b, lightsB th 300 60 = b := ⟨_, rfl⟩
  obtain ⟨pt, hpt⟩ : ∃ b, patsB t n = b := ⟨_, rfl⟩
  rw [hm1] at HM1
  rw [hl1] at HL1
  rw [hl2] at HL2
  rw [hpt] at HPT
  rw [hm1, hl1, hl2, hpt] at HP
  clear hr hrt hr' hrt' b1 hb0 hm1 hl1 hl2 hpt g gt
  obtain ⟨p0, p1, p2⟩ := E0.out _ (Below.refl _ _)
  have hcond : (l1 = true ∧ l2 = true ∧ 0 ≤ n ∧ n ≤ 100 ∧ m1 = true ∧ pt = true) ∨ ¬ (l1 = true ∧ l2 = true ∧ 0 ≤ n ∧ n ≤ 100 ∧ m1 = true ∧ pt = true) := Classical.em _
  rcases hcond with ⟨rfl, rfl, hn0, hn1, rfl, rfl⟩ | hno
  · have hn0' : ¬ n < 0 := by omega
    have hn1' : ¬ 100 < n := by omega
    have dn0 : decide (n < 0) = false := decide_eq_false hn0'
    have dn1 : decide (100 < n) = false := decide_eq_false hn1'
    obtain ⟨h60, hpos, hbt, hbth, hlaw⟩ := HP.out rfl rfl rfl ⟨hn0, hn1⟩ rfl
    have HPO := Lib.hid hpos
    have H60 := Lib.hid h60
    have HF := Lib.hid (HFL.out (fun _ => hbt) hbth)
    have HLW := Lib.hid hlaw
    clear HP HFL hpos hbt hbth hlaw h60
    go_enter Try.func7, Try.ntmps7
    go_upto_region 1 with fail
    clear hW0
    go_wp2_with (first
      | (go_at_call 8; refine (awake7_calls _).mono ?_; clear p0 p1 p2; rintro e w1 ⟨rfl, hb1⟩; have hw1 : Below (W0).heap.size W0 w1 := hb1; obtain ⟨p0, p1, p2⟩ := E0.out _ hw1)
      | (go_at_call 9; refine (HL1.out _ hw1).mono ?_; clear HL1 p0 p1 p2; rintro e w2 ⟨rfl, hb2⟩; have hw2 := bl_then hw1 hb2; obtain ⟨p0, p1, p2⟩ := E0.out _ hw2)
      | (go_at_call 19; refine (HL2.out _ hw2).mono ?_; clear HL2 p0 p1 p2; rintro e w3 ⟨rfl, hb3⟩; have hw3 := bl_then hw2 hb3; obtain ⟨p0, p1, p2⟩ := E0.out _ hw3)
      | (go_at_call 10; refine (HM1.out _ hw3).mono ?_; clear HM1 p0 p1 p2; rintro e w4 ⟨rfl, hb4⟩; have hw4 := bl_then hw3 hb4; obtain ⟨p0, p1, p2⟩ := E0.out _ hw4)
      | (go_at_call 16; refine (HPT.out _ hw4).mono ?_; clear HPT p0 p1 p2; rintro e w5 ⟨rfl, hb5⟩; have hw5 := bl_then hw4 hb5; obtain ⟨p0, p1, p2⟩ := E0.out _ hw5))
    have HW5 := Lib.hid hw5
    clear p0 p1 p2
    go_loopw [10] (fun j wr => ∃ i : Nat, j = .int .i64 i ∧ AllRel mayB th w5 i wr) (fun j _ => th.length - (intOf j).toNat)
    case atStart => exact ⟨0, rfl, .zero _ _ (Below.refl _ _)⟩
    case round =>
      obtain ⟨i, rfl, hrel⟩ := hrel
      have hwr := bl_then HW5.out hrel.below
      by_cases hlt : i < th.length
      · obtain ⟨ad, B, d, rfl, -, c0, c1, c2, hd, hsub⟩ := (HRT.out _ hwr).at hlt
        have hmc := fun (W : World) (hb : Below wr.heap.size wr W) => May_calls th[i] B d W (hsub.mov hb) hd
        have HMC := Lib.hid (fun (W : World) (hb : Below wr.heap.size wr W) => Metas_calls th[i] B d W (hsub.mov hb) hd (HG.out _ (List.getElem_mem hlt)) (by have := HCT.out _ (List.getElem_mem hlt); unfold limI; omega))
        have HCE : Hid (∀ W, Below wr.heap.size wr W → W.cell? (ad.add (i * 3)) = some (.int .i64 th[i].k) ∧ W.cell? ⟨(ad.add (i * 3)).block, (ad.add (i * 3)).off + 1, none⟩ = some (.int .i64 th[i].h) ∧ W.cell? ⟨(ad.add (i * 3)).block, (ad.add (i * 3)).off + 2, none⟩ = some (.slice B th[i].a.length d)) := Lib.hid (fun W hb => ⟨cell_mov c0 hb, cell_mov c1 hb, cell_mov c2 hb⟩)
        cases hv : mayB th[i]
        · rw [hv] at hmc
          have HMY := Lib.hid hmc
          clear hmc hsub hv hrel
          go_wp2_with (go_at_call 10; refine (HMY.out _ (Below.refl _ _)).mono ?_; clear HMY; rintro e w6 ⟨rfl, hb6⟩)
          go_ret
          exact ⟨rfl, bl_then HB0.out (bl_then hwr hb6)⟩
        · rw [hv] at hmc
          have HMY := Lib.hid hmc
          have HREL := Lib.hid hrel
          have HV := Lib.hid hv
          clear hmc hsub hv hrel
          go_wp2_with (first
            | (go_at_call 10; refine (HMY.out _ (Below.refl _ _)).mono ?_; clear HMY c0 c1 c2; rintro e w6 ⟨rfl, hb6⟩; obtain ⟨c0, c1, c2⟩ := HCE.out _ hb6)
            | (go_at_call 11; refine (HMC.out _ hb6).mono ?_; clear HMC c0 c1 c2; rintro e w7 ⟨⟨mlt, Bmt, cmt, rfl, -, -, -, -, -⟩, hb7⟩; have hb67 := bl_then hb6 hb7))
          · go_ret
            exact ⟨rfl, bl_then HB0.out (bl_then hwr hb67)⟩
          · exact ⟨⟨i + 1, by go_num, HREL.out.next hlt HV.out hb67⟩, by simp [intOf]; omega⟩
      · have hall := hrel.yes hlt
        have hil : i = th.length := by have := hrel.le; omega
        subst hil
        rcases HLW.out hall with he | ⟨u, s, hf, hq, hmv, hsl, htold⟩
        · obtain ⟨x, hx, hf⟩ : ∃ x, (x = 2 ∨ x = 4) ∧ FillV th t n = .error x := by
            rcases he with he | he
            · exact ⟨2, .inl rfl, he⟩
            · exact ⟨4, .inr rfl, he⟩
          rw [hf] at HF
          obtain ⟨p0, p1, p2⟩ := E0.out _ hwr
          clear hall he hf hrel
          rcases hx with rfl | rfl
          all_goals
            go_wp2_with (go_at_call 17; refine (HF.out _ hwr).mono ?_; clear HF p0 p1 p2; rintro e w8 ⟨hb8, (⟨x8, hn8, _, rfl⟩ | ⟨u8, B8, c8, hs8, _, _, _⟩)⟩; rotate_left; (exact absurd hs8 (by simp)); (obtain rfl := Except.error.inj hn8))
            go_ret
            exact ⟨rfl, bl_then HB0.out (bl_then hwr (bl_alloc hb8 _))⟩
        · rw [hf] at HF
          have HMX := Lib.hid (fun A2 c2 hc2 => HM0.out u A2 c2 hc2 hq)
          rw [hmv] at HMX
          have HSL := Lib.hid hsl
          have HTD := Lib.hid htold
          have HWR := Lib.hid hwr
          have hnl : ¬ ((th.length : Int) < (th.length : Int)) := by omega
          obtain ⟨p0, p1, p2⟩ := E0.out _ hwr
          clear hall hf hrel hq hmv hsl htold HM0
          go_upto_region 14 with (go_at_call 17; refine (HF.out _ hwr).mono ?_; clear HF p0 p1 p2; rintro e w8 ⟨hb8, (⟨_, hn, _⟩ | ⟨u8, B8, c8, hs8, rfl, hc8, hr8⟩)⟩; (exact absurd hn (by simp)); (obtain rfl := Except.ok.inj hs8))
          obtain ⟨W8, hW8⟩ : ∃ W8, w8.alloc (.cells #[.int .i64 u.k, .int .i64 u.h, .slice B8 u.a.length c8] 24) = W8 := ⟨_, rfl⟩
          have hb88 : Below w8.heap.size w8 W8 := by rw [← hW8]; exact bl_alloc (Below.refl _ _) _
          have hk8 : Blk W8 w8.heap.size #[.int .i64 u.k, .int .i64 u.h, .slice B8 u.a.length c8] 24 := by rw [← hW8]; exact Blk.nw _ _ _ _ rfl
          have HW8 := Lib.hid (bl_then HWR.out (bl_then hb8 hb88))
          have HK8 := Lib.hid hk8
          have HR8 := Lib.hid (hr8.mov hb88)
          have HC8 := Lib.hid hc8
          rw [hW8]
          clear hW8 hb88 hk8 hr8 hb8 hc8 hnl hlt hwr
          go_cut [13, 14] (fun s13 s14 wx => ∃ g1 c1, s13 = .slice (some ⟨g1, 0, none⟩) s.length c1 ∧ s14 = .int .i64 0 ∧ Below W8.heap.size W8 wx ∧ RowB (fun _ => False) wx (some ⟨g1, 0, none⟩) s)
          case first =>
            obtain ⟨O, hO⟩ : ∃ O : Obj, Obj.cells (madeCells #[.bool false, .int .i64 0, .int .i64 0, .slice none 0 0] (th.length * 4)) 41 = O := ⟨_, rfl⟩
            have hmk : ∀ w : World, (Instr.makeSlice 30 (.int .i64 th.length) (.int .i64 th.length)).run Try.prog w = .ok (.slice (some ⟨w.heap.size, 0, none⟩) th.length th.length) (w.alloc O) := fun w => hO ▸ bd_make th.length (by have := H60.out; omega) w
            have HO := Lib.hid hO
            obtain ⟨O2, hO2⟩ : ∃ O : Obj, Obj.cells (madeCells #[.bool false] th.length) 4 = O := ⟨_, rfl⟩
            have hmk2 : ∀ w : World, (Instr.makeSlice 36 (.int .i64 th.length) (.int .i64 th.length)).run Try.prog w = .ok (.slice (some ⟨w.heap.size, 0, none⟩) th.length th.length) (w.alloc O2) := fun w => hO2 ▸ bo_make th.length (by have := H60.out; omega) w
            have HO2 := Lib.hid hO2
            clear hO hO2
            have HS : Hid (∀ W, Below W8.heap.size W8 W → (Below W8.heap.size W8 W ∧ W.cell? ⟨w.heap.size, 0, none⟩ = some (.int .i64 t.k) ∧ W.cell? ⟨w.heap.size, 1, none⟩ = some (.int .i64 t.h) ∧ W.cell? ⟨w.heap.size, 2, none⟩ = some (.slice A t.a.length c) ∧ W.cell? ⟨w8.heap.size, 0, none⟩ = some (.int .i64 u.k) ∧ W.cell? ⟨w8.heap.size, 1, none⟩ = some (.int .i64 u.h) ∧ W.cell? ⟨w8.heap.size, 2, none⟩ = some (.slice B8 u.a.length c8))) := Lib.hid (fun W hb => by
              obtain ⟨z0, z1, z2⟩ := E0.out _ (bl_then HW8.out hb)
              have y := HK8.out.mov hb
              exact ⟨hb, z0, z1, z2, y.cell 0, y.cell 1, y.cell 2⟩)
            go_region_held2 (fun W => (Below W8.heap.size W8 W ∧ W.cell? ⟨w.heap.size, 0, none⟩ = some (.int .i64 t.k) ∧ W.cell? ⟨w.heap.size, 1, none⟩ = some (.int .i64 t.h) ∧ W.cell? ⟨w.heap.size, 2, none⟩ = some (.slice A t.a.length c) ∧ W.cell? ⟨w8.heap.size, 0, none⟩ = some (.int .i64 u.k) ∧ W.cell? ⟨w8.heap.size, 1, none⟩ = some (.int .i64 u.h) ∧ W.cell? ⟨w8.heap.size, 2, none⟩ = some (.slice B8 u.a.length c8)))
              ((first | exact HS.out _ hx9 | exact HS.out _ (Below.refl _ _) | exact HS.out _ (bl_alloc (Below.refl _ _) _) | exact HS.out _ (bl_alloc (bl_alloc (Below.refl _ _) _) _) | exact HS.out _ (Below.refl _ _).drew | exact HS.out _ (bl_alloc (Below.refl _ _) _).drew | exact HS.out _ (bl_alloc (bl_alloc (Below.refl _ _) _) _).drew))
              (first | (go_at_call 12; refine (HMX.out B8 c8 HC8.out _ ?hb ?hr _ _ ?h1 ?h2).mono ?_; (case hb => exact bl_then HW8.out (bl_alloc (bl_alloc (Below.refl _ _) _) _).drew); (case hr => exact HR8.out.mov (bl_alloc (bl_alloc (Below.refl _ _) _) _).drew); (case h1 => (have e := HO.out; subst e; first | exact row_made ((Blk.nw _ _ _ _ rfl).al _) (by have := H60.out; unfold lim; omega) | exact row_made (Blk.nw _ _ _ _ (by simp)) (by have := H60.out; unfold lim; omega))); (case h2 => (have e := HO2.out; subst e; first | exact rowBo_made ((Blk.nw _ _ _ _ rfl).al _) (by have := H60.out; unfold lim; omega) | exact rowBo_made (Blk.nw _ _ _ _ (by simp)) (by have := H60.out; unfold lim; omega))); rintro e w9 ⟨hb9, (⟨x1, hn, _⟩ | ⟨bs1, g1, c1, hs1, rfl, hc1, _, hr1⟩)⟩; (exact absurd hn (by simp)); (obtain rfl := Except.ok.inj hs1); have hx9 := bl_then (bl_alloc (bl_alloc (Below.refl W8.heap.size W8) _) _) (bl_undrew hb9)))
            all_goals
              go_wp2_with fail
              go_meet
              exact ⟨g1, c1, rfl, rfl, hx9, hr1⟩
          case rest =>
            obtain ⟨g1, c1, rfl, rfl, hwc0, hrs⟩ := hcut
            have hwc := bl_then HW8.out hwc0
            obtain ⟨p0, p1, p2⟩ := E0.out _ hwc
            have hsl9 := hrs.1
            unfold lim at hsl9
            have HRS0 := Lib.hid hrs
            have hse : ((s.length : Int) != (th.length : Int)) = false := by have := HSL.out; simp [this]
            clear hrs hwc0
            go_wp2_with (go_at_call 11; refine (HME1.out _ hwc).mono ?_; clear HME1 p0 p1 p2; rintro e w9 ⟨⟨ml, Bm, cm, rfl, -, -, hrm, -, hmem⟩, hb9⟩; have HRM := Lib.hid hrm; have HMEM := Lib.hid hmem; have hml := hrm.1; clear hrm hmem)
            unfold limI at hml
            have HW9 := Lib.hid (bl_then hwc hb9)
            have HRS := Lib.hid (HRS0.out.mov hb9)
            clear HRS0 hb9 hwc hse
            go_loopw [16] (fun j wr => ∃ i : Nat, j = .int .i64 i ∧ i ≤ ml.length ∧ Below w9.heap.size w9 wr) (fun j _ => ml.length - (intOf j).toNat)
            case atStart => exact ⟨0, rfl, Nat.zero_le _, Below.refl _ _⟩
            case round =>
              obtain ⟨i, rfl, hle, hbw⟩ := hrel
              have HWQ := Lib.hid (bl_then HW9.out hbw)
              by_cases hlt : i < ml.length
              · obtain ⟨adm, rfl, -, m0⟩ := (HRM.out.mov hbw).2 i hlt
                have hmi := (HMEM.out _).1 (List.getElem_mem hlt)
                obtain ⟨x, hx, hxi, hxt⟩ := HTD.out ml[i] hmi
                obtain ⟨j, hj⟩ := Int.eq_ofNat_of_zero_le (HPO.out ml[i] hmi)
                rw [hj] at m0 hx hxt
                rw [Int.toNat_natCast] at hx hxt
                obtain ⟨hjl, hxe⟩ := List.getElem?_eq_some_iff.1 hx
                obtain ⟨hjt, hte⟩ := List.getElem?_eq_some_iff.1 hxt
                obtain ⟨ad2, B2, d2, had2, r0, r1, r2, r3, hd2, hsub2⟩ := (HRS.out.mov hbw).2 j hjl
                obtain rfl := Option.some.inj had2
                simp only [add_plain, Nat.zero_add] at r0 r1 r2 r3
                rw [hxe, hxi] at r0
                rw [hxe] at r1 r2 r3 hd2 hsub2
                obtain ⟨ad3, B3, d3, rfl, -, k0, k1, k2, hd3, hsub3⟩ := (HRT.out _ HWQ.out).at hjt
                rw [hte] at k0 k1 k2 hd3 hsub3
                have hcx := fun (W : World) (hb : Below wr.heap.size wr W) => Same_calls x.t x.t B2 d2 B3 d3 W (hsub2.mov hb) hd2 (hsub3.mov hb) hd3
                rw [sameB_refl] at hcx
                have HC := Lib.hid hcx
                have hj0 : (0 : Int) ≤ (j : Int) := by omega
                have hj1 : (j : Int) < (s.length : Int) := by omega
                have hj2 : (j : Int) < (th.length : Int) := by omega
                have hj3 : ¬ (s.length ≤ j) := by omega
                have hi0 : (0 : Int) ≤ (i : Int) := by omega
                have hi1 : (i : Int) < (ml.length : Int) := by omega
                clear hmi hj hx hxt hxe hxi hte hcx hsub2 hsub3
                go_wp2_with fail
                go_still_tail 34, (by kernel_rfl)
                go_wp2_with (go_at_call 13; refine (HC.out _ (Below.refl _ _).drew).mono ?_; clear HC; rintro e w10 ⟨rfl, hb10'⟩; have hb10 := bl_undrew hb10')
                exact ⟨⟨i + 1, by go_num, hlt, bl_then hbw hb10⟩, by simp [intOf]; omega⟩
              · have hnl : ¬ ((i : Int) < (ml.length : Int)) := by omega
                go_wp2_with fail
                go_ret
                exact ⟨rfl, bl_then HB0.out HWQ.out⟩
  · cases pt
    all_goals
      go_enter Try.func7, Try.ntmps7
      go_upto_region 1 with fail
      clear hW0
      go_upto_region 6 with (first
        | (go_at_call 8; refine (awake7_calls _).mono ?_; clear p0 p1 p2; rintro e w1 ⟨rfl, hb1⟩; have hw1 : Below (W0).heap.size W0 w1 := hb1; obtain ⟨p0, p1, p2⟩ := E0.out _ hw1)
        | (go_at_call 9; refine (HL1.out _ hw1).mono ?_; clear HL1 p0 p1 p2; rintro e w2 ⟨rfl, hb2⟩; have hw2 := bl_then hw1 hb2; obtain ⟨p0, p1, p2⟩ := E0.out _ hw2)
        | (go_at_call 19; refine (HL2.out _ hw2).mono ?_; clear HL2 p0 p1 p2; rintro e w3 ⟨rfl, hb3⟩; have hw3 := bl_then hw2 hb3; obtain ⟨p0, p1, p2⟩ := E0.out _ hw3)
        | (go_at_call 10; refine (HM1.out _ hw3).mono ?_; clear HM1 p0 p1 p2; rintro e w4 ⟨rfl, hb4⟩; have hw4 := bl_then hw3 hb4; obtain ⟨p0, p1, p2⟩ := E0.out _ hw4)
        | (go_at_call 16; refine (HPT.out _ hw4).mono ?_; clear HPT p0 p1 p2; rintro e w5 ⟨rfl, hb5⟩; have hw5 := bl_then hw4 hb5; obtain ⟨p0, p1, p2⟩ := E0.out _ hw5))
      all_goals first
        | (go_ret; first | exact ⟨rfl, bl_then HB0.out hw7⟩ | exact ⟨rfl, bl_then HB0.out hw6⟩ | exact ⟨rfl, bl_then HB0.out hw5⟩ | exact ⟨rfl, bl_then HB0.out hw4⟩ | exact ⟨rfl, bl_then HB0.out hw3⟩)
        | (exfalso; refine hno ⟨?_, ?_, ?_, ?_, ?_, ?_⟩ <;> first | assumption | omega | trivial)
end Go.Proofs.Yteojhbhaocgjoaa
