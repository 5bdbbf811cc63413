/- The law MatchFills. -/
import Derived.Test.YteojhbhaocgjoaaPF
import Derived.Test.YteojhbhaocgjoaaFB
import Derived.Test.YteojhbhaocgjoaaO7
import Derived.Test.YteojhbhaocgjoaaRU
import Derived.Deep.RegionLaw
import Derived.Deep.RegionHeld2
namespace Go.Proofs.Yteojhbhaocgjoaa
open Go.RowKit Go.Shelf
set_option linter.unusedVariables false
set_option linter.unusedSimpArgs false

set_option maxRecDepth 100000 in
set_option maxHeartbeats 16000000 in
theorem MatchFills_row (w : World) (t : Tm) (A : Option Addr) (c : Nat) (hr : Reads (fun _ => False) w A t.a) (hc : t.a.length ≤ c) (g : okT t) (t2 : Tm) (A2 : Option Addr) (c2 : Nat) (hr2 : Reads (fun _ => False) w A2 t2.a) (hc2 : t2.a.length ≤ c2) (g2 : okT t2)
    (n : Int) (_ : -9223372036854775808 ≤ n ∧ n ≤ 9223372036854775807) (m : Int) (_ : -9223372036854775808 ≤ m ∧ m ≤ 9223372036854775807) (hcn : cnt t + cnt t2 ≤ 1048576) :
    Calls Try.prog 6 #[.agg #[.int .i64 t.k, .int .i64 t.h, .slice A t.a.length c], .agg #[.int .i64 t2.k, .int .i64 t2.h, .slice A2 t2.a.length c2], .int .i64 n, .int .i64 m] w fun e w' => e = .returned (.bool true) ∧ Below w.heap.size w w' := by
  obtain ⟨W0, hW0⟩ : ∃ W0, ((w.alloc (.cells #[.int .i64 t.k, .int .i64 t.h, .slice A t.a.length c] 24)).alloc (.cells #[.int .i64 t2.k, .int .i64 t2.h, .slice A2 t2.a.length c2] 24)) = W0 := ⟨_, rfl⟩
  have hb0 : Below w.heap.size w W0 := by rw [← hW0]; exact bl_alloc (bl_alloc (Below.refl _ _) _) _
  have b1 : Blk W0 w.heap.size #[.int .i64 t.k, .int .i64 t.h, .slice A t.a.length c] 24 := by rw [← hW0]; exact (Blk.nw _ _ _ _ rfl).al _
  have b2 : Blk W0 (w.heap.size + 1) #[.int .i64 t2.k, .int .i64 t2.h, .slice A2 t2.a.length c2] 24 := by rw [← hW0]; exact Blk.nw _ _ _ _ (by simp)
  have HB0 := Lib.hid hb0
  have E0 : Hid (∀ W, Below W0.heap.size W0 W → W.cell? ⟨w.heap.size, 0, none⟩ = some (.int .i64 t.k) ∧ W.cell? ⟨w.heap.size, 1, none⟩ = some (.int .i64 t.h) ∧ W.cell? ⟨w.heap.size, 2, none⟩ = some (.slice A t.a.length c) ∧ W.cell? ⟨w.heap.size + 1, 0, none⟩ = some (.int .i64 t2.k) ∧ W.cell? ⟨w.heap.size + 1, 1, none⟩ = some (.int .i64 t2.h) ∧ W.cell? ⟨w.heap.size + 1, 2, none⟩ = some (.slice A2 t2.a.length c2)) :=
    Lib.hid (fun W hb => ⟨(b1.mov hb).cell 0, (b1.mov hb).cell 1, (b1.mov hb).cell 2, (b2.mov hb).cell 0, (b2.mov hb).cell 1, (b2.mov hb).cell 2⟩)
  have HGB : Hid (w.heap.size < W0.heap.size) := Lib.hid b1.lt
  have HRG : Hid (Reads (fun k => k = w.heap.size) W0 A t.a) := Lib.hid (hr.step (fun k hk _ q => by omega) (fun k hk _ => hb0.block k hk))
  have hr' := hr.mov hb0
  have hr2' := hr2.mov hb0
  have HR2 := Lib.hid (fun (W : World) (hb : Below W0.heap.size W0 W) => hr2'.mov hb)
  have HL1 := Lib.hid (fun (W : World) (hb : Below W0.heap.size W0 W) => Light_calls t A c 1000 60 W (hr'.mov hb) hc)
  have HL2 := Lib.hid (fun (W : World) (hb : Below W0.heap.size W0 W) => Light_calls t2 A2 c2 1000 60 W (hr2'.mov hb) hc2)
  have HM1 := Lib.hid (fun (W : World) (hb : Below W0.heap.size W0 W) => May_calls t A c W (hr'.mov hb) hc)
  have HM2 := Lib.hid (fun (W : World) (hb : Below W0.heap.size W0 W) => May_calls t2 A2 c2 W (hr2'.mov hb) hc2)
  have HME := Lib.hid (fun (W : World) (hb : Below W0.heap.size W0 W) => Metas_calls t2 A2 c2 W (hr2'.mov hb) hc2 g2 (by unfold limI; omega))
  have HME1 := Lib.hid (fun (W : World) (hb : Below W0.heap.size W0 W) => Metas_calls t A c W (hr'.mov hb) hc g (by unfold limI; omega))
  have HPT := Lib.hid (fun (W : World) (hb : Below W0.heap.size W0 W) => Patterns_calls t A c n W (hr'.mov hb) hc)
  have HM0 := Lib.hid (fun (N : Nat) (hN : N ≤ 60) (hq : QM t t2 n) (s : List Bd) (hs : s.length = N) (hbb : ∀ x ∈ s, x.is = true → (mayB x.t = true → hB bindB x.t) ∧ cnt x.t ≤ 1048576) (cs : Nat) (hcs : s.length ≤ cs) (W : World) (hb : Below W0.heap.size W0 W) (gg gq : Nat) (h1 : Row eB 4 (fun _ => False) W (some ⟨gg, 0, none⟩) s) (h2 : RowBo W (some ⟨gq, 0, none⟩) (List.replicate N false)) => Match_calls (List.replicate N false) [] t t2 n s A c A2 c2 (some ⟨gg, 0, none⟩) cs (some ⟨gq, 0, none⟩) N none 0 W (hr'.mov hb) hc (hr2'.mov hb) hc2 h1 hcs h2 rowBo_nil (by omega) (by simp; omega) (fun _ _ => hq) hbb)
  have HP : Hid (lightB t 1000 60 = true → lightB t2 1000 60 = true → mayB t = true → mayB t2 = true → 0 ≤ n ∧ n ≤ 100 → patsB t n = true → QM t t2 n ∧ (∀ h ∈ metasOf (nodesW t 0), 0 ≤ h) ∧ hB bindB t ∧ cnt t ≤ 1048576 ∧ ∀ (N : Nat) (s : List Bd), N ≤ 60 → MatchV (List.replicate N false) [] t t2 n (bd0 N) = .ok s → s.length = N ∧ MayS s ∧ Told s (metasOf (nodesW t 0)) ∧ FillV (toldV s) t n = .ok t2 ∧ MatchV (List.replicate N false) [] t t2 n s = .ok s) :=
    Lib.hid fun l1 l2 m1 m2 hn hp => ⟨qm_of l1 l2 g (by omega) (by omega) m1 m2, fun h hh => metas_pos (light_hB l1 m1) h hh, (light_hB l1 m1).mono (by decide), by omega, fun N s hN q => fills_law m1 m2 (light_hB l1 m1) (light_hB l2 m2) (may_cnt m1 (by omega)) (may_cnt m2 (by omega)) hn hN hp q⟩
  obtain ⟨m1, hm1⟩ : ∃ b, mayB t = b := ⟨_, rfl⟩
  obtain ⟨m2, hm2⟩ : ∃ b, mayB t2 = b := ⟨_, rfl⟩
  obtain ⟨l1, hl1⟩ : ∃ b, lightB t 1000 60 = b := ⟨_, rfl⟩
  obtain ⟨l2, hl2⟩ : ∃ b, lightB t2 1000 60 = b := ⟨_, rfl⟩
  obtain ⟨pt, hpt⟩ : ∃ b, patsB t n = b := ⟨_, rfl⟩
  rw [hm1] at HM1
  rw [hm2] at HM2
  rw [hl1] at HL1
  rw [hl2] at HL2
  rw [hpt] at HPT
  rw [hm1, hm2, hl1, hl2, hpt] at HP
  clear hr hr2 hr' hr2' b1 b2 hb0 hm1 hm2 hl1 hl2 hpt g g2
  obtain ⟨p0, p1, p2, q0, q1, q2⟩ := E0.out _ (Below.refl _ _)
  have hcond : (l1 = true ∧ l2 = true ∧ 0 ≤ m ∧ m ≤ 60 ∧ 0 ≤ n ∧ n ≤ 100 ∧ m1 = true ∧ m2 = true ∧ pt = true) ∨ ¬ (l1 = true ∧ l2 = true ∧ 0 ≤ m ∧ m ≤ 60 ∧ 0 ≤ n ∧ n ≤ 100 ∧ m1 = true ∧ m2 = true ∧ pt = true) := Classical.em _
  rcases hcond with ⟨rfl, rfl, hm0, hm6, hn0, hn1, rfl, rfl, rfl⟩ | hno
  · obtain ⟨N, rfl⟩ := Int.eq_ofNat_of_zero_le hm0
    have hN : N ≤ 60 := by omega
    have hn0' : ¬ n < 0 := by omega
    have hn1' : ¬ 100 < n := by omega
    have hm0' : ¬ (N : Int) < 0 := by omega
    have hm6' : ¬ (60 : Int) < (N : Int) := by omega
    have dn0 : decide (n < 0) = false := decide_eq_false hn0'
    have dn1 : decide (100 < n) = false := decide_eq_false hn1'
    have dm0 : decide ((N : Int) < 0) = false := decide_eq_false hm0'
    have dm6 : decide ((60 : Int) < (N : Int)) = false := decide_eq_false hm6'
    obtain ⟨hq, hpos, hbp, hcp, hlaw⟩ := HP.out rfl rfl rfl rfl ⟨hn0, hn1⟩ rfl
    have HPO := Lib.hid hpos
    have HBP := Lib.hid hbp
    have HCP := Lib.hid hcp
    have HMA := Lib.hid (HM0.out N hN hq (bd0 N) (bd0_len N) (fun x hx hi => by simp [bd0] at hx; rw [hx.2] at hi; cases hi) N (by rw [bd0_len]; exact Nat.le_refl _))
    have HQQ := Lib.hid hq
    have HLW := Lib.hid (fun s q => hlaw N s hN q)
    obtain ⟨mv, hmv⟩ : ∃ mv, MatchV (List.replicate N false) [] t t2 n (bd0 N) = mv := ⟨_, rfl⟩
    rw [hmv] at HMA HLW
    rw [bd0_len] at HMA
    rw [List.length_replicate] at HMA
    clear HP hq hpos hbp hcp hlaw hmv
    cases mv with
    | error x =>
      go_enter Try.func6, Try.ntmps6
      go_upto_region 1 with fail
      clear hW0
      go_upto_region 6 with (first
        | (go_at_call 8; refine (awake7_calls _).mono ?_; clear p0 p1 p2 q0 q1 q2; rintro e w1 ⟨rfl, hb1⟩; have hw1 : Below (W0).heap.size W0 w1 := hb1; obtain ⟨p0, p1, p2, q0, q1, q2⟩ := E0.out _ hw1)
        | (go_at_call 9; refine (HL1.out _ hw1).mono ?_; clear HL1 p0 p1 p2 q0 q1 q2; rintro e w2 ⟨rfl, hb2⟩; have hw2 := bl_then hw1 hb2; obtain ⟨p0, p1, p2, q0, q1, q2⟩ := E0.out _ hw2)
        | (go_at_call 9; refine (HL2.out _ hw2).mono ?_; clear HL2 p0 p1 p2 q0 q1 q2; rintro e w3 ⟨rfl, hb3⟩; have hw3 := bl_then hw2 hb3; obtain ⟨p0, p1, p2, q0, q1, q2⟩ := E0.out _ hw3)
        | (go_at_call 10; refine (HM1.out _ hw3).mono ?_; clear HM1 p0 p1 p2 q0 q1 q2; rintro e w4 ⟨rfl, hb4⟩; have hw4 := bl_then hw3 hb4; obtain ⟨p0, p1, p2, q0, q1, q2⟩ := E0.out _ hw4)
        | (go_at_call 10; refine (HM2.out _ hw4).mono ?_; clear HM2 p0 p1 p2 q0 q1 q2; rintro e w5 ⟨rfl, hb5⟩; have hw5 := bl_then hw4 hb5; obtain ⟨p0, p1, p2, q0, q1, q2⟩ := E0.out _ hw5)
        | (go_at_call 11; refine (HME.out _ hw5).mono ?_; clear HME p0 p1 p2 q0 q1 q2; rintro e w6 ⟨⟨mlt, Bmt, cmt, rfl, -, -, -, -, -⟩, hb6⟩; have hw6 := bl_then hw5 hb6; obtain ⟨p0, p1, p2, q0, q1, q2⟩ := E0.out _ hw6)
        | (go_at_call 16; refine (HPT.out _ hw6).mono ?_; clear HPT p0 p1 p2 q0 q1 q2; rintro e w7 ⟨rfl, hb7⟩; have hw7 := bl_then hw6 hb7; obtain ⟨p0, p1, p2, q0, q1, q2⟩ := E0.out _ hw7))
      all_goals first
        | (go_ret; exact ⟨rfl, bl_then HB0.out hw6⟩)
        | (exfalso; exact absurd (List.eq_nil_of_length_eq_zero (show mlt.length = 0 by omega)) ‹¬ mlt = []›)
        | skip
      · have HWB := Lib.hid hw7
        go_cut [12, 13] (fun s12 s13 wx => s12 = .slice none 0 0 ∧ s13 = .int .i64 x ∧ x ≠ 0 ∧ Below w7.heap.size w7 wx)
        case first =>
          obtain ⟨O, hO⟩ : ∃ O : Obj, Obj.cells (madeCells #[.bool false, .int .i64 0, .int .i64 0, .slice none 0 0] (N * 4)) 41 = O := ⟨_, rfl⟩
          have hmk : ∀ w : World, (Instr.makeSlice 30 (.int .i64 N) (.int .i64 N)).run Try.prog w = .ok (.slice (some ⟨w.heap.size, 0, none⟩) N N) (w.alloc O) := fun w => hO ▸ bd_make N (by omega) w
          have HO := Lib.hid hO
          obtain ⟨O2, hO2⟩ : ∃ O : Obj, Obj.cells (madeCells #[.bool false] N) 4 = O := ⟨_, rfl⟩
          have hmk2 : ∀ w : World, (Instr.makeSlice 36 (.int .i64 N) (.int .i64 N)).run Try.prog w = .ok (.slice (some ⟨w.heap.size, 0, none⟩) N N) (w.alloc O2) := fun w => hO2 ▸ bo_make N (by omega) w
          have HO2 := Lib.hid hO2
          clear hO hO2 p0 p1 p2 q0 q1 q2
          have HS : Hid (∀ W, Below w7.heap.size w7 W → (Below w7.heap.size w7 W ∧ W.cell? ⟨w.heap.size, 0, none⟩ = some (.int .i64 t.k) ∧ W.cell? ⟨w.heap.size, 1, none⟩ = some (.int .i64 t.h) ∧ W.cell? ⟨w.heap.size, 2, none⟩ = some (.slice A t.a.length c) ∧ W.cell? ⟨w.heap.size + 1, 0, none⟩ = some (.int .i64 t2.k) ∧ W.cell? ⟨w.heap.size + 1, 1, none⟩ = some (.int .i64 t2.h) ∧ W.cell? ⟨w.heap.size + 1, 2, none⟩ = some (.slice A2 t2.a.length c2))) := Lib.hid (fun W hb => ⟨hb, E0.out _ (bl_then HWB.out hb)⟩)
          go_region_held2 (fun W => (Below w7.heap.size w7 W ∧ W.cell? ⟨w.heap.size, 0, none⟩ = some (.int .i64 t.k) ∧ W.cell? ⟨w.heap.size, 1, none⟩ = some (.int .i64 t.h) ∧ W.cell? ⟨w.heap.size, 2, none⟩ = some (.slice A t.a.length c) ∧ W.cell? ⟨w.heap.size + 1, 0, none⟩ = some (.int .i64 t2.k) ∧ W.cell? ⟨w.heap.size + 1, 1, none⟩ = some (.int .i64 t2.h) ∧ W.cell? ⟨w.heap.size + 1, 2, none⟩ = some (.slice A2 t2.a.length c2)))
            ((first | exact HS.out _ hx8 | exact HS.out _ (Below.refl _ _) | exact HS.out _ (bl_alloc (Below.refl _ _) _) | exact HS.out _ (bl_alloc (bl_alloc (Below.refl _ _) _) _) | exact HS.out _ (Below.refl _ _).drew | exact HS.out _ (bl_alloc (Below.refl _ _) _).drew | exact HS.out _ (bl_alloc (bl_alloc (Below.refl _ _) _) _).drew))
            (first | (go_at_call 12; refine (HMA.out _ ?hb _ _ ?h1 ?h2).mono ?_; (case hb => exact bl_then HWB.out (bl_alloc (bl_alloc (Below.refl _ _) _) _).drew); (case h1 => (have e := HO.out; subst e; first | exact row_made ((Blk.nw _ _ _ _ rfl).al _) (by unfold lim; omega) | exact row_made (Blk.nw _ _ _ _ (by simp)) (by unfold lim; omega))); (case h2 => (have e := HO2.out; subst e; first | exact rowBo_made ((Blk.nw _ _ _ _ rfl).al _) (by unfold lim; omega) | exact rowBo_made (Blk.nw _ _ _ _ (by simp)) (by unfold lim; omega))); rintro e w8 ⟨hb8, (⟨x1, hn, hx0, rfl⟩ | ⟨bs1, g1, c1, hs1, _, _, _⟩)⟩; (rotate_left); (exact absurd hs1 (by simp)); (obtain rfl := Except.error.inj hn); have hx8 := bl_then (bl_alloc (bl_alloc (Below.refl w7.heap.size w7) _) _) (bl_undrew hb8)))
          all_goals
            go_wp2_with fail
            go_meet
            exact ⟨rfl, rfl, hx0, hx8⟩
        case rest =>
          obtain ⟨rfl, rfl, hx0, hwc⟩ := hcut
          clear p0 p1 p2 q0 q1 q2
          go_wp2_with fail
          go_ret
          exact ⟨rfl, bl_then HB0.out (bl_then HWB.out hwc)⟩
    | ok s =>
      obtain ⟨hsl, hms, htold, hfill, hagain⟩ := HLW.out s rfl
      have hbb : ∀ x ∈ s, x.is = true → (mayB x.t = true → hB bindB x.t) ∧ cnt x.t ≤ 1048576 := fun x hx hi => ⟨fun _ => (hms x hx hi).2.1, by have := (hms x hx hi).2.2; omega⟩
      have HMB := Lib.hid (fun (cs : Nat) (hcs : s.length ≤ cs) => HM0.out N hN HQQ.out s hsl hbb cs hcs)
      rw [hagain, List.length_replicate] at HMB
      have HBB := Lib.hid hbb
      have HSL := Lib.hid hsl
      have HTD := Lib.hid htold
      have HFI := Lib.hid hfill
      clear HM0 HLW hsl hms htold hfill hagain hbb
      go_enter Try.func6, Try.ntmps6
      go_upto_region 1 with fail
      clear hW0
      go_upto_region 6 with (first
        | (go_at_call 8; refine (awake7_calls _).mono ?_; clear p0 p1 p2 q0 q1 q2; rintro e w1 ⟨rfl, hb1⟩; have hw1 : Below (W0).heap.size W0 w1 := hb1; obtain ⟨p0, p1, p2, q0, q1, q2⟩ := E0.out _ hw1)
        | (go_at_call 9; refine (HL1.out _ hw1).mono ?_; clear HL1 p0 p1 p2 q0 q1 q2; rintro e w2 ⟨rfl, hb2⟩; have hw2 := bl_then hw1 hb2; obtain ⟨p0, p1, p2, q0, q1, q2⟩ := E0.out _ hw2)
        | (go_at_call 9; refine (HL2.out _ hw2).mono ?_; clear HL2 p0 p1 p2 q0 q1 q2; rintro e w3 ⟨rfl, hb3⟩; have hw3 := bl_then hw2 hb3; obtain ⟨p0, p1, p2, q0, q1, q2⟩ := E0.out _ hw3)
        | (go_at_call 10; refine (HM1.out _ hw3).mono ?_; clear HM1 p0 p1 p2 q0 q1 q2; rintro e w4 ⟨rfl, hb4⟩; have hw4 := bl_then hw3 hb4; obtain ⟨p0, p1, p2, q0, q1, q2⟩ := E0.out _ hw4)
        | (go_at_call 10; refine (HM2.out _ hw4).mono ?_; clear HM2 p0 p1 p2 q0 q1 q2; rintro e w5 ⟨rfl, hb5⟩; have hw5 := bl_then hw4 hb5; obtain ⟨p0, p1, p2, q0, q1, q2⟩ := E0.out _ hw5)
        | (go_at_call 11; refine (HME.out _ hw5).mono ?_; clear HME p0 p1 p2 q0 q1 q2; rintro e w6 ⟨⟨mlt, Bmt, cmt, rfl, -, -, -, -, -⟩, hb6⟩; have hw6 := bl_then hw5 hb6; obtain ⟨p0, p1, p2, q0, q1, q2⟩ := E0.out _ hw6)
        | (go_at_call 16; refine (HPT.out _ hw6).mono ?_; clear HPT p0 p1 p2 q0 q1 q2; rintro e w7 ⟨rfl, hb7⟩; have hw7 := bl_then hw6 hb7; obtain ⟨p0, p1, p2, q0, q1, q2⟩ := E0.out _ hw7))
      all_goals first
        | (go_ret; exact ⟨rfl, bl_then HB0.out hw6⟩)
        | (exfalso; exact absurd (List.eq_nil_of_length_eq_zero (show mlt.length = 0 by omega)) ‹¬ mlt = []›)
        | skip
      have HWB := Lib.hid hw7
      go_cut [12, 13] (fun s12 s13 wx => ∃ g1 c1, s12 = .slice (some ⟨g1, 0, none⟩) s.length c1 ∧ s13 = .int .i64 0 ∧ s.length ≤ c1 ∧ Below w7.heap.size w7 wx ∧ RowB (fun _ => False) wx (some ⟨g1, 0, none⟩) s)
      case first =>
        obtain ⟨O, hO⟩ : ∃ O : Obj, Obj.cells (madeCells #[.bool false, .int .i64 0, .int .i64 0, .slice none 0 0] (N * 4)) 41 = O := ⟨_, rfl⟩
        have hmk : ∀ w : World, (Instr.makeSlice 30 (.int .i64 N) (.int .i64 N)).run Try.prog w = .ok (.slice (some ⟨w.heap.size, 0, none⟩) N N) (w.alloc O) := fun w => hO ▸ bd_make N (by omega) w
        have HO := Lib.hid hO
        obtain ⟨O2, hO2⟩ : ∃ O : Obj, Obj.cells (madeCells #[.bool false] N) 4 = O := ⟨_, rfl⟩
        have hmk2 : ∀ w : World, (Instr.makeSlice 36 (.int .i64 N) (.int .i64 N)).run Try.prog w = .ok (.slice (some ⟨w.heap.size, 0, none⟩) N N) (w.alloc O2) := fun w => hO2 ▸ bo_make N (by omega) w
        have HO2 := Lib.hid hO2
        clear hO hO2 p0 p1 p2 q0 q1 q2
        have HS : Hid (∀ W, Below w7.heap.size w7 W → (Below w7.heap.size w7 W ∧ W.cell? ⟨w.heap.size, 0, none⟩ = some (.int .i64 t.k) ∧ W.cell? ⟨w.heap.size, 1, none⟩ = some (.int .i64 t.h) ∧ W.cell? ⟨w.heap.size, 2, none⟩ = some (.slice A t.a.length c) ∧ W.cell? ⟨w.heap.size + 1, 0, none⟩ = some (.int .i64 t2.k) ∧ W.cell? ⟨w.heap.size + 1, 1, none⟩ = some (.int .i64 t2.h) ∧ W.cell? ⟨w.heap.size + 1, 2, none⟩ = some (.slice A2 t2.a.length c2))) := Lib.hid (fun W hb => ⟨hb, E0.out _ (bl_then HWB.out hb)⟩)
        go_region_held2 (fun W => (Below w7.heap.size w7 W ∧ W.cell? ⟨w.heap.size, 0, none⟩ = some (.int .i64 t.k) ∧ W.cell? ⟨w.heap.size, 1, none⟩ = some (.int .i64 t.h) ∧ W.cell? ⟨w.heap.size, 2, none⟩ = some (.slice A t.a.length c) ∧ W.cell? ⟨w.heap.size + 1, 0, none⟩ = some (.int .i64 t2.k) ∧ W.cell? ⟨w.heap.size + 1, 1, none⟩ = some (.int .i64 t2.h) ∧ W.cell? ⟨w.heap.size + 1, 2, none⟩ = some (.slice A2 t2.a.length c2)))
          ((first | exact HS.out _ hx8 | exact HS.out _ (Below.refl _ _) | exact HS.out _ (bl_alloc (Below.refl _ _) _) | exact HS.out _ (bl_alloc (bl_alloc (Below.refl _ _) _) _) | exact HS.out _ (Below.refl _ _).drew | exact HS.out _ (bl_alloc (Below.refl _ _) _).drew | exact HS.out _ (bl_alloc (bl_alloc (Below.refl _ _) _) _).drew))
          (first | (go_at_call 12; refine (HMA.out _ ?hb _ _ ?h1 ?h2).mono ?_; (case hb => exact bl_then HWB.out (bl_alloc (bl_alloc (Below.refl _ _) _) _).drew); (case h1 => (have e := HO.out; subst e; first | exact row_made ((Blk.nw _ _ _ _ rfl).al _) (by unfold lim; omega) | exact row_made (Blk.nw _ _ _ _ (by simp)) (by unfold lim; omega))); (case h2 => (have e := HO2.out; subst e; first | exact rowBo_made ((Blk.nw _ _ _ _ rfl).al _) (by unfold lim; omega) | exact rowBo_made (Blk.nw _ _ _ _ (by simp)) (by unfold lim; omega))); rintro e w8 ⟨hb8, (⟨x1, hn, _⟩ | ⟨bs1, g1, c1, hs1, rfl, hc1, _, hr1⟩)⟩; (exact absurd hn (by simp)); (obtain rfl := Except.ok.inj hs1); have hx8 := bl_then (bl_alloc (bl_alloc (Below.refl w7.heap.size w7) _) _) (bl_undrew hb8)))
        all_goals
          go_wp2_with fail
          go_meet
          exact ⟨g1, c1, rfl, rfl, hc1, hx8, hr1⟩
      case rest =>
        obtain ⟨g1, c1, rfl, rfl, hc1, hwc0, hrs⟩ := hcut
        have hwc := bl_then HWB.out hwc0
        clear p0 p1 p2 q0 q1 q2
        obtain ⟨p0, p1, p2, q0, q1, q2⟩ := E0.out _ hwc
        have HC1 := Lib.hid hc1
        have hsl9 := hrs.1
        unfold lim at hsl9
        have HRS0 := Lib.hid hrs
        clear hrs hwc0 hc1
        go_wp2_with (go_at_call 11; refine (HME1.out _ hwc).mono ?_; clear HME1 p0 p1 p2 q0 q1 q2; rintro e w9 ⟨⟨ml, Bm, cm, rfl, -, -, hrm, -, hmem⟩, hb9⟩; have HRM := Lib.hid hrm; have HMEM := Lib.hid hmem; have hml := hrm.1; clear hrm hmem)
        unfold limI at hml
        have HW9 := Lib.hid (bl_then hwc hb9)
        have HRS := Lib.hid (HRS0.out.mov hb9)
        clear HRS0 hb9 hwc
        go_loopw [15] (fun j wr => ∃ i : Nat, j = .int .i64 i ∧ i ≤ ml.length ∧ Below w9.heap.size w9 wr) (fun j _ => ml.length - (intOf j).toNat)
        case atStart => exact ⟨0, rfl, Nat.zero_le _, Below.refl _ _⟩
        case round =>
          obtain ⟨i, rfl, hle, hbw⟩ := hrel
          by_cases hlt : i < ml.length
          · obtain ⟨adm, rfl, -, m0⟩ := (HRM.out.mov hbw).2 i hlt
            have hmi := (HMEM.out _).1 (List.getElem_mem hlt)
            obtain ⟨x, hx, hxi⟩ := HTD.out ml[i] hmi
            obtain ⟨j, hj⟩ := Int.eq_ofNat_of_zero_le (HPO.out ml[i] hmi)
            rw [hj] at m0 hx
            rw [Int.toNat_natCast] at hx
            obtain ⟨hjl, hxe⟩ := List.getElem?_eq_some_iff.1 hx
            obtain ⟨ad2, B2, d2, had2, r0, -, -, -, -, -⟩ := (HRS.out.mov hbw).2 j hjl
            obtain rfl := Option.some.inj had2
            simp only [add_plain, Nat.zero_add] at r0
            rw [hxe, hxi] at r0
            have hj0 : (0 : Int) ≤ (j : Int) := by omega
            have hj1 : (j : Int) < (s.length : Int) := by omega
            have hj3 : ¬ (s.length ≤ j) := by omega
            have hi0 : (0 : Int) ≤ (i : Int) := by omega
            have hi1 : (i : Int) < (ml.length : Int) := by omega
            clear hmi hj hx hxe hxi
            go_wp2_with fail
            (try (go_quiet (fail)))
            (try (go_wp2_with fail))
            exact ⟨⟨i + 1, by go_num, hlt, by first | exact hbw | exact bl_drewNb7 hbw _⟩, by simp [intOf]; omega⟩
          · have hwr := bl_then HW9.out hbw
            have HWR := Lib.hid hwr
            have HRW := Lib.hid (HRS.out.mov hbw)
            have HGW : Hid (w.heap.size < wr.heap.size) := Lib.hid (Nat.lt_of_lt_of_le HGB.out hwr.size)
            have HRGW := Lib.hid (HRG.out.mov hwr)
            have HTO : Hid (∀ W, Below wr.heap.size wr W → Calls Try.prog 18 #[.slice (some ⟨g1, 0, none⟩) s.length c1] W fun e w' => Below W.heap.size W w' ∧ ∃ B d, e = .returned (.slice B s.length d) ∧ s.length ≤ d ∧ Reads (fun k => wr.heap.size ≤ k ∧ k < W.heap.size) w' B (toldV s)) :=
              fun W hb => ToldR_calls (fun k => wr.heap.size ≤ k ∧ k < W.heap.size) s _ c1 W (fun k q => q.2) (HRW.out.step (fun k hk _ q => by omega) hb)
            have hnl : ¬ ((i : Int) < (ml.length : Int)) := by omega
            clear hwr
            go_upto_region 15 with fail
            go_cut [16, 17] (fun sb se wx => ∃ g7 B7 c7, sb = .pointer (some ⟨g7, 0, none⟩) ∧ se = .int .i64 0 ∧ Below wr.heap.size wr wx ∧ Blk wx g7 #[.int .i64 t2.k, .int .i64 t2.h, .slice B7 t2.a.length c7] 24 ∧ t2.a.length ≤ c7 ∧ Reads (fun _ => False) wx B7 t2.a)
            case first =>
              have HC : Hid (∀ W, Below wr.heap.size wr W → (Below wr.heap.size wr W ∧ W.cell? ⟨w.heap.size, 0, none⟩ = some (.int .i64 t.k) ∧ W.cell? ⟨w.heap.size, 1, none⟩ = some (.int .i64 t.h) ∧ W.cell? ⟨w.heap.size, 2, none⟩ = some (.slice A t.a.length c))) := Lib.hid (fun W hb => by
                obtain ⟨z0, z1, z2, -, -, -⟩ := E0.out _ (bl_then HWR.out hb)
                exact ⟨hb, z0, z1, z2⟩)
              go_region_held2 (fun W => (Below wr.heap.size wr W ∧ W.cell? ⟨w.heap.size, 0, none⟩ = some (.int .i64 t.k) ∧ W.cell? ⟨w.heap.size, 1, none⟩ = some (.int .i64 t.h) ∧ W.cell? ⟨w.heap.size, 2, none⟩ = some (.slice A t.a.length c)))
                ((first | exact HC.out _ (bl_set3 hx7 (by (have h5 := hx5.size; (try simp only [World.size_drew, World.size_alloc] at h5 ⊢); omega))) | exact HC.out _ (bl_set3 (bl_alloc hx7 _) hx7.size) | exact HC.out _ hx7 | exact HC.out _ (bl_alloc hx7 _) | exact HC.out _ hx5 | exact HC.out _ (bl_alloc hx5 _) | exact HC.out _ (Below.refl _ _) | exact HC.out _ (Below.refl _ _).drew | exact HC.out _ (bl_alloc (Below.refl _ _) _).drew))
                (first
                  | (go_at_call 18
                     refine (HTO.out _ ?hbm).mono ?_
                     case hbm => first | exact (Below.refl _ _).drew | exact (bl_alloc (Below.refl _ _) _).drew
                     rintro e w5 ⟨hb5, B5, c5, rfl, hc5, hr5⟩
                     have hx5 : Below wr.heap.size wr w5 := by first | exact bl_undrew hb5 | exact bl_then (bl_alloc (Below.refl _ _) _) (bl_undrew hb5))
                  | (go_at_call 17
                     refine (fillTold_calls bindB (by decide) (by decide) t A c s n w.heap.size wr _ w5 _ B5 c5 HRGW.out hc HGW.out ?h1 hb5 ?h3 hr5 hc5 (fun _ => HBP.out) HCP.out HBB.out).mono ?_
                     case h1 => first | exact (Below.refl _ _).drew | exact (bl_alloc (Below.refl _ _) _).drew
                     case h3 => first | exact Below.refl _ _ | exact bl_alloc (Below.refl _ _) _
                     rw [HFI.out]
                     rintro e w7 ⟨hb7, (⟨_, hn, _⟩ | ⟨u7, B7, c7, hs7, rfl, hc7, hr7⟩)⟩
                     · exact absurd hn (by simp)
                     obtain rfl := Except.ok.inj hs7
                     have hx7 : Below wr.heap.size wr w7 := by first | exact bl_then hx5 hb7 | exact bl_then (bl_alloc hx5 _) hb7
                     have HZ7 : Hid (∀ (g : Nat) (cs : Array Value) (t : TypeId), Blk _ g cs t → Blk w7 g cs t) := fun g cs t h => h.mov hb7
                     have HZ5 : Hid (∀ (g : Nat) (cs : Array Value) (t : TypeId), Blk _ g cs t → Blk w5 g cs t) := fun g cs t h => h.mov hb5
                     first
                       | have zb := HZ7.out _ #[.int .i64 0, .int .i64 0, .slice none 0 0] 24 (Blk.nw _ _ _ _ rfl)
                       | have zb := HZ7.out _ #[.int .i64 0, .int .i64 0, .slice none 0 0] 24 (HZ5.out _ _ _ (Blk.drew (Blk.nw _ _ _ _ rfl)))
                       | skip
                     (try simp only [World.size_drew, World.size_alloc] at zb)
                     (try have z0 := zb.cell 0)
                     (try have z1 := zb.cell 1)
                     (try have z2 := zb.cell 2)
                     (try have g0 := zb.frozen 0)
                     (try have g1 := zb.frozen 1)
                     (try have g2 := zb.frozen 2)
                     (try have HZB := Lib.hid zb)
                     (try clear zb)))
              all_goals
                go_wp2_with fail
                go_meet
                have h5 := hx5.size
                have h6 := hb5.size
                (try simp only [World.size_drew, World.size_alloc] at h5 h6)
                first
                  | exact ⟨_, B7, c7, rfl, rfl, bl_set3 hx7 (by omega), HZB.out.set3 _ _ _, hc7, (hr7.set3 (by unfold FT; (try simp only [World.size_drew, World.size_alloc]); omega)).less (fun _ q => q.elim)⟩
                  | exact ⟨_, B7, c7, rfl, rfl, bl_alloc hx7 _, Blk.nw w7 _ _ _ rfl, hc7, (hr7.mov (bl_alloc (Below.refl _ _) _)).less (fun _ q => q.elim)⟩
            case rest =>
              obtain ⟨g7, B7, c7, rfl, rfl, hx7, hk7, hc7, hr7⟩ := hcut
              have hwc := bl_then HWR.out hx7
              have HWC := Lib.hid hwc
              have HRC := Lib.hid (HRW.out.mov hx7)
              have HK7 := Lib.hid hk7
              have HR7 := Lib.hid hr7
              clear hk7 hr7 hwc hx7
              go_upto_region 16 with fail
              go_cut [18, 19] (fun s18 s19 wx => ∃ g9 c9, s18 = .slice (some ⟨g9, 0, none⟩) s.length c9 ∧ s19 = .int .i64 0 ∧ Below wc.heap.size wc wx ∧ RowB (fun _ => False) wx (some ⟨g9, 0, none⟩) s)
              case first =>
                obtain ⟨O2, hO2⟩ : ∃ O : Obj, Obj.cells (madeCells #[.bool false] N) 4 = O := ⟨_, rfl⟩
                have hmk2 : ∀ w : World, (Instr.makeSlice 36 (.int .i64 N) (.int .i64 N)).run Try.prog w = .ok (.slice (some ⟨w.heap.size, 0, none⟩) N N) (w.alloc O2) := fun w => hO2 ▸ bo_make N (by omega) w
                have HO2 := Lib.hid hO2
                clear hO2
                have HS : Hid (∀ W, Below wc.heap.size wc W → (Below wc.heap.size wc W ∧ W.cell? ⟨w.heap.size, 0, none⟩ = some (.int .i64 t.k) ∧ W.cell? ⟨w.heap.size, 1, none⟩ = some (.int .i64 t.h) ∧ W.cell? ⟨w.heap.size, 2, none⟩ = some (.slice A t.a.length c) ∧ W.cell? ⟨w.heap.size + 1, 0, none⟩ = some (.int .i64 t2.k) ∧ W.cell? ⟨w.heap.size + 1, 1, none⟩ = some (.int .i64 t2.h) ∧ W.cell? ⟨w.heap.size + 1, 2, none⟩ = some (.slice A2 t2.a.length c2))) := Lib.hid (fun W hb => ⟨hb, E0.out _ (bl_then HWC.out hb)⟩)
                go_region_held2 (fun W => (Below wc.heap.size wc W ∧ W.cell? ⟨w.heap.size, 0, none⟩ = some (.int .i64 t.k) ∧ W.cell? ⟨w.heap.size, 1, none⟩ = some (.int .i64 t.h) ∧ W.cell? ⟨w.heap.size, 2, none⟩ = some (.slice A t.a.length c) ∧ W.cell? ⟨w.heap.size + 1, 0, none⟩ = some (.int .i64 t2.k) ∧ W.cell? ⟨w.heap.size + 1, 1, none⟩ = some (.int .i64 t2.h) ∧ W.cell? ⟨w.heap.size + 1, 2, none⟩ = some (.slice A2 t2.a.length c2)))
                  ((first | exact HS.out _ hx8 | exact HS.out _ (Below.refl _ _) | exact HS.out _ (bl_alloc (Below.refl _ _) _) | exact HS.out _ (Below.refl _ _).drew | exact HS.out _ (bl_alloc (Below.refl _ _) _).drew))
                  (first | (go_at_call 12; refine (HMB.out c1 HC1.out _ ?hb g1 _ ?h1 ?h2).mono ?_; (case hb => exact bl_then HWC.out (bl_alloc (Below.refl _ _) _).drew); (case h1 => exact (HRC.out.mov (bl_alloc (Below.refl _ _) _).drew).toRow (fun q => q)); (case h2 => (have e := HO2.out; subst e; exact rowBo_made (Blk.nw _ _ _ _ rfl) (by unfold lim; omega))); rintro e w8 ⟨hb8, (⟨x1, hn, _⟩ | ⟨bs1, g9, c9, hs1, rfl, hc9, _, hr9⟩)⟩; (exact absurd hn (by simp)); (obtain rfl := Except.ok.inj hs1); have hx8 := bl_then (bl_alloc (Below.refl wc.heap.size wc) _) (bl_undrew hb8)))
                all_goals
                  go_wp2_with fail
                  go_meet
                  exact ⟨g9, c9, rfl, rfl, hx8, hr9⟩
              case rest =>
                obtain ⟨g9, c9, rfl, rfl, hx9, hr9⟩ := hcut
                have HX9 := Lib.hid hx9
                obtain ⟨-, -, -, q0, q1, q2⟩ := E0.out _ (bl_then HWC.out hx9)
                have k7 := HK7.out.mov hx9
                have k0 := k7.cell 0
                have k1 := k7.cell 1
                have k2 := k7.cell 2
                clear k7
                have HR9 := Lib.hid hr9
                clear hr9
                go_wp2_with (first
                  | (go_at_call 15; refine (SameBd_calls s _ c9 _ c1 _ HR9.out (HRC.out.mov HX9.out)).mono ?_; clear k0 k1 k2 q0 q1 q2; rintro e w11 ⟨rfl, hb11⟩; have hx11 := bl_then HX9.out hb11; obtain ⟨-, -, -, q0, q1, q2⟩ := E0.out _ (bl_then HWC.out hx11); have k7 := HK7.out.mov hx11; have k0 := k7.cell 0; have k1 := k7.cell 1; have k2 := k7.cell 2; clear k7)
                  | (go_at_call 13; refine (Same_calls t2 t2 B7 c7 A2 c2 _ (HR7.out.mov hx11) hc7 (HR2.out _ (bl_then HWC.out hx11)) hc2).mono ?_; rintro e w12 ⟨rfl, hb12⟩; rw [sameB_refl]))
                go_ret
                exact ⟨rfl, bl_then HB0.out (bl_then HWC.out (bl_then hx11 hb12))⟩
  · cases pt
    all_goals
      go_enter Try.func6, Try.ntmps6
      go_upto_region 1 with fail
      clear hW0
      go_upto_region 6 with (first
        | (go_at_call 8; refine (awake7_calls _).mono ?_; clear p0 p1 p2 q0 q1 q2; rintro e w1 ⟨rfl, hb1⟩; have hw1 : Below (W0).heap.size W0 w1 := hb1; obtain ⟨p0, p1, p2, q0, q1, q2⟩ := E0.out _ hw1)
        | (go_at_call 9; refine (HL1.out _ hw1).mono ?_; clear HL1 p0 p1 p2 q0 q1 q2; rintro e w2 ⟨rfl, hb2⟩; have hw2 := bl_then hw1 hb2; obtain ⟨p0, p1, p2, q0, q1, q2⟩ := E0.out _ hw2)
        | (go_at_call 9; refine (HL2.out _ hw2).mono ?_; clear HL2 p0 p1 p2 q0 q1 q2; rintro e w3 ⟨rfl, hb3⟩; have hw3 := bl_then hw2 hb3; obtain ⟨p0, p1, p2, q0, q1, q2⟩ := E0.out _ hw3)
        | (go_at_call 10; refine (HM1.out _ hw3).mono ?_; clear HM1 p0 p1 p2 q0 q1 q2; rintro e w4 ⟨rfl, hb4⟩; have hw4 := bl_then hw3 hb4; obtain ⟨p0, p1, p2, q0, q1, q2⟩ := E0.out _ hw4)
        | (go_at_call 10; refine (HM2.out _ hw4).mono ?_; clear HM2 p0 p1 p2 q0 q1 q2; rintro e w5 ⟨rfl, hb5⟩; have hw5 := bl_then hw4 hb5; obtain ⟨p0, p1, p2, q0, q1, q2⟩ := E0.out _ hw5)
        | (go_at_call 11; refine (HME.out _ hw5).mono ?_; clear HME p0 p1 p2 q0 q1 q2; rintro e w6 ⟨⟨mlt, Bmt, cmt, rfl, -, -, -, -, -⟩, hb6⟩; have hw6 := bl_then hw5 hb6; obtain ⟨p0, p1, p2, q0, q1, q2⟩ := E0.out _ hw6)
        | (go_at_call 16; refine (HPT.out _ hw6).mono ?_; clear HPT p0 p1 p2 q0 q1 q2; rintro e w7 ⟨rfl, hb7⟩; have hw7 := bl_then hw6 hb7; obtain ⟨p0, p1, p2, q0, q1, q2⟩ := E0.out _ hw7))
      all_goals first
        | (go_ret; first | exact ⟨rfl, bl_then HB0.out hw7⟩ | exact ⟨rfl, bl_then HB0.out hw6⟩ | exact ⟨rfl, bl_then HB0.out hw5⟩ | exact ⟨rfl, bl_then HB0.out hw4⟩ | exact ⟨rfl, bl_then HB0.out hw3⟩)
        | (exfalso; exact absurd (List.eq_nil_of_length_eq_zero (show mlt.length = 0 by omega)) ‹¬ mlt = []›)
        | (exfalso; refine hno ⟨?_, ?_, ?_, ?_, ?_, ?_, ?_, ?_, ?_⟩ <;> first | assumption | omega | trivial)
end Go.Proofs.Yteojhbhaocgjoaa
