/- The law MatchParam. -/
import Derived.Test.YteojhbhaocgjoaaPF
import Derived.Test.YteojhbhaocgjoaaO7
import Derived.Test.YteojhbhaocgjoaaRU
import Derived.Deep.RegionLaw
import Derived.Deep.RegionWith
namespace Go.Proofs.Yteojhbhaocgjoaa
open Go.RowKit Go.Shelf
set_option linter.unusedVariables false
set_option linter.unusedSimpArgs false

/-- The error of what comes back. -/
def errOf {α : Type} : Except Int α → Int
  | .error x => x
  | .ok _ => 0
theorem RetM.err {r : Except Int (List Bd)} {w w' : World} {e : Ending} (h : RetM r w e w') : Below w.heap.size w w' ∧ ∃ v, e = .returned (.tuple #[v, .int .i64 (errOf r)]) := by
  obtain ⟨hb, (⟨x, rfl, _, rfl⟩ | ⟨bs, g, c, rfl, rfl, _⟩)⟩ := h
  · exact ⟨hb, _, rfl⟩
  · exact ⟨hb, _, rfl⟩
theorem mayB_meta0 : mayB (⟨6, 0, []⟩ : Tm) = true := by rw [mayB_eq]; simp [depthW, depthL, sizeR, sizeRL, nodesOk, nodesOkL, mayN, wrap64]
theorem param_match {t : Tm} {n : Int} (rigid : List Bool) (hm : mayB t = true) (hn : 0 ≤ n ∧ n ≤ 100) (pj : Bool) :
    MatchV [pj] rigid ⟨6, 0, []⟩ t n (bd0 1) = match (invV t [] n).1 with
      | none => .error 6
      | some u => if (pj && !variV rigid t) = true then .error 6 else .ok [⟨true, u⟩] := by
  unfold MatchV
  rw [mayB_meta0, hm]
  have e1 : ¬ n < 0 := by omega
  have e2 : ¬ 1000 < n := by omega
  simp only [e1, e2, decide_false, Bool.not_false, Bool.and_self, Bool.true_and, bd0, List.replicate, List.length_cons, List.length_nil, decide_true]
  rw [if_pos (by simp [oddBd])]
  rw [nodeF, if_pos rfl]
  unfold metaF
  simp [patV, patGo, boolAt]
  cases (invV t [] n).1 <;> rfl
theorem param_law {t : Tm} {n : Int} (rigid : List Bool) (hm : mayB t = true) (hn : 0 ≤ n ∧ n ≤ 100) :
    ∃ (a b : Int), errOf (MatchV [true] rigid ⟨6, 0, []⟩ t n (bd0 1)) = a ∧ errOf (MatchV [false] rigid ⟨6, 0, []⟩ t n (bd0 1)) = b ∧ ((a = 0 ∧ b = 0 ∧ variV rigid t = true) ∨ (a = 6 ∧ b = 0 ∧ variV rigid t = false) ∨ (a = 6 ∧ b = 6)) := by
  refine ⟨_, _, rfl, rfl, ?_⟩
  rw [param_match rigid hm hn, param_match rigid hm hn]
  cases (invV t [] n).1 with
  | none => exact .inr (.inr ⟨rfl, rfl⟩)
  | some u =>
    cases hv : variV rigid t with
    | true => exact .inl ⟨rfl, rfl, rfl⟩
    | false => exact .inr (.inl ⟨rfl, rfl, rfl⟩)
theorem qm_meta0 {t : Tm} {n m d : Int} (ht : lightB t m d = true) (ct : cnt t ≤ 1048576) (h2 : mayB t = true) : QM ⟨6, 0, []⟩ t n :=
  ⟨⟨by simp [hB, hBL, mayN, bindB], by simp [okT, okL], by simp [cnt, cntL]⟩, (light_hB ht h2).mono (by decide), may_cnt h2 (by omega)⟩

set_option maxRecDepth 100000 in
set_option maxHeartbeats 16000000 in
theorem MatchParam_row (w : World) (t : Tm) (A : Option Addr) (c : Nat) (hr : Reads (fun _ => False) w A t.a) (hc : t.a.length ≤ c) (g : okT t) (n : Int) (_ : -9223372036854775808 ≤ n ∧ n ≤ 9223372036854775807)
    (rigid : List Bool) (R : Option Addr) (cr : Nat) (hR : RowBo w R rigid) (hcr : rigid.length ≤ cr) (_ : True) (_ : rigid.length ≤ 1048576) (hcn : cnt t ≤ 1048576) :
    Calls Try.prog 4 #[.agg #[.int .i64 t.k, .int .i64 t.h, .slice A t.a.length c], .int .i64 n, .slice R rigid.length cr] w fun e w' => e = .returned (.bool true) ∧ Below w.heap.size w w' := by
  obtain ⟨kk, hh, aa⟩ := t
  dsimp only at hr hc ⊢
  obtain ⟨W0, hW0⟩ : ∃ W0, (w.alloc (.cells #[.int .i64 kk, .int .i64 hh, .slice A aa.length c] 24)) = W0 := ⟨_, rfl⟩
  have hb0 : Below w.heap.size w W0 := by rw [← hW0]; exact bl_alloc (Below.refl _ _) _
  have b1 : Blk W0 w.heap.size #[.int .i64 kk, .int .i64 hh, .slice A aa.length c] 24 := by rw [← hW0]; exact Blk.nw _ _ _ _ rfl
  have HB0 := Lib.hid hb0
  have HBT := Lib.hid b1
  have E0 : Hid (∀ W, Below W0.heap.size W0 W → W.cell? ⟨w.heap.size, 0, none⟩ = some (.int .i64 kk) ∧ W.cell? ⟨w.heap.size, 1, none⟩ = some (.int .i64 hh) ∧ W.cell? ⟨w.heap.size, 2, none⟩ = some (.slice A aa.length c)) :=
    Lib.hid (fun W hb => ⟨(b1.mov hb).cell 0, (b1.mov hb).cell 1, (b1.mov hb).cell 2⟩)
  have hr' := hr.mov hb0
  have hR' := hR.mov hb0
  have hRl := hR.1
  unfold lim at hRl
  have HRO := Lib.hid hR'
  have HL1 := Lib.hid (fun (W : World) (hb : Below W0.heap.size W0 W) => Light_calls ⟨kk, hh, aa⟩ A c 1000 60 W (hr'.mov hb) hc)
  have HM1 := Lib.hid (fun (W : World) (hb : Below W0.heap.size W0 W) => May_calls ⟨kk, hh, aa⟩ A c W (hr'.mov hb) hc)
  have HMA := Lib.hid (fun (pj : Bool) (hq : QM ⟨6, 0, []⟩ ⟨kk, hh, aa⟩ n) (W : World) (hb : Below W0.heap.size W0 W) (g gq : Nat) (h1 : Row eB 4 (fun _ => False) W (some ⟨g, 0, none⟩) (bd0 1)) (h2 : RowBo W (some ⟨gq, 0, none⟩) [pj]) => (Match_calls [pj] rigid ⟨6, 0, []⟩ ⟨kk, hh, aa⟩ n (bd0 1) none 0 A c (some ⟨g, 0, none⟩) 1 (some ⟨gq, 0, none⟩) 1 R cr W (.nil _) (Nat.le_refl _) (hr'.mov hb) hc h1 (Nat.le_refl _) h2 (hR'.mov hb) (by simp [bd0]) (by simp) (fun _ _ => hq) (fun x hx hi => by simp [bd0] at hx; rw [hx] at hi; cases hi)).mono fun e w' q => RetM.err q)
  have HP : Hid (lightB ⟨kk, hh, aa⟩ 1000 60 = true → mayB ⟨kk, hh, aa⟩ = true → 0 ≤ n ∧ n ≤ 100 → QM ⟨6, 0, []⟩ ⟨kk, hh, aa⟩ n ∧ ∃ (a b : Int), errOf (MatchV [true] rigid ⟨6, 0, []⟩ ⟨kk, hh, aa⟩ n (bd0 1)) = a ∧ errOf (MatchV [false] rigid ⟨6, 0, []⟩ ⟨kk, hh, aa⟩ n (bd0 1)) = b ∧ ((a = 0 ∧ b = 0 ∧ variV rigid ⟨kk, hh, aa⟩ = true) ∨ (a = 6 ∧ b = 0 ∧ variV rigid ⟨kk, hh, aa⟩ = false) ∨ (a = 6 ∧ b = 6))) :=
    Lib.hid fun l1 m1 hn => ⟨qm_meta0 l1 (by omega) m1, param_law rigid m1 hn⟩
  have HH0 : Hid (mayB ⟨kk, hh, aa⟩ = true → cnt ⟨kk, hh, aa⟩ ≤ 1048576 → 0 ≤ hh) := Lib.hid fun m1 hc => by
    rw [mayB_eq] at m1
    simp only [Bool.and_eq_true, decide_eq_true_eq] at m1
    have := m1.2.2
    rw [nodesOk, Bool.and_eq_true] at this
    exact mayN_head this.1
  have HCN := Lib.hid hcn
  obtain ⟨m1, hm1⟩ : ∃ b, mayB ⟨kk, hh, aa⟩ = b := ⟨_, rfl⟩
  obtain ⟨l1, hl1⟩ : ∃ b, lightB ⟨kk, hh, aa⟩ 1000 60 = b := ⟨_, rfl⟩
  rw [hm1] at HM1 HH0
  rw [hl1] at HL1
  rw [hm1, hl1] at HP
  clear hr hR hr' hR' b1 hb0 hm1 hl1 g
  obtain ⟨p0, p1, p2⟩ := E0.out _ (Below.refl _ _)
  have hcond : (l1 = true ∧ m1 = true ∧ 0 ≤ n ∧ n ≤ 100 ∧ rigid.length ≤ 60) ∨ ¬ (l1 = true ∧ m1 = true ∧ 0 ≤ n ∧ n ≤ 100 ∧ rigid.length ≤ 60) := Classical.em _
  rcases hcond with ⟨rfl, rfl, hn0, hn1, hr60⟩ | hno
  · have hn0' : ¬ n < 0 := by omega
    have hn1' : ¬ 100 < n := by omega
    have hr60' : ¬ (60 : Int) < (rigid.length : Int) := by omega
    obtain ⟨hqm, a, b, ha, hb, hab⟩ := HP.out rfl rfl ⟨hn0, hn1⟩
    have HA := Lib.hid (HMA.out true hqm)
    have HB := Lib.hid (HMA.out false hqm)
    rw [ha] at HA
    rw [hb] at HB
    have HAB := Lib.hid hab
    have hh0 := HH0.out rfl HCN.out
    have HT0 := Lib.hid hh0
    clear HMA HP hqm ha hb hab HH0 hh0
    go_enter Try.func4, Try.ntmps4
    go_upto_region 1 with fail
    clear hW0
    go_upto_region 6 with (first
      | (go_at_call 8; refine (awake7_calls _).mono ?_; clear p0 p1 p2; rintro e w1 ⟨rfl, hb1⟩; have hw1 : Below (W0).heap.size W0 w1 := hb1; obtain ⟨p0, p1, p2⟩ := E0.out _ hw1)
      | (go_at_call 9; refine (HL1.out _ hw1).mono ?_; clear HL1 p0 p1 p2; rintro e w2 ⟨rfl, hb2⟩; have hw2 := bl_then hw1 hb2; obtain ⟨p0, p1, p2⟩ := E0.out _ hw2)
      | (go_at_call 10; refine (HM1.out _ hw2).mono ?_; clear HM1 p0 p1 p2; rintro e w3 ⟨rfl, hb3⟩; have hw3 := bl_then hw2 hb3; obtain ⟨p0, p1, p2⟩ := E0.out _ hw3))
    obtain ⟨W5, hW5⟩ : ∃ W5, w3.alloc (.cells #[.int .i64 6, .int .i64 0, .slice none 0 0] 24) = W5 := ⟨_, rfl⟩
    have HB5 : Hid (Below W0.heap.size W0 W5) := Lib.hid (by rw [← hW5]; exact bl_alloc hw3 _)
    have HPB : Hid (Blk W5 w3.heap.size #[.int .i64 6, .int .i64 0, .slice none 0 0] 24) := Lib.hid (by rw [← hW5]; exact Blk.nw _ _ _ _ rfl)
    have EX : Hid (∀ W, Below W5.heap.size W5 W → W.cell? ⟨w3.heap.size, 0, none⟩ = some (.int .i64 6) ∧ W.cell? ⟨w3.heap.size, 1, none⟩ = some (.int .i64 0) ∧ W.cell? ⟨w3.heap.size, 2, none⟩ = some (.slice none 0 0) ∧ W.cell? ⟨w.heap.size, 0, none⟩ = some (.int .i64 kk) ∧ W.cell? ⟨w.heap.size, 1, none⟩ = some (.int .i64 hh) ∧ W.cell? ⟨w.heap.size, 2, none⟩ = some (.slice A aa.length c)) :=
      Lib.hid (fun W hb => ⟨(HPB.out.mov hb).cell 0, (HPB.out.mov hb).cell 1, (HPB.out.mov hb).cell 2, E0.out _ (bl_then HB5.out hb)⟩)
    have HA5 := Lib.hid (fun (W : World) (hb : Below W5.heap.size W5 W) => HA.out W (bl_then HB5.out hb))
    have HB6 := Lib.hid (fun (W : World) (hb : Below W5.heap.size W5 W) => HB.out W (bl_then HB5.out hb))
    obtain ⟨O, hO⟩ : ∃ O : Obj, Obj.cells (madeCells #[.bool false, .int .i64 0, .int .i64 0, .slice none 0 0] (1 * 4)) 41 = O := ⟨_, rfl⟩
    have hmk : ∀ w : World, (Instr.makeSlice 30 (.int .i64 1) (.int .i64 1)).run Try.prog w = .ok (.slice (some ⟨w.heap.size, 0, none⟩) 1 1) (w.alloc O) := fun w => hO ▸ bd_make1 w
    have HO := Lib.hid hO
    clear hO
    rw [hW5]
    clear p0 p1 p2 hW5 HA HB
    go_cut [11] (fun s11 wx => s11 = .int .i64 a ∧ Below W5.heap.size W5 wx)
    case first =>
      have HWB := Lib.hid (Below.refl W5.heap.size W5)
      have HS : Hid (∀ W, Below W5.heap.size W5 W → (Below W5.heap.size W5 W ∧ W.cell? ⟨w3.heap.size, 0, none⟩ = some (.int .i64 6) ∧ W.cell? ⟨w3.heap.size, 1, none⟩ = some (.int .i64 0) ∧ W.cell? ⟨w3.heap.size, 2, none⟩ = some (.slice none 0 0) ∧ W.cell? ⟨w.heap.size, 0, none⟩ = some (.int .i64 kk) ∧ W.cell? ⟨w.heap.size, 1, none⟩ = some (.int .i64 hh) ∧ W.cell? ⟨w.heap.size, 2, none⟩ = some (.slice A aa.length c))) := Lib.hid (fun W hb => ⟨hb, EX.out _ (bl_then HWB.out hb)⟩)
      go_region_held2 (fun W => (Below W5.heap.size W5 W ∧ W.cell? ⟨w3.heap.size, 0, none⟩ = some (.int .i64 6) ∧ W.cell? ⟨w3.heap.size, 1, none⟩ = some (.int .i64 0) ∧ W.cell? ⟨w3.heap.size, 2, none⟩ = some (.slice none 0 0) ∧ W.cell? ⟨w.heap.size, 0, none⟩ = some (.int .i64 kk) ∧ W.cell? ⟨w.heap.size, 1, none⟩ = some (.int .i64 hh) ∧ W.cell? ⟨w.heap.size, 2, none⟩ = some (.slice A aa.length c)))
        ((first | exact HS.out _ hx8 | exact HS.out _ (Below.refl _ _) | exact HS.out _ (bl_alloc (Below.refl _ _) _) | exact HS.out _ (bl_alloc (bl_alloc (Below.refl _ _) _) _) | exact HS.out _ (Below.refl _ _).drew | exact HS.out _ (bl_alloc (Below.refl _ _) _).drew | exact HS.out _ (bl_alloc (bl_alloc (Below.refl _ _) _) _).drew))
        (first | (go_at_call 12; refine (HA5.out _ ?hb _ _ ?h1 ?h2).mono ?_; (case hb => exact bl_then HWB.out (bl_alloc (bl_alloc (Below.refl _ _) _) _).drew); (case h1 => (have e := HO.out; subst e; first | exact row_made ((Blk.nw _ _ _ _ rfl).al _) (by decide) | exact row_made (Blk.nw _ _ _ _ (by simp)) (by decide))); (case h2 => first | exact rowBo_one ((Blk.nw _ _ _ _ rfl).al _) | exact rowBo_one (Blk.nw _ _ _ _ (by simp))); rintro e w8 ⟨hb8, v8, rfl⟩; have hx8 := bl_then (bl_alloc (bl_alloc (Below.refl W5.heap.size W5) _) _) (bl_undrew hb8)))
      all_goals
        go_wp2_with fail
        go_meet
        exact ⟨rfl, hx8⟩
    case rest =>
      obtain ⟨rfl, hwc⟩ := hcut
      go_upto_region 7 with fail
      go_cut [13] (fun s13 wx => s13 = .int .i64 b ∧ Below W5.heap.size W5 wx)
      case first =>
        have HWB := Lib.hid hwc
        have HS : Hid (∀ W, Below wc.heap.size wc W → (Below wc.heap.size wc W ∧ W.cell? ⟨w3.heap.size, 0, none⟩ = some (.int .i64 6) ∧ W.cell? ⟨w3.heap.size, 1, none⟩ = some (.int .i64 0) ∧ W.cell? ⟨w3.heap.size, 2, none⟩ = some (.slice none 0 0) ∧ W.cell? ⟨w.heap.size, 0, none⟩ = some (.int .i64 kk) ∧ W.cell? ⟨w.heap.size, 1, none⟩ = some (.int .i64 hh) ∧ W.cell? ⟨w.heap.size, 2, none⟩ = some (.slice A aa.length c))) := Lib.hid (fun W hb => ⟨hb, EX.out _ (bl_then HWB.out hb)⟩)
        go_region_held2 (fun W => (Below wc.heap.size wc W ∧ W.cell? ⟨w3.heap.size, 0, none⟩ = some (.int .i64 6) ∧ W.cell? ⟨w3.heap.size, 1, none⟩ = some (.int .i64 0) ∧ W.cell? ⟨w3.heap.size, 2, none⟩ = some (.slice none 0 0) ∧ W.cell? ⟨w.heap.size, 0, none⟩ = some (.int .i64 kk) ∧ W.cell? ⟨w.heap.size, 1, none⟩ = some (.int .i64 hh) ∧ W.cell? ⟨w.heap.size, 2, none⟩ = some (.slice A aa.length c)))
          ((first | exact HS.out _ hx8 | exact HS.out _ (Below.refl _ _) | exact HS.out _ (bl_alloc (Below.refl _ _) _) | exact HS.out _ (bl_alloc (bl_alloc (Below.refl _ _) _) _) | exact HS.out _ (Below.refl _ _).drew | exact HS.out _ (bl_alloc (Below.refl _ _) _).drew | exact HS.out _ (bl_alloc (bl_alloc (Below.refl _ _) _) _).drew))
          (first | (go_at_call 12; refine (HB6.out _ ?hb _ _ ?h1 ?h2).mono ?_; (case hb => exact bl_then HWB.out (bl_alloc (bl_alloc (Below.refl _ _) _) _).drew); (case h1 => (have e := HO.out; subst e; first | exact row_made ((Blk.nw _ _ _ _ rfl).al _) (by decide) | exact row_made (Blk.nw _ _ _ _ (by simp)) (by decide))); (case h2 => first | exact rowBo_one ((Blk.nw _ _ _ _ rfl).al _) | exact rowBo_one (Blk.nw _ _ _ _ (by simp))); rintro e w8 ⟨hb8, v8, rfl⟩; have hx8 := bl_then (bl_alloc (bl_alloc (Below.refl wc.heap.size wc) _) _) (bl_undrew hb8)))
        all_goals
          go_wp2_with fail
          go_meet
          exact ⟨rfl, bl_then HWB.out hx8⟩
      case rest =>
        obtain ⟨rfl, hwd⟩ := hcut
        have HWD := Lib.hid hwd
        clear hwc hmk
        go_upto_region 8 with fail
        go_cut [14] (fun s14 wx => s14 = .bool (variV rigid ⟨kk, hh, aa⟩) ∧ Below W5.heap.size W5 wx)
        case first =>
          obtain ⟨q0, q1, q2⟩ := E0.out _ (bl_then HB5.out HWD.out)
          have hRw := (HRO.out.mov HB5.out).mov HWD.out
          have hh0 := HT0.out
          clear hwd
          by_cases h4 : kk = 4
          · subst h4
            by_cases ha : aa.length = 0
            · obtain rfl := List.eq_nil_of_length_eq_zero ha
              have hv : variV rigid ⟨4, hh, []⟩ = true := by simp [variV]
              have HVV := Lib.hid hv
              clear hv
              clear ha
              go_wp2_with fail
              (try (go_quiet (fail)))
              (try (go_wp2_with fail))
              go_meet
              exact ⟨by rw [HVV.out], by first | exact HWD.out | exact bl_drewNv HWD.out _⟩
            · have hai : ¬ ((aa.length : Int) = 0) := by omega
              have hab : ((aa.length : Int) == 0) = false := by simpa using ha
              have hnil : ¬ aa = [] := fun e => ha (by rw [e]; rfl)
              have hv : variV rigid ⟨4, hh, aa⟩ = false := by simp [variV, ha]
              have HVV := Lib.hid hv
              clear hv
              go_wp2_with fail
              (try (go_quiet (fail)))
              (try (go_wp2_with fail))
              go_meet
              exact ⟨by rw [HVV.out], by first | exact HWD.out | exact bl_drewNv HWD.out _⟩
          · by_cases h6 : kk = 6
            · subst h6
              clear h4
              obtain ⟨j, rfl⟩ := Int.eq_ofNat_of_zero_le hh0
              have hj0 : (0 : Int) ≤ (j : Int) := by omega
              by_cases hj : j < rigid.length
              · obtain ⟨ad, rfl, c0⟩ := hRw.2 j hj
                have hj1 : (j : Int) < (rigid.length : Int) := by omega
                have hv : variV rigid ⟨6, j, aa⟩ = rigid[j] := by simp [variV, boolAt, hj]
                obtain ⟨bb, hbb⟩ : ∃ b, rigid[j] = b := ⟨_, rfl⟩
                rw [hbb] at c0 hv
                have HVV := Lib.hid hv
                clear hv hRw hbb
                go_wp2_with fail
                (try (go_quiet (fail)))
                (try (go_wp2_with fail))
                go_meet
                exact ⟨by rw [HVV.out], by first | exact HWD.out | exact bl_drewNv HWD.out _⟩
              · have hj1 : ¬ ((j : Int) < (rigid.length : Int)) := by omega
                have hv : variV rigid ⟨6, j, aa⟩ = false := by simp [variV, hj1]
                have HVV := Lib.hid hv
                clear hv
                go_wp2_with fail
                (try (go_quiet (fail)))
                (try (go_wp2_with fail))
                go_meet
                exact ⟨by rw [HVV.out], by first | exact HWD.out | exact bl_drewNv HWD.out _⟩
            · have hv : variV rigid ⟨kk, hh, aa⟩ = false := by simp [variV, h6, h4]
              have HVV := Lib.hid hv
              clear hv
              go_wp2_with fail
              (try (go_quiet (fail)))
              (try (go_wp2_with fail))
              go_meet
              exact ⟨by rw [HVV.out], by first | exact HWD.out | exact bl_drewNv HWD.out _⟩
        case rest =>
          obtain ⟨rfl, hwe⟩ := hcut
          have hwz := bl_then HB0.out (bl_then HB5.out hwe)
          rcases HAB.out with ⟨rfl, rfl, hv⟩ | ⟨rfl, rfl, hv⟩ | ⟨rfl, rfl⟩
          · rw [hv]
            go_wp2_with fail
            go_ret
            exact ⟨rfl, hwz⟩
          · rw [hv]
            go_wp2_with fail
            go_ret
            exact ⟨rfl, hwz⟩
          · generalize variV rigid ⟨kk, hh, aa⟩ = vv at *
            cases vv
            all_goals
              go_wp2_with fail
              go_ret
              exact ⟨rfl, hwz⟩
  · go_enter Try.func4, Try.ntmps4
    go_upto_region 1 with fail
    clear hW0
    go_upto_region 6 with (first
      | (go_at_call 8; refine (awake7_calls _).mono ?_; clear p0 p1 p2; rintro e w1 ⟨rfl, hb1⟩; have hw1 : Below (W0).heap.size W0 w1 := hb1; obtain ⟨p0, p1, p2⟩ := E0.out _ hw1)
      | (go_at_call 9; refine (HL1.out _ hw1).mono ?_; clear HL1 p0 p1 p2; rintro e w2 ⟨rfl, hb2⟩; have hw2 := bl_then hw1 hb2; obtain ⟨p0, p1, p2⟩ := E0.out _ hw2)
      | (go_at_call 10; refine (HM1.out _ hw2).mono ?_; clear HM1 p0 p1 p2; rintro e w3 ⟨rfl, hb3⟩; have hw3 := bl_then hw2 hb3; obtain ⟨p0, p1, p2⟩ := E0.out _ hw3))
    all_goals first
      | (go_ret; first | exact ⟨rfl, bl_then HB0.out hw3⟩ | exact ⟨rfl, bl_then HB0.out hw2⟩)
      | skip
    exfalso
    refine hno ⟨?_, ?_, ?_, ?_, ?_⟩
    all_goals first | assumption | omega
end Go.Proofs.Yteojhbhaocgjoaa
