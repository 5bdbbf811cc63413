/- The law OccurRises. -/
import Derived.Test.YtjpnlmlckmhcaaaO14
namespace Go.Proofs.Ytjpnlmlckmhcaaa
open Go.RowKit Go.Shelf

theorem rise_at {l : List Int} (h : Rise l) {i : Nat} (h2 : i + 1 < l.length) : l[i] < l[i + 1] := List.pairwise_iff_getElem.1 h i (i + 1) (by omega) h2 (by omega)

theorem varsOf_range {l : List (Int × Tm)} {z : Int} (h : z ∈ varsOf l) : -9223372036854775808 ≤ z ∧ z ≤ 9223372036854775807 := by
  obtain ⟨x, _, e⟩ := List.mem_filterMap.1 h
  split at e
  · rw [← Option.some.inj e]
    exact wrap_range _
  · cases e

set_option maxHeartbeats 8000000 in
set_option maxRecDepth 100000 in
theorem OccurRises_calls (t : Tm) (A : Option Addr) (c : Nat) (w : World) (hr : Reads (fun _ => False) w A t.a) (hc : t.a.length ≤ c) (hk : okT t) (hcn : cnt t ≤ 1048576) :
    Calls Try.prog 6 #[.agg #[.int .i64 t.k, .int .i64 t.h, .slice A t.a.length c]] w fun e w' => e = .returned (.bool true) ∧ Below w.heap.size w w' := by
  obtain ⟨kk, hh, ts⟩ := t
  have hlen := hr.len
  dsimp only at hr hc hlen ⊢
  have hll := hlen
  unfold lim at hlen
  have hkL : okL ts := by rw [okT] at hk; exact hk.2.2
  have hcL : cntL ts + 1 ≤ 1048576 := by rw [cnt] at hcn; omega
  have hb0 : Below w.heap.size w (w.alloc (.cells #[.int .i64 kk, .int .i64 hh, .slice A ts.length c] 30)) := bl_alloc (Below.refl _ _) _
  have e0 := Blk.new w #[.int .i64 kk, .int .i64 hh, .slice A ts.length c] 30
  have HB0 := Lib.hid hb0
  have E0 := Lib.hid e0
  have HL := Lib.hid (fun (W : World) (hb : Below w.heap.size w W) => Light_calls ⟨kk, hh, ts⟩ A c 3000 200 W (hr.mov hb) hc)
  have HV := Lib.hid (fun (W : World) (hb : Below w.heap.size w W) => Vars_ret ⟨kk, hh, ts⟩ A c W (hr.mov hb) hc hk hcn)
  have HM := Lib.hid (fun (W : World) (hb : Below w.heap.size w W) => Metas_ret ⟨kk, hh, ts⟩ A c W (hr.mov hb) hc hk hcn)
  have HVR := Lib.hid (foldV_rise (nodesW ⟨kk, hh, ts⟩ 0) [] List.Pairwise.nil)
  have HMR := Lib.hid (foldM_rise (nodesW ⟨kk, hh, ts⟩ 0) [] List.Pairwise.nil)
  have hvl := fold_len stepV_len (nodesW ⟨kk, hh, ts⟩ 0) []
  have hml := fold_len stepM_len (nodesW ⟨kk, hh, ts⟩ 0) []
  rw [nodesW_len] at hvl hml
  clear hb0 e0
  generalize lightB ⟨kk, hh, ts⟩ 3000 200 = lb at *
  generalize (nodesW ⟨kk, hh, ts⟩ 0).foldl stepV [] = vs at *
  generalize (nodesW ⟨kk, hh, ts⟩ 0).foldl stepM [] = ms at *
  simp at hvl hml
  go_enter Try.func6, Try.ntmps6
  go_wp2_with (first
    | (go_at_call 10; refine (awake5_calls _).mono ?_; rintro e w1 ⟨rfl, hb1⟩; have p := E0.out.mov hb1; have p0 := p.cell 0; have p1 := p.cell 1; have p2 := p.cell 2; clear p)
    | (go_at_call 14; refine (HL.out _ (bl_then HB0.out hb1)).mono ?_; clear HL; rintro e w2 ⟨rfl, hb2⟩; have hb := bl_then hb1 hb2; clear p0 p1 p2; have p := E0.out.mov hb; have p0 := p.cell 0; have p1 := p.cell 1; have p2 := p.cell 2; clear p)
    | (go_at_call 17; refine (HV.out _ (bl_then HB0.out hb)).mono ?_; clear HV; rintro e w3 ⟨⟨B3, c3, rfl, hr3⟩, hb3⟩; have hx3 := bl_then hb hb3; clear p0 p1 p2; have p := E0.out.mov hx3; have p0 := p.cell 0; have p1 := p.cell 1; have p2 := p.cell 2; clear p)
    | (go_at_call 19; refine (HM.out _ (bl_then HB0.out hx3)).mono ?_; clear HM; rintro e w4 ⟨⟨B4, c4, rfl, hr4⟩, hb4⟩; have hx4 := bl_then hx3 hb4; clear p0 p1 p2))
  · go_ret
    exact ⟨rfl, bl_then HB0.out hb⟩
  have HRV := Lib.hid (hr3.mov hb4)
  have HRM := Lib.hid hr4
  have hw4 := bl_then HB0.out hx4
  have EX := Lib.hid (E0.out.mov hx4)
  have HRD := HRV
  have HRI := Lib.hid HVR.out.1
  clear hr3 hr4 hb1 hb2 hb3 hb4 hb hx3 hx4
  go_loopw [7] (fun j wr => ∃ i : Nat, j = .int .i64 ((i + 1 : Nat) : Int) ∧ i ≤ vs.length ∧ Below w4.heap.size w4 wr) (fun j _ => vs.length + 1 - (intOf j).toNat)
  case atStart => exact ⟨0, rfl, Nat.zero_le _, Below.refl _ _⟩
  case round =>
    obtain ⟨i, rfl, hi2, hbx⟩ := hrel
    by_cases hlt : i + 1 < vs.length
    · obtain ⟨ad1, e1, -, x1⟩ := (HRD.out.mov hbx).2 (i + 1) hlt
      cases e1
      obtain ⟨ad2, e2, -, x2⟩ := (HRD.out.mov hbx).2 i (by omega)
      cases e2
      have hq := rise_at HRI.out hlt
      have hq2 : decide (vs[i + 1] ≤ vs[i]) = false := decide_eq_false (by omega)
      have hi0 : (0 : Int) ≤ (i : Int) := by omega
      have hi1 : (i : Int) < (vs.length : Int) := by omega
      have hj0 : (0 : Int) ≤ (i : Int) + 1 := by omega
      have hj1 : (i : Int) + 1 < (vs.length : Int) := by omega
      have hsub : (i : Int) + 1 - 1 = (i : Int) := by omega
      have hwr : IntKind.i64.wrap (i : Int) = (i : Int) := IntWalk.i64_in _ (by omega)
      have htn : ((i : Int) + 1).toNat = i + 1 := by omega
      rw [Addr.add_succ'] at x1
      go_wp2_with fail
      go_still_tail 9, (by kernel_rfl)
      go_wp2_with fail
      exact ⟨⟨i + 1, by go_num, by omega, hbx.drew⟩, by simp [intOf]; omega⟩
    · have hq : decide (((i + 1 : Nat) : Int) < (vs.length : Int)) = false := decide_eq_false (by omega)
      clear hlt hi2
      generalize ((i + 1 : Nat) : Int) = q at *
      go_wp2_with fail
      obtain ⟨wm, rfl⟩ : ∃ wm : World, wm = wr := ⟨_, rfl⟩
      have hbm := bl_then hw4 hbx
      have HRV2 := Lib.hid (HRV.out.mov hbx)
      have HRM2 := Lib.hid (HRM.out.mov hbx)
      have EX2 := Lib.hid (EX.out.mov hbx)
      have HRI2 := Lib.hid HMR.out.1
      clear hbx hq HRD HRI HRV HRM EX
      go_loopw [8] (fun j wr => ∃ i : Nat, j = .int .i64 ((i + 1 : Nat) : Int) ∧ i ≤ ms.length ∧ Below wm.heap.size wm wr) (fun j _ => ms.length + 1 - (intOf j).toNat)
      case atStart => exact ⟨0, rfl, Nat.zero_le _, Below.refl _ _⟩
      case round =>
        obtain ⟨i, rfl, hi2, hbx⟩ := hrel
        by_cases hlt : i + 1 < ms.length
        · obtain ⟨ad1, e1, -, x1⟩ := (HRM2.out.mov hbx).2 (i + 1) hlt
          cases e1
          obtain ⟨ad2, e2, -, x2⟩ := (HRM2.out.mov hbx).2 i (by omega)
          cases e2
          have hq := rise_at HRI2.out hlt
          have hq2 : decide (ms[i + 1] ≤ ms[i]) = false := decide_eq_false (by omega)
          have hi0 : (0 : Int) ≤ (i : Int) := by omega
          have hi1 : (i : Int) < (ms.length : Int) := by omega
          have hj0 : (0 : Int) ≤ (i : Int) + 1 := by omega
          have hj1 : (i : Int) + 1 < (ms.length : Int) := by omega
          have hsub : (i : Int) + 1 - 1 = (i : Int) := by omega
          have hwr : IntKind.i64.wrap (i : Int) = (i : Int) := IntWalk.i64_in _ (by omega)
          have htn : ((i : Int) + 1).toNat = i + 1 := by omega
          rw [Addr.add_succ'] at x1
          go_wp2_with fail
          go_still_tail 9, (by kernel_rfl)
          go_wp2_with fail
          exact ⟨⟨i + 1, by go_num, by omega, hbx.drew⟩, by simp [intOf]; omega⟩
        · have hq : decide (((i + 1 : Nat) : Int) < (ms.length : Int)) = false := decide_eq_false (by omega)
          clear hlt hi2
          generalize ((i + 1 : Nat) : Int) = q at *
          go_wp2_with fail
          obtain ⟨wn, rfl⟩ : ∃ wn : World, wn = wr := ⟨_, rfl⟩
          have hbn := bl_then hbm hbx
          have HRV := Lib.hid (HRV2.out.mov hbx)
          have HRM := Lib.hid (HRM2.out.mov hbx)
          have EX := Lib.hid (EX2.out.mov hbx)
          clear hbx hq HRV2 HRM2 EX2 HRI2
          go_loopw [9, 10, 11, 12, 13, 14, 15, 16] (fun j _ _ _ _ _ _ _ wr => ∃ i : Nat, j = .int .i64 (i : Int) ∧ i ≤ ts.length ∧ Below wn.heap.size wn wr) (fun j _ _ _ _ _ _ _ _ => ts.length - (intOf j).toNat)
          case atStart => exact ⟨0, rfl, Nat.zero_le _, Below.refl _ _⟩
          case round =>
            obtain ⟨i, rfl, hi2, hbx⟩ := hrel
            have p := EX.out.mov hbx
            have p0 := p.cell 0
            have p1 := p.cell 1
            have p2 := p.cell 2
            clear p
            by_cases hlt : i < ts.length
            · obtain ⟨ad, B5, d5, rfl, -, x0, x1, x2, hd, hsub⟩ := (hr.mov (bl_then hbn hbx)).at hlt
              have hki := okL_at hkL hlt
              have hci := cnt_part hlt
              have HM := Lib.hid (fun (W : World) (hb : Below wr.heap.size wr W) => Metas_ret ts[i] B5 d5 W (hsub.mov hb) hd hki (by omega))
              have HV := Lib.hid (fun (W : World) (hb : Below wr.heap.size wr W) => Vars_ret ts[i] B5 d5 W (hsub.mov hb) hd hki (by omega))
              go_wp2_with (go_at_call 19; refine (HM.out _ (Below.refl _ _)).mono ?_; clear HM; rintro e w5 ⟨⟨B6, c6, rfl, hr6⟩, hb5⟩)
              have hms : ∀ z, z ∈ (nodesW ts[i] 0).foldl stepM [] → z ∈ ms := fun z hz => by
                have h1 := (foldM_rise (nodesW ts[i] 0) [] List.Pairwise.nil).2 z
                have h2 : z ∈ metasOf (nodesW ts[i] 0) := by simpa using h1.1 hz
                exact (HMR.out.2 z).2 (.inr (metas_part hlt hcn h2))
              have HMS := Lib.hid hms
              have hl5 := hr6.1
              unfold limI at hl5
              have HR6 := Lib.hid hr6
              have HRM2 := Lib.hid ((HRM.out.mov hbx).mov hb5)
              clear hms hr6
              generalize (nodesW ts[i] 0).foldl stepM [] = xs at *
              go_loopw [11, 12] (fun j _ wr => ∃ k : Nat, j = .int .i64 (k : Int) ∧ k ≤ xs.length ∧ Below w5.heap.size w5 wr) (fun j _ _ => xs.length - (intOf j).toNat)
              case atStart => exact ⟨0, rfl, Nat.zero_le _, Below.refl _ _⟩
              case round =>
                obtain ⟨wo, rfl⟩ : ∃ wo : World, wo = wr := ⟨_, rfl⟩
                obtain ⟨k, rfl, hk2, hbk⟩ := hrel
                by_cases hkl : k < xs.length
                · obtain ⟨ad6, e6, -, y0⟩ := (HR6.out.mov hbk).2 k hkl
                  cases e6
                  have hin := in_calls ms B4 c4 xs[k] wo (HRM2.out.mov hbk)
                  rw [decide_eq_true (HMS.out _ (List.getElem_mem hkl))] at hin
                  have HI := Lib.hid hin
                  clear hin
                  go_wp2_with (go_at_call 22; refine HI.out.mono ?_; clear HI; rintro e w6 ⟨rfl, hb6⟩)
                  exact ⟨⟨k + 1, by go_num, hkl, bl_then hbk hb6⟩, by simp [intOf]; omega⟩
                · have hwk := bl_then (bl_then hbx hb5) hbk
                  obtain ⟨ad2, B7, d7, e7, -, v0, v1, v2, hd7, hsub7⟩ := (hr.mov (bl_then hbn hwk)).at hlt
                  cases e7
                  have p := EX.out.mov hwk
                  replace p0 := p.cell 0
                  replace p1 := p.cell 1
                  replace p2 := p.cell 2
                  have HV2 := Lib.hid (Vars_ret ts[i] B7 d7 wo hsub7 hd7 hki (by omega))
                  have HBI := Lib.hid (fun W : World => Binds_calls kk hh (some ad) ts.length c i W hll)
                  have P := Lib.hid p
                  clear x0 x1 x2 HV p
                  go_wp2_with (first
                    | (go_at_call 17; refine HV2.out.mono ?_; clear HV2; rintro e w7 ⟨⟨B8, c8, rfl, hr8⟩, hb7⟩; have p := P.out.mov hb7; replace p0 := p.cell 0; replace p1 := p.cell 1; replace p2 := p.cell 2; clear p)
                    | (go_at_call 16; refine (HBI.out _).mono ?_; clear HBI; rintro e w8 ⟨rfl, hb8⟩))
                  have hbi := bindsI_01 kk i ts.length
                  have hvs : ∀ z, z ∈ (nodesW ts[i] 0).foldl stepV [] → (-9223372036854775808 ≤ z ∧ z ≤ 9223372036854775807) ∧ (bindsI kk i ts.length ≤ z → z - bindsI kk i ts.length ∈ vs) := fun z hz => by
                    have h1 := (foldV_rise (nodesW ts[i] 0) [] List.Pairwise.nil).2 z
                    have h2 : z ∈ varsOf (nodesW ts[i] 0) := by simpa using h1.1 hz
                    exact ⟨varsOf_range h2, fun hb => (HVR.out.2 _).2 (.inr (vars_part hlt hcn hkL h2 hb))⟩
                  have HVS := Lib.hid hvs
                  have hl8 := hr8.1
                  unfold limI at hl8
                  have hw8 := bl_then (bl_then hwk hb7) hb8
                  have HR8 := Lib.hid (hr8.mov hb8)
                  have HRV2 := Lib.hid (HRV.out.mov hw8)
                  clear hvs hr8 p0 p1 p2 v0 v1 v2
                  generalize (nodesW ts[i] 0).foldl stepV [] = us at *
                  generalize bindsI kk i ts.length = b at *
                  go_loopw [15, 16] (fun j _ wr => ∃ k : Nat, j = .int .i64 (k : Int) ∧ k ≤ us.length ∧ Below w8.heap.size w8 wr) (fun j _ _ => us.length - (intOf j).toNat)
                  case atStart => exact ⟨0, rfl, Nat.zero_le _, Below.refl _ _⟩
                  case round =>
                    obtain ⟨wq, rfl⟩ : ∃ wq : World, wq = wr := ⟨_, rfl⟩
                    obtain ⟨m, rfl, hm2, hbm8⟩ := hrel
                    by_cases hml8 : m < us.length
                    · obtain ⟨ad8, e8, -, y0⟩ := (HR8.out.mov hbm8).2 m hml8
                      cases e8
                      obtain ⟨hrg, himp⟩ := HVS.out _ (List.getElem_mem hml8)
                      cases hge : decide (b ≤ us[m])
                      · have HI := Lib.hid (fun z => in_calls vs B3 c3 z wq (HRV2.out.mov hbm8))
                        clear himp
                        go_wp2_with (go_at_call 22; refine (HI.out _).mono ?_; clear HI; rintro e w9 ⟨rfl, hb9⟩; have y1 := cell_mov y0 hb9)
                        exact ⟨⟨m + 1, by go_num, hml8, bl_then hbm8 hb9⟩, by simp [intOf]; omega⟩
                      · have hin := in_calls vs B3 c3 (us[m] - b) wq (HRV2.out.mov hbm8)
                        rw [decide_eq_true (himp (of_decide_eq_true hge))] at hin
                        have HI := Lib.hid hin
                        have hge2 := of_decide_eq_true hge
                        have hwr : wrap64 (us[m] - b) = us[m] - b := IntWalk.wrap64_in _ (by omega)
                        clear hin himp
                        go_wp2_with (go_at_call 22; refine HI.out.mono ?_; clear HI; rintro e w9 ⟨rfl, hb9⟩; have y1 := cell_mov y0 hb9)
                        exact ⟨⟨m + 1, by go_num, hml8, bl_then hbm8 hb9⟩, by simp [intOf]; omega⟩
                    · go_wp2_with fail
                      exact ⟨⟨i + 1, by go_num, hlt, bl_then hw8 hbm8⟩, by simp [intOf]; omega⟩
            · go_wp2_with fail
              go_ret
              exact ⟨rfl, bl_then hbn hbx⟩

theorem OccurRises_row (w : World) (t : Tm) (A : Option Addr) (c : Nat) (hr : Reads (fun _ => False) w A t.a) (hc : t.a.length ≤ c) (g : okT t) (hcn : cnt t ≤ 1048576) :
    Calls Try.prog 6 #[.agg #[.int .i64 t.k, .int .i64 t.h, .slice A t.a.length c]] w fun e w' => e = .returned (.bool true) ∧ Below w.heap.size w w' :=
  OccurRises_calls t A c w hr hc g hcn
end Go.Proofs.Ytjpnlmlckmhcaaa
