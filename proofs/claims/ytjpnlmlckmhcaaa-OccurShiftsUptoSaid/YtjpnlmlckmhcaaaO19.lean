/- The law OccurScoped. -/
import Derived.Test.YtjpnlmlckmhcaaaO18
namespace Go.Proofs.Ytjpnlmlckmhcaaa
open Go.RowKit Go.Shelf

theorem low_of {t : Tm} {n d : Int} (h : lightB t n d = true) : lowB t = true := by unfold lightB at h; simp at h; exact h.1

set_option maxHeartbeats 8000000 in
set_option maxRecDepth 100000 in
theorem OccurScoped_row (w : World) (t : Tm) (A : Option Addr) (c : Nat) (hr : Reads (fun _ => False) w A t.a) (hc : t.a.length ≤ c) (hk : okT t) (v : Int) (hv : -9223372036854775808 ≤ v ∧ v ≤ 9223372036854775807) (hcn : cnt t ≤ 1048576) :
    Calls Try.prog 8 #[.agg #[.int .i64 t.k, .int .i64 t.h, .slice A t.a.length c], .int .i64 v] w fun e w' => e = .returned (.bool true) ∧ Below w.heap.size w w' := by
  have hb0 : Below w.heap.size w (w.alloc (.cells #[.int .i64 t.k, .int .i64 t.h, .slice A t.a.length c] 30)) := bl_alloc (Below.refl _ _) _
  have e0 := Blk.new w #[.int .i64 t.k, .int .i64 t.h, .slice A t.a.length c] 30
  have HB0 := Lib.hid hb0
  have E0 := Lib.hid e0
  have HL := Lib.hid (fun (W : World) (hb : Below w.heap.size w W) => Light_calls t A c 3000 60 W (hr.mov hb) hc)
  have HY := Lib.hid (fun (W : World) (hb : Below w.heap.size w W) => May_calls t A c W (hr.mov hb) hc)
  clear hb0 e0
  obtain ⟨lb, hlb⟩ : ∃ b, lightB t 3000 60 = b := ⟨_, rfl⟩
  rw [hlb] at HL
  cases lb
  · clear hlb
    go_enter Try.func8, Try.ntmps8
    go_wp2_with (first
      | (go_at_call 10; refine (awake5_calls _).mono ?_; rintro e w1 ⟨rfl, hb1⟩; have p := E0.out.mov hb1; have p0 := p.cell 0; have p1 := p.cell 1; have p2 := p.cell 2; clear p)
      | (go_at_call 14; refine (HL.out _ (bl_then HB0.out hb1)).mono ?_; clear HL; rintro e w2 ⟨rfl, hb2⟩; have hb := bl_then (bl_then HB0.out hb1) hb2; clear p0 p1 p2; have p := (E0.out.mov hb1).mov hb2; have p0 := p.cell 0; have p1 := p.cell 1; have p2 := p.cell 2; clear p)
      | (go_at_call 24; refine (HY.out _ hb).mono ?_; clear HY; rintro e w3 ⟨rfl, hb3⟩; have hbb := bl_then hb hb3))
    go_ret
    exact ⟨rfl, by first | exact hbb | exact hb⟩
  have HLB := Lib.hid hlb
  clear hlb
  obtain ⟨mb, hmb⟩ : ∃ b, mayB t = b := ⟨_, rfl⟩
  rw [hmb] at HY
  cases mb
  · clear hmb
    go_enter Try.func8, Try.ntmps8
    go_wp2_with (first
      | (go_at_call 10; refine (awake5_calls _).mono ?_; rintro e w1 ⟨rfl, hb1⟩; have p := E0.out.mov hb1; have p0 := p.cell 0; have p1 := p.cell 1; have p2 := p.cell 2; clear p)
      | (go_at_call 14; refine (HL.out _ (bl_then HB0.out hb1)).mono ?_; clear HL; rintro e w2 ⟨rfl, hb2⟩; have hb := bl_then (bl_then HB0.out hb1) hb2; clear p0 p1 p2; have p := (E0.out.mov hb1).mov hb2; have p0 := p.cell 0; have p1 := p.cell 1; have p2 := p.cell 2; clear p)
      | (go_at_call 24; refine (HY.out _ hb).mono ?_; clear HY; rintro e w3 ⟨rfl, hb3⟩; have hbb := bl_then hb hb3))
    go_ret
    exact ⟨rfl, by first | exact hbb | exact hb⟩
  have HMB := Lib.hid hmb
  clear hmb
  rcases Int.lt_or_le v 0 with hv0 | hv0
  · skip
    go_enter Try.func8, Try.ntmps8
    go_wp2_with (first
      | (go_at_call 10; refine (awake5_calls _).mono ?_; rintro e w1 ⟨rfl, hb1⟩; have p := E0.out.mov hb1; have p0 := p.cell 0; have p1 := p.cell 1; have p2 := p.cell 2; clear p)
      | (go_at_call 14; refine (HL.out _ (bl_then HB0.out hb1)).mono ?_; clear HL; rintro e w2 ⟨rfl, hb2⟩; have hb := bl_then (bl_then HB0.out hb1) hb2; clear p0 p1 p2; have p := (E0.out.mov hb1).mov hb2; have p0 := p.cell 0; have p1 := p.cell 1; have p2 := p.cell 2; clear p)
      | (go_at_call 24; refine (HY.out _ hb).mono ?_; clear HY; rintro e w3 ⟨rfl, hb3⟩; have hbb := bl_then hb hb3))
    go_ret
    exact ⟨rfl, by first | exact hbb | exact hb⟩
  rcases Int.lt_or_le 1000 v with hv1 | hv1
  · skip
    go_enter Try.func8, Try.ntmps8
    go_wp2_with (first
      | (go_at_call 10; refine (awake5_calls _).mono ?_; rintro e w1 ⟨rfl, hb1⟩; have p := E0.out.mov hb1; have p0 := p.cell 0; have p1 := p.cell 1; have p2 := p.cell 2; clear p)
      | (go_at_call 14; refine (HL.out _ (bl_then HB0.out hb1)).mono ?_; clear HL; rintro e w2 ⟨rfl, hb2⟩; have hb := bl_then (bl_then HB0.out hb1) hb2; clear p0 p1 p2; have p := (E0.out.mov hb1).mov hb2; have p0 := p.cell 0; have p1 := p.cell 1; have p2 := p.cell 2; clear p)
      | (go_at_call 24; refine (HY.out _ hb).mono ?_; clear HY; rintro e w3 ⟨rfl, hb3⟩; have hbb := bl_then hb hb3))
    go_ret
    exact ⟨rfl, by first | exact hbb | exact hb⟩
  have hfv := foldV_rise (nodesW t 0) [] List.Pairwise.nil
  have hfm := foldM_rise (nodesW t 0) [] List.Pairwise.nil
  have hP := plain18 hfv.1 (fun x => (hfv.2 x).trans (by simp)) hfm.1 (fun x => (hfm.2 x).trans (by simp)) hk hcn (nodesOk_of HMB.out) (low_of HLB.out)
  have HV := Lib.hid (fun (W : World) (hb : Below w.heap.size w W) => Vars_ret t A c W (hr.mov hb) hc hk hcn)
  have HM := Lib.hid (fun (W : World) (hb : Below w.heap.size w W) => Metas_ret t A c W (hr.mov hb) hc hk hcn)
  have hvl := fold_len stepV_len (nodesW t 0) []
  have hml := fold_len stepM_len (nodesW t 0) []
  rw [nodesW_len] at hvl hml
  clear hfv hfm
  generalize (nodesW t 0).foldl stepV [] = vs at *
  generalize (nodesW t 0).foldl stepM [] = ms at *
  simp at hvl hml
  obtain ⟨hP1, hP2, hP3, hP4, hP5, hP6, hP7, hP8⟩ := hP
  replace hP2 := hP2 v hv0
  have hS1 := fun (W : World) (hb : Below w.heap.size w W) => Scoped_calls t A c (topI vs) (topI ms) W (hr.mov hb) hc
  have hS2 := fun (W : World) (hb : Below w.heap.size w W) => Scoped_calls t A c v (topI ms) W (hr.mov hb) hc
  have hS3 := fun (W : World) (hb : Below w.heap.size w W) => Scoped_calls t A c (topI vs) (topI ms - 1) W (hr.mov hb) hc
  rw [hP1] at hS1
  rw [hP2] at hS2
  obtain ⟨nv, hnv⟩ : ∃ n, vs.length = n := ⟨_, rfl⟩
  obtain ⟨nm, hnm⟩ : ∃ n, ms.length = n := ⟨_, rfl⟩
  replace HV := Lib.hid (fun (W : World) (hb : Below w.heap.size w W) => Calls.mono (R' := fun e w' => (∃ B c', e = .returned (.slice B nv c') ∧ RdI (fun _ => False) w' B vs) ∧ Below W.heap.size W w') (HV.out W hb) fun e w' ⟨⟨B, c', h1, h2⟩, hb⟩ => ⟨⟨B, c', by rw [h1, hnv], h2⟩, hb⟩)
  replace HM := Lib.hid (fun (W : World) (hb : Below w.heap.size w W) => Calls.mono (R' := fun e w' => (∃ B c', e = .returned (.slice B nm c') ∧ RdI (fun _ => False) w' B ms) ∧ Below W.heap.size W w') (HM.out W hb) fun e w' ⟨⟨B, c', h1, h2⟩, hb⟩ => ⟨⟨B, c', by rw [h1, hnm], h2⟩, hb⟩)
  have hnv1 : nv ≤ 1048576 := by omega
  have hnm1 : nm ≤ 1048576 := by omega
  clear hvl hml hP1 hP2
  cases nv with
  | zero =>
    rw [top_nil hnv] at hS1 hS2 hS3 hP3 hP4 hP6
    cases nm with
    | zero =>
      rw [top_nil hnm] at hS1 hS2
      have HS1 := Lib.hid hS1
      have HS2 := Lib.hid hS2
      clear hS1 hS2 hS3 hP3 hP4 hP5 hP6 hP7 hP8 hnv hnm
      go_enter Try.func8, Try.ntmps8
      go_wp2_with (first
        | (go_at_call 10; refine (awake5_calls _).mono ?_; rintro e w1 ⟨rfl, hb1⟩; have p := E0.out.mov hb1; have p0 := p.cell 0; have p1 := p.cell 1; have p2 := p.cell 2; clear p)
        | (go_at_call 14; refine (HL.out _ (bl_then HB0.out hb1)).mono ?_; clear HL; rintro e w2 ⟨rfl, hb2⟩; have hb := bl_then hb1 hb2; clear p0 p1 p2; have p := E0.out.mov hb; have p0 := p.cell 0; have p1 := p.cell 1; have p2 := p.cell 2; clear p)
        | (go_at_call 24; refine (HY.out _ (bl_then HB0.out hb)).mono ?_; clear HY; rintro e w3 ⟨rfl, hb3⟩; have hx3 := bl_then hb hb3; clear p0 p1 p2; have p := E0.out.mov hx3; have p0 := p.cell 0; have p1 := p.cell 1; have p2 := p.cell 2; clear p)
        | (go_at_call 17; refine (HV.out _ (bl_then HB0.out hx3)).mono ?_; clear HV; rintro e w4 ⟨⟨B4, c4, rfl, hr4⟩, hb4⟩; have hx4 := bl_then hx3 hb4; clear p0 p1 p2; have p := E0.out.mov hx4; have p0 := p.cell 0; have p1 := p.cell 1; have p2 := p.cell 2; clear p)
        | (go_at_call 19; refine (HM.out _ (bl_then HB0.out hx4)).mono ?_; clear HM; rintro e w5 ⟨⟨B5, c5, rfl, hr5⟩, hb5⟩; have hx5 := bl_then hx4 hb5; clear p0 p1 p2; have p := E0.out.mov hx5; have p0 := p.cell 0; have p1 := p.cell 1; have p2 := p.cell 2; clear p; skip; skip)
        | (go_at_call 25; (with_reducible refine (HS1.out _ (bl_then HB0.out hx5)).mono ?_); clear HS1; rintro e w6 ⟨rfl, hb6⟩; have hx6 := bl_then hx5 hb6; clear p0 p1 p2; have p := E0.out.mov hx6; have p0 := p.cell 0; have p1 := p.cell 1; have p2 := p.cell 2; clear p)
        | (go_at_call 25; (with_reducible refine (HS2.out _ (bl_then HB0.out hx6)).mono ?_); clear HS2; rintro e w7 ⟨rfl, hb7⟩; have hx7 := bl_then hx6 hb7; clear p0 p1 p2; have p := E0.out.mov hx7; have p0 := p.cell 0; have p1 := p.cell 1; have p2 := p.cell 2; clear p)
        | (go_at_call 25; (with_reducible refine (HS3.out _ (bl_then HB0.out hx7)).mono ?_); clear HS3; rintro e w8 ⟨rfl, hb8⟩; have hx8 := bl_then hx7 hb8))
      go_ret
      exact ⟨by simp, bl_then HB0.out hx7⟩
    | succ qm =>
      obtain ⟨hqm, em⟩ := top_at hnm
      have h3 := hP3 (by omega)
      rw [h3] at hS3
      rw [em] at hS1 hS2 hS3 hP5 hP7
      rw [Int.add_sub_cancel] at hS3
      have hne : ((ms[qm] + 1 : Int) == 0) = false := by
        have h0 := hP8 (by omega)
        rw [em] at h0
        simp
        omega
      have HS1 := Lib.hid hS1
      have HS2 := Lib.hid hS2
      have HS3 := Lib.hid hS3
      clear hS1 hS2 hS3 hP3 hP4 hP6 hP8 hnv hnm em h3
      go_enter Try.func8, Try.ntmps8
      go_wp2_with (first
        | (go_at_call 10; refine (awake5_calls _).mono ?_; rintro e w1 ⟨rfl, hb1⟩; have p := E0.out.mov hb1; have p0 := p.cell 0; have p1 := p.cell 1; have p2 := p.cell 2; clear p)
        | (go_at_call 14; refine (HL.out _ (bl_then HB0.out hb1)).mono ?_; clear HL; rintro e w2 ⟨rfl, hb2⟩; have hb := bl_then hb1 hb2; clear p0 p1 p2; have p := E0.out.mov hb; have p0 := p.cell 0; have p1 := p.cell 1; have p2 := p.cell 2; clear p)
        | (go_at_call 24; refine (HY.out _ (bl_then HB0.out hb)).mono ?_; clear HY; rintro e w3 ⟨rfl, hb3⟩; have hx3 := bl_then hb hb3; clear p0 p1 p2; have p := E0.out.mov hx3; have p0 := p.cell 0; have p1 := p.cell 1; have p2 := p.cell 2; clear p)
        | (go_at_call 17; refine (HV.out _ (bl_then HB0.out hx3)).mono ?_; clear HV; rintro e w4 ⟨⟨B4, c4, rfl, hr4⟩, hb4⟩; have hx4 := bl_then hx3 hb4; clear p0 p1 p2; have p := E0.out.mov hx4; have p0 := p.cell 0; have p1 := p.cell 1; have p2 := p.cell 2; clear p)
        | (go_at_call 19; refine (HM.out _ (bl_then HB0.out hx4)).mono ?_; clear HM; rintro e w5 ⟨⟨B5, c5, rfl, hr5⟩, hb5⟩; have hx5 := bl_then hx4 hb5; clear p0 p1 p2; have p := E0.out.mov hx5; have p0 := p.cell 0; have p1 := p.cell 1; have p2 := p.cell 2; clear p; skip; obtain ⟨ad5, e5, -, y5⟩ := hr5.2 qm hqm; cases e5)
        | (go_at_call 25; (with_reducible refine (HS1.out _ (bl_then HB0.out hx5)).mono ?_); clear HS1; rintro e w6 ⟨rfl, hb6⟩; have hx6 := bl_then hx5 hb6; clear p0 p1 p2; have p := E0.out.mov hx6; have p0 := p.cell 0; have p1 := p.cell 1; have p2 := p.cell 2; clear p)
        | (go_at_call 25; (with_reducible refine (HS2.out _ (bl_then HB0.out hx6)).mono ?_); clear HS2; rintro e w7 ⟨rfl, hb7⟩; have hx7 := bl_then hx6 hb7; clear p0 p1 p2; have p := E0.out.mov hx7; have p0 := p.cell 0; have p1 := p.cell 1; have p2 := p.cell 2; clear p)
        | (go_at_call 25; (with_reducible refine (HS3.out _ (bl_then HB0.out hx7)).mono ?_); clear HS3; rintro e w8 ⟨rfl, hb8⟩; have hx8 := bl_then hx7 hb8))
      go_ret
      exact ⟨by simp, bl_then HB0.out hx8⟩
  | succ qv =>
    obtain ⟨hqv, ev⟩ := top_at hnv
    rw [ev] at hS1 hS2 hS3 hP3 hP4 hP6
    cases nm with
    | zero =>
      rw [top_nil hnm] at hS1 hS2
      have HS1 := Lib.hid hS1
      have HS2 := Lib.hid hS2
      clear hS1 hS2 hS3 hP3 hP5 hP7 hP8 hnv hnm ev
      go_enter Try.func8, Try.ntmps8
      go_wp2_with (first
        | (go_at_call 10; refine (awake5_calls _).mono ?_; rintro e w1 ⟨rfl, hb1⟩; have p := E0.out.mov hb1; have p0 := p.cell 0; have p1 := p.cell 1; have p2 := p.cell 2; clear p)
        | (go_at_call 14; refine (HL.out _ (bl_then HB0.out hb1)).mono ?_; clear HL; rintro e w2 ⟨rfl, hb2⟩; have hb := bl_then hb1 hb2; clear p0 p1 p2; have p := E0.out.mov hb; have p0 := p.cell 0; have p1 := p.cell 1; have p2 := p.cell 2; clear p)
        | (go_at_call 24; refine (HY.out _ (bl_then HB0.out hb)).mono ?_; clear HY; rintro e w3 ⟨rfl, hb3⟩; have hx3 := bl_then hb hb3; clear p0 p1 p2; have p := E0.out.mov hx3; have p0 := p.cell 0; have p1 := p.cell 1; have p2 := p.cell 2; clear p)
        | (go_at_call 17; refine (HV.out _ (bl_then HB0.out hx3)).mono ?_; clear HV; rintro e w4 ⟨⟨B4, c4, rfl, hr4⟩, hb4⟩; have hx4 := bl_then hx3 hb4; clear p0 p1 p2; have p := E0.out.mov hx4; have p0 := p.cell 0; have p1 := p.cell 1; have p2 := p.cell 2; clear p)
        | (go_at_call 19; refine (HM.out _ (bl_then HB0.out hx4)).mono ?_; clear HM; rintro e w5 ⟨⟨B5, c5, rfl, hr5⟩, hb5⟩; have hx5 := bl_then hx4 hb5; clear p0 p1 p2; have p := E0.out.mov hx5; have p0 := p.cell 0; have p1 := p.cell 1; have p2 := p.cell 2; clear p; obtain ⟨ad4, e4, -, y4⟩ := (hr4.mov hb5).2 qv hqv; cases e4; skip)
        | (go_at_call 25; (with_reducible refine (HS1.out _ (bl_then HB0.out hx5)).mono ?_); clear HS1; rintro e w6 ⟨rfl, hb6⟩; have hx6 := bl_then hx5 hb6; clear p0 p1 p2; have p := E0.out.mov hx6; have p0 := p.cell 0; have p1 := p.cell 1; have p2 := p.cell 2; clear p)
        | (go_at_call 25; (with_reducible refine (HS2.out _ (bl_then HB0.out hx6)).mono ?_); clear HS2; rintro e w7 ⟨rfl, hb7⟩; have hx7 := bl_then hx6 hb7; clear p0 p1 p2; have p := E0.out.mov hx7; have p0 := p.cell 0; have p1 := p.cell 1; have p2 := p.cell 2; clear p)
        | (go_at_call 25; (with_reducible refine (HS3.out _ (bl_then HB0.out hx7)).mono ?_); clear HS3; rintro e w8 ⟨rfl, hb8⟩; have hx8 := bl_then hx7 hb8))
      go_ret
      exact ⟨by simp, bl_then HB0.out hx7⟩
    | succ qm =>
      obtain ⟨hqm, em⟩ := top_at hnm
      have h3 := hP3 (by omega)
      rw [h3] at hS3
      rw [em] at hS1 hS2 hS3 hP5 hP7
      rw [Int.add_sub_cancel] at hS3
      have hne : ((ms[qm] + 1 : Int) == 0) = false := by
        have h0 := hP8 (by omega)
        rw [em] at h0
        simp
        omega
      have HS1 := Lib.hid hS1
      have HS2 := Lib.hid hS2
      have HS3 := Lib.hid hS3
      clear hS1 hS2 hS3 hP3 hP8 hnv hnm em h3 ev
      go_enter Try.func8, Try.ntmps8
      go_wp2_with (first
        | (go_at_call 10; refine (awake5_calls _).mono ?_; rintro e w1 ⟨rfl, hb1⟩; have p := E0.out.mov hb1; have p0 := p.cell 0; have p1 := p.cell 1; have p2 := p.cell 2; clear p)
        | (go_at_call 14; refine (HL.out _ (bl_then HB0.out hb1)).mono ?_; clear HL; rintro e w2 ⟨rfl, hb2⟩; have hb := bl_then hb1 hb2; clear p0 p1 p2; have p := E0.out.mov hb; have p0 := p.cell 0; have p1 := p.cell 1; have p2 := p.cell 2; clear p)
        | (go_at_call 24; refine (HY.out _ (bl_then HB0.out hb)).mono ?_; clear HY; rintro e w3 ⟨rfl, hb3⟩; have hx3 := bl_then hb hb3; clear p0 p1 p2; have p := E0.out.mov hx3; have p0 := p.cell 0; have p1 := p.cell 1; have p2 := p.cell 2; clear p)
        | (go_at_call 17; refine (HV.out _ (bl_then HB0.out hx3)).mono ?_; clear HV; rintro e w4 ⟨⟨B4, c4, rfl, hr4⟩, hb4⟩; have hx4 := bl_then hx3 hb4; clear p0 p1 p2; have p := E0.out.mov hx4; have p0 := p.cell 0; have p1 := p.cell 1; have p2 := p.cell 2; clear p)
        | (go_at_call 19; refine (HM.out _ (bl_then HB0.out hx4)).mono ?_; clear HM; rintro e w5 ⟨⟨B5, c5, rfl, hr5⟩, hb5⟩; have hx5 := bl_then hx4 hb5; clear p0 p1 p2; have p := E0.out.mov hx5; have p0 := p.cell 0; have p1 := p.cell 1; have p2 := p.cell 2; clear p; obtain ⟨ad4, e4, -, y4⟩ := (hr4.mov hb5).2 qv hqv; cases e4; obtain ⟨ad5, e5, -, y5⟩ := hr5.2 qm hqm; cases e5)
        | (go_at_call 25; (with_reducible refine (HS1.out _ (bl_then HB0.out hx5)).mono ?_); clear HS1; rintro e w6 ⟨rfl, hb6⟩; have hx6 := bl_then hx5 hb6; clear p0 p1 p2; have p := E0.out.mov hx6; have p0 := p.cell 0; have p1 := p.cell 1; have p2 := p.cell 2; clear p)
        | (go_at_call 25; (with_reducible refine (HS2.out _ (bl_then HB0.out hx6)).mono ?_); clear HS2; rintro e w7 ⟨rfl, hb7⟩; have hx7 := bl_then hx6 hb7; clear p0 p1 p2; have p := E0.out.mov hx7; have p0 := p.cell 0; have p1 := p.cell 1; have p2 := p.cell 2; clear p)
        | (go_at_call 25; (with_reducible refine (HS3.out _ (bl_then HB0.out hx7)).mono ?_); clear HS3; rintro e w8 ⟨rfl, hb8⟩; have hx8 := bl_then hx7 hb8))
      go_ret
      exact ⟨by simp, bl_then HB0.out hx8⟩
end Go.Proofs.Ytjpnlmlckmhcaaa
