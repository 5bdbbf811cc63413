/- The law OccurShifts. -/
import Derived.Test.YtjpnlmlckmhcaaaO20
import Derived.Test.YtjpnlmlckmhcaaaO19
namespace Go.Proofs.Ytjpnlmlckmhcaaa
open Go.RowKit Go.Shelf

set_option maxHeartbeats 8000000 in
set_option maxRecDepth 100000 in
theorem OccurShifts_row (w : World) (t : Tm) (A : Option Addr) (c : Nat) (hr : Reads (fun _ => False) w A t.a) (hc : t.a.length ≤ c) (hk : okT t) (b : Int) (hbi : -9223372036854775808 ≤ b ∧ b ≤ 9223372036854775807)
    (n : Int) (hni : -9223372036854775808 ≤ n ∧ n ≤ 9223372036854775807) (hcn : cnt t ≤ 1048576) :
    Calls Try.prog 9 #[.agg #[.int .i64 t.k, .int .i64 t.h, .slice A t.a.length c], .int .i64 b, .int .i64 n] w fun e w' => e = .returned (.bool true) ∧ Below w.heap.size w w' := by
  have hb0 : Below w.heap.size w (w.alloc (.cells #[.int .i64 t.k, .int .i64 t.h, .slice A t.a.length c] 30)) := bl_alloc (Below.refl _ _) _
  have e0 := Blk.new w #[.int .i64 t.k, .int .i64 t.h, .slice A t.a.length c] 30
  have HB0 := Lib.hid hb0
  have E0 := Lib.hid e0
  have HL := Lib.hid (fun (W : World) (hb : Below w.heap.size w W) => Light_calls t A c 3000 60 W (hr.mov hb) hc)
  have HY := Lib.hid (fun (W : World) (hb : Below w.heap.size w W) => May_calls t A c W (hr.mov hb) hc)
  clear hb0 e0
  obtain ⟨lb, hlb⟩ : ∃ b, lightB t 3000 60 = b := ⟨_, rfl⟩
  rw [hlb] at HL
  cases lb
  · clear hlb
    go_enter Try.func9, Try.ntmps9
    go_wp2_with (first
      | (go_at_call 10; refine (awake5_calls _).mono ?_; rintro e w1 ⟨rfl, hb1⟩; have p := E0.out.mov hb1; have p0 := p.cell 0; have p1 := p.cell 1; have p2 := p.cell 2; clear p)
      | (go_at_call 14; refine (HL.out _ (bl_then HB0.out hb1)).mono ?_; clear HL; rintro e w2 ⟨rfl, hb2⟩; have hb := bl_then (bl_then HB0.out hb1) hb2; clear p0 p1 p2; have p := (E0.out.mov hb1).mov hb2; have p0 := p.cell 0; have p1 := p.cell 1; have p2 := p.cell 2; clear p)
      | (go_at_call 24; refine (HY.out _ hb).mono ?_; clear HY; rintro e w3 ⟨rfl, hb3⟩; have hbb := bl_then hb hb3))
    go_ret
    exact ⟨rfl, by first | exact hbb | exact hb⟩
  have HLB := Lib.hid hlb
  clear hlb
  obtain ⟨mb, hmb⟩ : ∃ b, mayB t = b := ⟨_, rfl⟩
  rw [hmb] at HY
  cases mb
  · clear hmb
    go_enter Try.func9, Try.ntmps9
    go_wp2_with (first
      | (go_at_call 10; refine (awake5_calls _).mono ?_; rintro e w1 ⟨rfl, hb1⟩; have p := E0.out.mov hb1; have p0 := p.cell 0; have p1 := p.cell 1; have p2 := p.cell 2; clear p)
      | (go_at_call 14; refine (HL.out _ (bl_then HB0.out hb1)).mono ?_; clear HL; rintro e w2 ⟨rfl, hb2⟩; have hb := bl_then (bl_then HB0.out hb1) hb2; clear p0 p1 p2; have p := (E0.out.mov hb1).mov hb2; have p0 := p.cell 0; have p1 := p.cell 1; have p2 := p.cell 2; clear p)
      | (go_at_call 24; refine (HY.out _ hb).mono ?_; clear HY; rintro e w3 ⟨rfl, hb3⟩; have hbb := bl_then hb hb3))
    go_ret
    exact ⟨rfl, by first | exact hbb | exact hb⟩
  have HMB := Lib.hid hmb
  clear hmb
  rcases Int.lt_or_le b 0 with hv0 | hv0
  · skip
    go_enter Try.func9, Try.ntmps9
    go_wp2_with (first
      | (go_at_call 10; refine (awake5_calls _).mono ?_; rintro e w1 ⟨rfl, hb1⟩; have p := E0.out.mov hb1; have p0 := p.cell 0; have p1 := p.cell 1; have p2 := p.cell 2; clear p)
      | (go_at_call 14; refine (HL.out _ (bl_then HB0.out hb1)).mono ?_; clear HL; rintro e w2 ⟨rfl, hb2⟩; have hb := bl_then (bl_then HB0.out hb1) hb2; clear p0 p1 p2; have p := (E0.out.mov hb1).mov hb2; have p0 := p.cell 0; have p1 := p.cell 1; have p2 := p.cell 2; clear p)
      | (go_at_call 24; refine (HY.out _ hb).mono ?_; clear HY; rintro e w3 ⟨rfl, hb3⟩; have hbb := bl_then hb hb3))
    go_ret
    exact ⟨rfl, by first | exact hbb | exact hb⟩
  rcases Int.lt_or_le 1000 b with hv1 | hv1
  · skip
    go_enter Try.func9, Try.ntmps9
    go_wp2_with (first
      | (go_at_call 10; refine (awake5_calls _).mono ?_; rintro e w1 ⟨rfl, hb1⟩; have p := E0.out.mov hb1; have p0 := p.cell 0; have p1 := p.cell 1; have p2 := p.cell 2; clear p)
      | (go_at_call 14; refine (HL.out _ (bl_then HB0.out hb1)).mono ?_; clear HL; rintro e w2 ⟨rfl, hb2⟩; have hb := bl_then (bl_then HB0.out hb1) hb2; clear p0 p1 p2; have p := (E0.out.mov hb1).mov hb2; have p0 := p.cell 0; have p1 := p.cell 1; have p2 := p.cell 2; clear p)
      | (go_at_call 24; refine (HY.out _ hb).mono ?_; clear HY; rintro e w3 ⟨rfl, hb3⟩; have hbb := bl_then hb hb3))
    go_ret
    exact ⟨rfl, by first | exact hbb | exact hb⟩
  rcases Int.lt_or_le n 0 with hn0 | hn0
  · skip
    go_enter Try.func9, Try.ntmps9
    go_wp2_with (first
      | (go_at_call 10; refine (awake5_calls _).mono ?_; rintro e w1 ⟨rfl, hb1⟩; have p := E0.out.mov hb1; have p0 := p.cell 0; have p1 := p.cell 1; have p2 := p.cell 2; clear p)
      | (go_at_call 14; refine (HL.out _ (bl_then HB0.out hb1)).mono ?_; clear HL; rintro e w2 ⟨rfl, hb2⟩; have hb := bl_then (bl_then HB0.out hb1) hb2; clear p0 p1 p2; have p := (E0.out.mov hb1).mov hb2; have p0 := p.cell 0; have p1 := p.cell 1; have p2 := p.cell 2; clear p)
      | (go_at_call 24; refine (HY.out _ hb).mono ?_; clear HY; rintro e w3 ⟨rfl, hb3⟩; have hbb := bl_then hb hb3))
    go_ret
    exact ⟨rfl, by first | exact hbb | exact hb⟩
  rcases Int.lt_or_le 100 n with hn1 | hn1
  · skip
    go_enter Try.func9, Try.ntmps9
    go_wp2_with (first
      | (go_at_call 10; refine (awake5_calls _).mono ?_; rintro e w1 ⟨rfl, hb1⟩; have p := E0.out.mov hb1; have p0 := p.cell 0; have p1 := p.cell 1; have p2 := p.cell 2; clear p)
      | (go_at_call 14; refine (HL.out _ (bl_then HB0.out hb1)).mono ?_; clear HL; rintro e w2 ⟨rfl, hb2⟩; have hb := bl_then (bl_then HB0.out hb1) hb2; clear p0 p1 p2; have p := (E0.out.mov hb1).mov hb2; have p0 := p.cell 0; have p1 := p.cell 1; have p2 := p.cell 2; clear p)
      | (go_at_call 24; refine (HY.out _ hb).mono ?_; clear HY; rintro e w3 ⟨rfl, hb3⟩; have hbb := bl_then hb hb3))
    go_ret
    exact ⟨rfl, by first | exact hbb | exact hb⟩
  obtain ⟨m, rfl⟩ : ∃ m : Nat, n = (m : Int) := ⟨n.toNat, by omega⟩
  have hup : upT t b 0 = upW b 0 t 0 := by
    unfold upT mayS
    rw [if_pos]
    rw [HMB.out]
    simp
    omega
  have hvs := vars_shift hv0 hv1 hk hcn (nodesOk_of HMB.out) (low_of HLB.out)
  have hco : cnt (upW b 0 t 0) ≤ 1048576 := by rw [cnt_up]; exact hcn
  have hko := okT_up b 0 t 0 hk
  have HV := Lib.hid (fun (W : World) (hb : Below w.heap.size w W) => Vars_ret t A c W (hr.mov hb) hc hk hcn)
  have HU := Lib.hid (fun (W : World) (hb : Below w.heap.size w W) => hup ▸ Up_calls (fun _ => False) t A c b 0 W (fun _ q => q.elim) (hr.mov hb) hc)
  have HV2 := Lib.hid (fun (W : World) (B : Option Addr) (d : Nat) (hr2 : Reads (fun _ => False) W B (upW b 0 t 0).a) (hd : (upW b 0 t 0).a.length ≤ d) => hvs ▸ Vars_ret (upW b 0 t 0) B d W hr2 hd hko hco)
  have hvl := fold_len stepV_len (nodesW t 0) []
  rw [nodesW_len] at hvl
  clear hup hvs hco hko
  have hrg : ∀ x ∈ (nodesW t 0).foldl stepV [], 0 ≤ x ∧ x ≤ 1099511627776 := by
    have hfv := foldV_rise (nodesW t 0) [] List.Pairwise.nil
    have hfm := foldM_rise (nodesW t 0) [] List.Pairwise.nil
    have hP := plain18 hfv.1 (fun x => (hfv.2 x).trans (by simp)) hfm.1 (fun x => (hfm.2 x).trans (by simp)) hk hcn (nodesOk_of HMB.out) (low_of HLB.out)
    intro x hx
    have h1 := top_le hfv.1 x hx
    have h2 := hP.v1
    refine ⟨?_, by omega⟩
    have h3 := (hfv.2 x).1 hx
    simp only [List.not_mem_nil, false_or] at h3
    obtain ⟨y, hy, e⟩ := List.mem_filterMap.1 h3
    have h4 := nodesW_low t 0 (by omega) (by omega) y hy
    have h5 := okT_nodes t 0 hk y hy
    unfold inH at h5
    split at e
    · rename_i q
      obtain rfl := Option.some.inj e
      have hw : wrap64 (y.2.h - y.1) = y.2.h - y.1 := by unfold wrap64; omega
      omega
    · cases e
  generalize upW b 0 t 0 = u at *
  generalize (nodesW t 0).foldl stepV [] = vs at *
  simp at hvl
  obtain ⟨pv, hpv, hpl⟩ := pat_down m
  have hps := pat_down_less m
  have hsn : sameN (m : Int) = m := by unfold sameN; split; omega; split <;> omega
  have HS := Lib.hid (fun (W : World) => hsn ▸ SameN_calls (fun _ => False) (m : Int) W (fun _ q => q.elim))
  have hlm := downT'_len (m : Int) m
  have HP1 := Lib.hid (fun (W : World) (B : Option Addr) (d : Nat) (hr2 : Reads (fun _ => False) W B (downT' (m : Int) m)) => hpv ▸ Pattern_calls (downT' (m : Int) m) B d (m : Int) W hr2)
  have HP2 := Lib.hid (fun (W : World) (B : Option Addr) (d : Nat) (hr2 : Reads (fun _ => False) W B (downT' (m : Int) m)) => Pattern_calls (downT' (m : Int) m) B d ((m : Int) - 1) W hr2)
  have HRG := Lib.hid hrg
  have HPL := Lib.hid hpl
  have HPS := Lib.hid hps
  clear hrg hpl hps hsn hpv
  have hfd : ∀ (A : Option Addr) (n c : Nat) (x : Int) (w : World), (Instr.field 41 (.agg #[.slice A n c, .int .i64 x]) 0).run Try.prog w = .ok (.slice A n c) w := fun _ _ _ _ _ => by kernel_rfl
  have hlu : ((vs.map (· + b)).length : Int) = (vs.length : Int) := by simp
  go_enter Try.func9, Try.ntmps9
  go_wp2_with (first
    | (go_at_call 10; refine (awake5_calls _).mono ?_; rintro e w1 ⟨rfl, hb1⟩; have p := E0.out.mov hb1; have p0 := p.cell 0; have p1 := p.cell 1; have p2 := p.cell 2; clear p)
    | (go_at_call 14; refine (HL.out _ (bl_then HB0.out hb1)).mono ?_; clear HL; rintro e w2 ⟨rfl, hb2⟩; have hb := bl_then hb1 hb2; clear p0 p1 p2; have p := E0.out.mov hb; have p0 := p.cell 0; have p1 := p.cell 1; have p2 := p.cell 2; clear p)
    | (go_at_call 24; refine (HY.out _ (bl_then HB0.out hb)).mono ?_; clear HY; rintro e w3 ⟨rfl, hb3⟩; have hx3 := bl_then hb hb3; clear p0 p1 p2; have p := E0.out.mov hx3; have p0 := p.cell 0; have p1 := p.cell 1; have p2 := p.cell 2; clear p)
    | (go_at_call 17; (with_reducible refine (HV.out _ (bl_then HB0.out hx3)).mono ?_); clear HV; rintro e w4 ⟨⟨B4, c4, rfl, hr4⟩, hb4⟩; have hx4 := bl_then hx3 hb4; clear p0 p1 p2; have p := E0.out.mov hx4; have p0 := p.cell 0; have p1 := p.cell 1; have p2 := p.cell 2; clear p)
    | (go_at_call 26; refine (HU.out _ (bl_then HB0.out hx4)).mono ?_; clear HU; rintro e w5 ⟨hb5, B5, c5, rfl, hc5, hr5⟩; have hx5 := bl_then hx4 hb5)
    | (go_at_call 17; (with_reducible refine (HV2.out _ B5 c5 hr5 hc5).mono ?_); clear HV2; rintro e w6 ⟨⟨B6, c6, rfl, hr6⟩, hb6⟩; have hx6 := bl_then hx5 hb6))
  have hw6 := bl_then HB0.out hx6
  have HR4 := Lib.hid ((hr4.mov hb5).mov hb6)
  have HR6 := Lib.hid hr6
  clear hr4 hr6 hb1 hb2 hb3 hb4 hb5 hb6 hx3 hx4 hx5 hx6 hb
  have hvl2 : vs.length ≤ 1048576 := by omega
  go_loopw [11] (fun j wr => ∃ i : Nat, j = .int .i64 (i : Int) ∧ i ≤ vs.length ∧ Below w6.heap.size w6 wr) (fun j _ => vs.length - (intOf j).toNat)
  case atStart => exact ⟨0, rfl, Nat.zero_le _, Below.refl _ _⟩
  case round =>
    obtain ⟨i, rfl, hi2, hbx⟩ := hrel
    by_cases hlt : i < vs.length
    · obtain ⟨ad1, e1, -, x1⟩ := (HR4.out.mov hbx).2 i hlt
      cases e1
      obtain ⟨ad2, e2, -, x2⟩ := (HR6.out.mov hbx).2 i (by simpa using hlt)
      cases e2
      rw [List.getElem_map] at x2
      obtain ⟨g0, g1⟩ := HRG.out _ (List.getElem_mem hlt)
      have hwr : IntKind.i64.wrap (vs[i] + b) = vs[i] + b := IntWalk.i64_in _ (by omega)
      have hi0 : (0 : Int) ≤ (i : Int) := by omega
      have hi1 : (i : Int) < (vs.length : Int) := by omega
      go_wp2_with fail
      go_still_tail 10, (by kernel_rfl)
      go_wp2_with fail
      exact ⟨⟨i + 1, by go_num, hlt, hbx.drew⟩, by simp [intOf]; omega⟩
    · have hww := bl_then hw6 hbx
      have hm1 : (m : Int) - 1 < (m : Int) := by omega
      cases hps : decide (m = 0)
      all_goals
        rw [hps] at HPS
        generalize patV (downT' (m : Int) m) ((m : Int) - 1) = pw at *
        go_wp2_with (first
          | (go_at_call 27; (with_reducible refine (HS.out wr).mono ?_); rintro e w7 ⟨hb7, B7, c7, rfl, hc7, hr7⟩; rw [hlm])
          | (go_at_call 11; refine (hlm ▸ HP1.out _ B7 c7 hr7).mono ?_; clear HP1; rintro e w8 hre; obtain ⟨us8, B8, c8, rfl, hv8, -, hb8⟩ := hre.u; clear hre; have h8 : us8.length = m := hv8 ▸ HPL.out; have H8 := Lib.hid h8; have hl8 : (us8.length : Int) = (m : Int) := by rw [h8]
             clear hv8 h8; have hx8 := bl_then hb7 hb8; clear hr7 hc7)
          | (go_at_call 27; refine (HS.out w8).mono ?_; clear HS; rintro e w9 ⟨hb9, B9, c9, rfl, hc9, hr9⟩; rw [hlm])
          | (go_at_call 11; refine (hlm ▸ HP2.out _ B9 c9 hr9).mono ?_; clear HP2; rintro e w10 hre; obtain ⟨us10, B10, c10, rfl, hv10, -, hb10⟩ := hre.u; clear hre hv10; rw [HPS.out]; have hx10 := bl_then hb9 hb10; clear hr9 hc9))
        go_ret
        exact ⟨by simp [hl8, hps]; simpa using hps, bl_then (bl_then hww hx8) hx10⟩
end Go.Proofs.Ytjpnlmlckmhcaaa
