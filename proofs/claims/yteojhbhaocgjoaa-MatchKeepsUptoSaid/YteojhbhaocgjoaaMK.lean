/- The law MatchKeeps. -/
import Derived.Test.YteojhbhaocgjoaaPF
import Derived.Test.YteojhbhaocgjoaaFB
import Derived.Test.YteojhbhaocgjoaaRF
import Derived.Deep.RegionLaw
namespace Go.Proofs.Yteojhbhaocgjoaa
open Go.RowKit Go.Shelf
set_option linter.unusedVariables false
set_option linter.unusedSimpArgs false

theorem copied_row {S : Nat → Prop} {w1 : World} {v1 : Value} {bs : List Bd} {n0 : Nat} (hl : bs.length ≤ lim) (h : (bs = [] ∧ v1 = .slice none 0 0) ∨ ∃ g cap cur, v1 = .slice (some ⟨g, 0, none⟩) bs.length cap ∧ n0 ≤ g ∧ bs.length ≤ cap ∧ Blk w1 g cur 41 ∧ Copied eB 4 S w1 cur bs) :
    ∃ A c, v1 = .slice A bs.length c ∧ RowB S w1 A bs := by
  rcases h with ⟨rfl, rfl⟩ | ⟨g, cap, cur, rfl, hg, hc, hk, hcp⟩
  · exact ⟨none, 0, rfl, Nat.zero_le _, fun i hi => absurd hi (Nat.not_lt_zero _)⟩
  · refine ⟨_, cap, rfl, hl, fun i hi => ?_⟩
    obtain ⟨cs, hcs, ⟨B, d, rfl, hd, hr⟩, hj⟩ := hcp i hi
    refine ⟨⟨g, 0, none⟩, B, d, rfl, ?_, ?_, ?_, ?_, hd, hr⟩
    · rw [add_plain, Nat.zero_add, hk.cell]; exact hj 0 (by omega)
    · rw [add_plain, Nat.zero_add, hk.cell]; exact hj 1 (by omega)
    · rw [add_plain, Nat.zero_add, hk.cell]; exact hj 2 (by omega)
    · rw [add_plain, Nat.zero_add, hk.cell]; exact hj 3 (by omega)

set_option maxRecDepth 100000 in
set_option maxHeartbeats 16000000 in
theorem MatchKeeps_row (w : World) (t : Tm) (A : Option Addr) (c : Nat) (hr : Reads (fun _ => False) w A t.a) (hc : t.a.length ≤ c) (g : okT t) (t2 : Tm) (A2 : Option Addr) (c2 : Nat) (hr2 : Reads (fun _ => False) w A2 t2.a) (hc2 : t2.a.length ≤ c2) (g2 : okT t2)
    (n : Int) (_ : -9223372036854775808 ≤ n ∧ n ≤ 9223372036854775807) (bs : List Bd) (Ab : Option Addr) (cb : Nat) (hbr : Row eB 4 (fun _ => False) w Ab bs) (hcb : bs.length ≤ cb) (gb : ∀ y ∈ bs, gT 1048576 y.t) (nb : bs.length ≤ 1048576)
    (params : List Bool) (P : Option Addr) (cp : Nat) (hP : RowBo w P params) (hcp : params.length ≤ cp) (_ : True) (np : params.length ≤ 1048576) (hcn : cnt t + cnt t2 ≤ 1048576) :
    Calls Try.prog 5 #[.agg #[.int .i64 t.k, .int .i64 t.h, .slice A t.a.length c], .agg #[.int .i64 t2.k, .int .i64 t2.h, .slice A2 t2.a.length c2], .int .i64 n, .slice Ab bs.length cb, .slice P params.length cp] w fun e w' => e = .returned (.bool true) ∧ Below w.heap.size w w' := by
  obtain ⟨W0, hW0⟩ : ∃ W0, ((w.alloc (.cells #[.int .i64 t.k, .int .i64 t.h, .slice A t.a.length c] 24)).alloc (.cells #[.int .i64 t2.k, .int .i64 t2.h, .slice A2 t2.a.length c2] 24)) = W0 := ⟨_, rfl⟩
  have hb0 : Below w.heap.size w W0 := by rw [← hW0]; exact bl_alloc (bl_alloc (Below.refl _ _) _) _
  have b1 : Blk W0 w.heap.size #[.int .i64 t.k, .int .i64 t.h, .slice A t.a.length c] 24 := by rw [← hW0]; exact (Blk.nw _ _ _ _ rfl).al _
  have b2 : Blk W0 (w.heap.size + 1) #[.int .i64 t2.k, .int .i64 t2.h, .slice A2 t2.a.length c2] 24 := by rw [← hW0]; exact Blk.nw _ _ _ _ (by simp)
  have HB0 := Lib.hid hb0
  have E0 : Hid (∀ W, Below W0.heap.size W0 W → W.cell? ⟨w.heap.size, 0, none⟩ = some (.int .i64 t.k) ∧ W.cell? ⟨w.heap.size, 1, none⟩ = some (.int .i64 t.h) ∧ W.cell? ⟨w.heap.size, 2, none⟩ = some (.slice A t.a.length c) ∧ W.cell? ⟨w.heap.size + 1, 0, none⟩ = some (.int .i64 t2.k) ∧ W.cell? ⟨w.heap.size + 1, 1, none⟩ = some (.int .i64 t2.h) ∧ W.cell? ⟨w.heap.size + 1, 2, none⟩ = some (.slice A2 t2.a.length c2)) :=
    Lib.hid (fun W hb => ⟨(b1.mov hb).cell 0, (b1.mov hb).cell 1, (b1.mov hb).cell 2, (b2.mov hb).cell 0, (b2.mov hb).cell 1, (b2.mov hb).cell 2⟩)
  have hr' := hr.mov hb0
  have hr2' := hr2.mov hb0
  have hb' := hbr.mov lasts_B (by decide) hb0
  have hP' := hP.mov hb0
  have hll := hbr.1
  have HLB := Lib.hid hll
  have HNB := Lib.hid nb
  unfold lim at hll
  have HROW := Lib.hid (fun (W : World) (hb : Below W0.heap.size W0 W) => hb'.mov lasts_B (by decide) hb)
  have HL1 := Lib.hid (fun (W : World) (hb : Below W0.heap.size W0 W) => Light_calls t A c 1000 60 W (hr'.mov hb) hc)
  have HL2 := Lib.hid (fun (W : World) (hb : Below W0.heap.size W0 W) => Light_calls t2 A2 c2 1000 60 W (hr2'.mov hb) hc2)
  have HFW := Lib.hid (fun (W : World) (hb : Below W0.heap.size W0 W) => Few7_calls bs Ab cb W (HROW.out W hb).toB)
  have HM0 := Lib.hid (fun (hq : mayB t = true → mayB t2 = true → QM t t2 n) (hbb : ∀ x ∈ bs, x.is = true → (mayB x.t = true → hB bindB x.t) ∧ cnt x.t ≤ 1048576) (W : World) (hb : Below W0.heap.size W0 W) => Match_calls params [] t t2 n bs A c A2 c2 Ab cb P cp none 0 W (hr'.mov hb) hc (hr2'.mov hb) hc2 (HROW.out W hb) hcb (hP'.mov hb) rowBo_nil nb np hq hbb)
  have HP : Hid (lightB t 1000 60 = true → lightB t2 1000 60 = true → few7B bs = true → (mayB t = true → mayB t2 = true → QM t t2 n) ∧ ∀ x ∈ bs, x.is = true → (mayB x.t = true → hB bindB x.t) ∧ cnt x.t ≤ 1048576) := Lib.hid fun l1 l2 lf => ⟨fun m1 m2 => qm_of l1 l2 g (by omega) (by omega) m1 m2, fun x hx _ => ⟨fun hm => (light_hB (by
    unfold few7B at lf
    rw [Bool.and_eq_true] at lf
    exact List.all_eq_true.1 lf.2 x hx) hm).mono (by decide), (gb x hx).2⟩⟩
  have HKP := Lib.hid (fun s' (q : MatchV params [] t t2 n bs = .ok s') => match_keeps q)
  obtain ⟨mv, hmv⟩ : ∃ m, MatchV params [] t t2 n bs = m := ⟨_, rfl⟩
  rw [hmv] at HM0 HKP
  obtain ⟨l1, hl1⟩ : ∃ b, lightB t 1000 60 = b := ⟨_, rfl⟩
  obtain ⟨l2, hl2⟩ : ∃ b, lightB t2 1000 60 = b := ⟨_, rfl⟩
  obtain ⟨lf, hlf⟩ : ∃ b, few7B bs = b := ⟨_, rfl⟩
  rw [hl1] at HL1
  rw [hl2] at HL2
  rw [hlf] at HFW
  rw [hl1, hl2, hlf] at HP
  clear hr hr2 hr' hr2' b1 b2 hb0 hl1 hl2 hlf g g2 hbr hb' hP hP' gb hmv
  obtain ⟨p0, p1, p2, q0, q1, q2⟩ := E0.out _ (Below.refl _ _)
  have hcond : (l1 = true ∧ l2 = true ∧ lf = true ∧ params.length ≤ 60) ∨ ¬ (l1 = true ∧ l2 = true ∧ lf = true ∧ params.length ≤ 60) := Classical.em _
  rcases hcond with ⟨rfl, rfl, rfl, hp60⟩ | hno
  · have hp60' : ¬ (60 : Int) < (params.length : Int) := by omega
    obtain ⟨hq, hbb⟩ := HP.out rfl rfl rfl
    have HM := Lib.hid (HM0.out hq hbb)
    clear HM0 HP hq hbb
    cases mv with
    | error x =>
      go_enter Try.func5, Try.ntmps5
      go_upto_region 1 with fail
      clear hW0
      go_wp2_with (first
        | (go_at_call 8; refine (awake7_calls _).mono ?_; clear p0 p1 p2 q0 q1 q2; rintro e w1 ⟨rfl, hb1⟩; have hw1 : Below (W0).heap.size W0 w1 := hb1; obtain ⟨p0, p1, p2, q0, q1, q2⟩ := E0.out _ hw1)
        | (go_at_call 9; refine (HL1.out _ hw1).mono ?_; clear HL1 p0 p1 p2 q0 q1 q2; rintro e w2 ⟨rfl, hb2⟩; have hw2 := bl_then hw1 hb2; obtain ⟨p0, p1, p2, q0, q1, q2⟩ := E0.out _ hw2)
        | (go_at_call 9; refine (HL2.out _ hw2).mono ?_; clear HL2 p0 p1 p2 q0 q1 q2; rintro e w3 ⟨rfl, hb3⟩; have hw3 := bl_then hw2 hb3; obtain ⟨p0, p1, p2, q0, q1, q2⟩ := E0.out _ hw3)
        | (go_at_call 14; refine (HFW.out _ hw3).mono ?_; clear HFW p0 p1 p2 q0 q1 q2; rintro e w4 ⟨rfl, hb4⟩; have hw4 := bl_then hw3 hb4; obtain ⟨p0, p1, p2, q0, q1, q2⟩ := E0.out _ hw4)
        | (at_builtin; go_must (refine wpList_append_row rfl (.tmp 47) lasts_B (fun h => one_B h) 30 rfl Try.underlying30 _ infoBd rfl (by decide) (by decide) (S := fun _ => False) (xs := bs) (c := cb) (A := Ab) rfl (HROW.out _ hw4) HNB.out ?_); intro v1 w5 hb5 hcp; obtain ⟨AC, cc, rfl, hrc⟩ := copied_row HLB.out hcp; have hw5 := bl_then hw4 hb5; clear hcp p0 p1 p2 q0 q1 q2; obtain ⟨p0, p1, p2, q0, q1, q2⟩ := E0.out _ hw5)
        | (go_at_call 12; refine (HM.out _ hw5).mono ?_; clear HM p0 p1 p2 q0 q1 q2; rintro e w6 ⟨hb6, (⟨x1, hn, hx0, rfl⟩ | ⟨bs1, g1, c1, hs1, _, _, _⟩)⟩; (rotate_left); (exact absurd hs1 (by simp)); (obtain rfl := Except.error.inj hn); have hw6 := bl_then hw5 hb6; obtain ⟨p0, p1, p2, q0, q1, q2⟩ := E0.out _ hw6)
        | (go_at_call 15; refine (SameBd_calls bs Ab cb AC cc w6 (HROW.out _ hw6).toB (hrc.mov hb6)).mono ?_; rintro e w7 ⟨rfl, hb7⟩; have hw7 := bl_then hw6 hb7; clear p0 p1 p2 q0 q1 q2))
      go_ret
      exact ⟨rfl, bl_then HB0.out hw7⟩
    | ok s =>
      obtain ⟨hsl, hkeep⟩ := HKP.out s rfl
      have HKE := Lib.hid hkeep
      have hslI : (bs.length : Int) = (s.length : Int) := by omega
      have HSL := Lib.hid hsl
      clear HKP hkeep hsl
      have HSI := Lib.hid hslI
      clear hslI
      go_enter Try.func5, Try.ntmps5
      go_upto_region 1 with fail
      clear hW0
      go_wp2_with (first
        | (go_at_call 8; refine (awake7_calls _).mono ?_; clear p0 p1 p2 q0 q1 q2; rintro e w1 ⟨rfl, hb1⟩; have hw1 : Below (W0).heap.size W0 w1 := hb1; obtain ⟨p0, p1, p2, q0, q1, q2⟩ := E0.out _ hw1)
        | (go_at_call 9; refine (HL1.out _ hw1).mono ?_; clear HL1 p0 p1 p2 q0 q1 q2; rintro e w2 ⟨rfl, hb2⟩; have hw2 := bl_then hw1 hb2; obtain ⟨p0, p1, p2, q0, q1, q2⟩ := E0.out _ hw2)
        | (go_at_call 9; refine (HL2.out _ hw2).mono ?_; clear HL2 p0 p1 p2 q0 q1 q2; rintro e w3 ⟨rfl, hb3⟩; have hw3 := bl_then hw2 hb3; obtain ⟨p0, p1, p2, q0, q1, q2⟩ := E0.out _ hw3)
        | (go_at_call 14; refine (HFW.out _ hw3).mono ?_; clear HFW p0 p1 p2 q0 q1 q2; rintro e w4 ⟨rfl, hb4⟩; have hw4 := bl_then hw3 hb4; obtain ⟨p0, p1, p2, q0, q1, q2⟩ := E0.out _ hw4)
        | (at_builtin; go_must (refine wpList_append_row rfl (.tmp 47) lasts_B (fun h => one_B h) 30 rfl Try.underlying30 _ infoBd rfl (by decide) (by decide) (S := fun _ => False) (xs := bs) (c := cb) (A := Ab) rfl (HROW.out _ hw4) HNB.out ?_); intro v1 w5 hb5 hcp; obtain ⟨AC, cc, rfl, hrc⟩ := copied_row HLB.out hcp; have hw5 := bl_then hw4 hb5; clear hcp p0 p1 p2 q0 q1 q2; obtain ⟨p0, p1, p2, q0, q1, q2⟩ := E0.out _ hw5)
        | (go_at_call 12; refine (HM.out _ hw5).mono ?_; clear HM p0 p1 p2 q0 q1 q2; rintro e w6 ⟨hb6, (⟨x1, hn, _⟩ | ⟨bs1, g1, c1, hs1, rfl, _, _, hrs⟩)⟩; (exact absurd hn (by simp)); (obtain rfl := Except.ok.inj hs1); have hw6 := bl_then hw5 hb6; obtain ⟨p0, p1, p2, q0, q1, q2⟩ := E0.out _ hw6)
        | (go_at_call 15; refine (SameBd_calls bs Ab cb AC cc w6 (HROW.out _ hw6).toB (hrc.mov hb6)).mono ?_; rintro e w7 ⟨rfl, hb7⟩; have hw7 := bl_then hw6 hb7; clear p0 p1 p2 q0 q1 q2))
      have HRS := Lib.hid (hrs.mov hb7)
      have HRB := Lib.hid (HROW.out _ hw7).toB
      clear hrs
      go_loopw [19] (fun j wr => ∃ i : Nat, j = .int .i64 i ∧ i ≤ bs.length ∧ Below w7.heap.size w7 wr) (fun j _ => bs.length - (intOf j).toNat)
      case atStart => exact ⟨0, rfl, Nat.zero_le _, Below.refl _ _⟩
      case round =>
        obtain ⟨i, rfl, hle, hbw⟩ := hrel
        by_cases hlt : i < bs.length
        · have hlt2 : i < s.length := by have := HSL.out; omega
          obtain ⟨ad, B, d, rfl, k0, k1, k2, k3, hd, hsub⟩ := (HRB.out.mov hbw).2 i hlt
          obtain ⟨ad2, B2, d2, had2, r0, r1, r2, r3, hd2, hsub2⟩ := (HRS.out.mov hbw).2 i hlt2
          obtain rfl := Option.some.inj had2
          simp only [add_plain, Nat.zero_add] at r0 r1 r2 r3
          have hi0 : (0 : Int) ≤ (i : Int) := by omega
          have hi1 : (i : Int) < (bs.length : Int) := by omega
          have hi2 : (i : Int) < (s.length : Int) := by omega
          have hi3 : ¬ (s.length ≤ i) := by omega
          obtain ⟨bi, hbi⟩ : ∃ b, bs[i].is = b := ⟨_, rfl⟩
          rw [hbi] at k0
          cases bi
          · go_wp2_with fail
            go_quiet (fail)
            go_wp2_with fail
            exact ⟨⟨i + 1, by go_num, hlt, bl_drewNb7 hbw _⟩, by simp [intOf]; omega⟩
          · have he := HKE.out i hlt hlt2 hbi
            rw [he, hbi] at r0
            rw [he] at r1 r2 r3 hd2 hsub2
            have HC := Lib.hid (fun (W : World) (hb : Below wr.heap.size wr W) => Same_calls bs[i].t bs[i].t B2 d2 B d W (hsub2.mov hb) hd2 (hsub.mov hb) hd)
            rw [sameB_refl] at HC
            clear hsub hsub2 he hbi
            go_wp2_with fail
            go_still_tail 28, (by kernel_rfl)
            go_wp2_with (go_at_call 13; refine (HC.out _ (Below.refl _ _).drew).mono ?_; clear HC; rintro e w8 ⟨rfl, hb8'⟩; have hb8 := bl_undrew hb8')
            exact ⟨⟨i + 1, by go_num, hlt, bl_then hbw hb8⟩, by simp [intOf]; omega⟩
        · have hse : ((s.length : Int) == (bs.length : Int)) = true := by have := HSL.out; simp [this]
          have hnl : ¬ ((i : Int) < (bs.length : Int)) := by omega
          go_wp2_with fail
          go_ret
          exact ⟨rfl, bl_then HB0.out (bl_then hw7 hbw)⟩
  · go_enter Try.func5, Try.ntmps5
    go_upto_region 1 with fail
    clear hW0
    go_upto_region 7 with (first
      | (go_at_call 8; refine (awake7_calls _).mono ?_; clear p0 p1 p2 q0 q1 q2; rintro e w1 ⟨rfl, hb1⟩; have hw1 : Below (W0).heap.size W0 w1 := hb1; obtain ⟨p0, p1, p2, q0, q1, q2⟩ := E0.out _ hw1)
      | (go_at_call 9; refine (HL1.out _ hw1).mono ?_; clear HL1 p0 p1 p2 q0 q1 q2; rintro e w2 ⟨rfl, hb2⟩; have hw2 := bl_then hw1 hb2; obtain ⟨p0, p1, p2, q0, q1, q2⟩ := E0.out _ hw2)
      | (go_at_call 9; refine (HL2.out _ hw2).mono ?_; clear HL2 p0 p1 p2 q0 q1 q2; rintro e w3 ⟨rfl, hb3⟩; have hw3 := bl_then hw2 hb3; obtain ⟨p0, p1, p2, q0, q1, q2⟩ := E0.out _ hw3)
      | (go_at_call 14; refine (HFW.out _ hw3).mono ?_; clear HFW p0 p1 p2 q0 q1 q2; rintro e w4 ⟨rfl, hb4⟩; have hw4 := bl_then hw3 hb4; obtain ⟨p0, p1, p2, q0, q1, q2⟩ := E0.out _ hw4))
    all_goals first
      | (go_ret; first | exact ⟨rfl, bl_then HB0.out hw4⟩ | exact ⟨rfl, bl_then HB0.out hw3⟩)
      | skip
    exfalso
    refine hno ⟨?_, ?_, ?_, ?_⟩
    all_goals first | assumption | omega
end Go.Proofs.Yteojhbhaocgjoaa
