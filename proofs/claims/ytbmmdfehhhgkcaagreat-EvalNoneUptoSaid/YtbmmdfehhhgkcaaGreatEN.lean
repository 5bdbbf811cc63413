/- The law EvalNone. -/
import Derived.Test.YtbmmdfehhhgkcaaGreatE7
namespace Go.Proofs.YtbmmdfehhhgkcaaGreat
open Go.RowKit Go.Shelf
set_option linter.unusedVariables false
set_option linter.unusedSimpArgs false

theorem evalV_0 (fs : List Fu) (no : Int) (theta : List Tm) (m : Tm) (s : Int) : evalV fs 0 no theta m s = (.error (if no < 0 ∨ (fs.length : Int) ≤ no then 2 else 12), s) := by
  rw [evalV]
  split <;> rfl
theorem evalV_out (fs : List Fu) (k : Nat) (theta : List Tm) (m : Tm) (s : Int) : evalV fs (k + 1) (fs.length : Int) theta m s = (.error 2, s) := by
  rw [evalV, if_pos (.inr (Int.le_refl _))]
theorem hB_light {m : Tm} (h : lightB m 300 60 = true) (hm : mayB m = true) : hB (1099511627776 + fillU) m := (light_hB h hm).mono (by decide)

set_option maxRecDepth 100000 in
set_option maxHeartbeats 8000000 in
theorem EvalNone_walk (w : World) (fs : List Fu) (A : Option Addr) (a : Nat) (hr : Row eF 13 (fun _ => False) w A fs) (_ : fs.length ≤ a) (gf : ∀ f ∈ fs, gF 1048576 f) (no : Int) (theta : List Tm) (T : Option Addr) (ct : Nat) (hT : Reads (fun _ => False) w T theta) (hct : theta.length ≤ ct)
    (m : Tm) (M : Option Addr) (cm : Nat) (hM : Reads (fun _ => False) w M m.a) (hcm : m.a.length ≤ cm) (gm : gT 1048576 m) (fuel : Int) (hf1 : -9223372036854775808 ≤ fuel) (hf2 : fuel ≤ 9223372036854775807) :
    Calls Tryz.prog 5 #[.slice A fs.length a, .int .i64 no, .slice T theta.length ct, .agg #[.int .i64 m.k, .int .i64 m.h, .slice M m.a.length cm], .int .i64 fuel] w fun e w' => e = .returned (.bool true) ∧ Below w.heap.size w w' := by
  have hb0 : Below w.heap.size w (w.alloc (.cells #[.int .i64 m.k, .int .i64 m.h, .slice M m.a.length cm] 25)) := bl_alloc (Below.refl _ _) _
  have e0 : Blk (w.alloc (.cells #[.int .i64 m.k, .int .i64 m.h, .slice M m.a.length cm] 25)) w.heap.size #[.int .i64 m.k, .int .i64 m.h, .slice M m.a.length cm] 25 := Blk.nw _ _ _ _ rfl
  obtain ⟨W0, hW0⟩ : ∃ W0, (w.alloc (.cells #[.int .i64 m.k, .int .i64 m.h, .slice M m.a.length cm] 25)) = W0 := ⟨_, rfl⟩
  rw [hW0] at hb0 e0
  have HB0 := Lib.hid hb0
  have E0 := Lib.hid e0
  have HF := Lib.hid (fun (W : World) (hb : Below W0.heap.size W0 W) => LightFuns_calls fs A a W (hr.mov lasts_F (by decide) (bl_then hb0 hb)))
  have HS := Lib.hid (fun (W : World) (hb : Below W0.heap.size W0 W) => Lights_calls theta T ct 300 60 W (hT.mov (bl_then hb0 hb)))
  have HL := Lib.hid (fun (W : World) (hb : Below W0.heap.size W0 W) => Light_calls m M cm 300 60 W (hM.mov (bl_then hb0 hb)) hcm)
  have HEV : Hid (funsB fs = true → lightB m 300 60 = true → ∀ (no fuel : Int) (rv : Except Int Tm × Int), -9223372036854775808 ≤ fuel → fuel ≤ 9223372036854775807 → evalV fs fuel.toNat no theta m 0 = rv → ∀ W, Below W0.heap.size W0 W →
      Calls Tryz.prog 15 #[.slice A fs.length a, .int .i64 no, .slice T theta.length ct, .agg #[.int .i64 m.k, .int .i64 m.h, .slice M m.a.length cm], .int .i64 fuel] W (RetQ (fun _ => False) rv.1 W)) := Lib.hid (fun q1 q2 no fuel rv h1 h2 hrv W hb => by
    obtain ⟨k1, k2⟩ := fus_ok gf q1
    rw [← hrv]
    exact Eval_calls fs k1 (by omega) (fun _ => False) A a no fuel theta m T ct M cm 1099511627776 W h2 h1 (fun _ q => q.elim) room_0 (hr.mov lasts_F (by decide) (bl_then hb0 hb)) hct (hT.mov (bl_then hb0 hb)) hcm (hM.mov (bl_then hb0 hb)) (hB_light q2) gm.2)
  have HLN : Hid (fs.length ≤ 20 ∨ funsB fs = false) := Lib.hid (by
    cases h : funsB fs
    · exact .inr rfl
    · exact .inl (fus_ok gf h).2)
  generalize funsB fs = fb at *
  generalize lightsB theta 300 60 = sb at *
  generalize lightB m 300 60 = lb at *
  clear hb0 e0 hr gf hT hct hM hcm gm
  by_cases hall : fb = true ∧ sb = true ∧ lb = true ∧ ¬ 0 < fuel
  · obtain ⟨rfl, rfl, rfl, hfu⟩ := hall
    have hln : fs.length ≤ 20 := by rcases HLN.out with h | h; exact h; cases h
    have h0 : fuel.toNat = 0 := by omega
    obtain ⟨x, hx⟩ : ∃ x : Int, (if no < 0 ∨ (fs.length : Int) ≤ no then (2 : Int) else 12) = x := ⟨_, rfl⟩
    have hEa := HEV.out rfl rfl no fuel (.error x, 0) hf1 hf2 (by rw [h0, evalV_0, hx])
    have hEb := HEV.out rfl rfl (fs.length : Int) 1 (.error 2, 0) (by decide) (by decide) (evalV_out fs 0 theta m 0)
    have HE1 := Lib.hid hEa
    have HE2 := Lib.hid hEb
    have HX := Lib.hid hx
    clear HEV HLN hEa hEb h0 hx hf1 hf2 hln
    go_enter Tryz.func5, Tryz.ntmps5
    go_upto_region 1 with fail
    clear hW0
    go_upto_region 9 with (first
      | (go_at_call 10; refine (awake21_calls _).mono ?_; rintro e w1 ⟨rfl, hw1⟩)
      | (go_at_call 11; refine (HF.out _ hw1).mono ?_; clear HF; rintro e w2 ⟨rfl, hb2⟩; have hw2 := bl_then hw1 hb2)
      | (go_at_call 12; refine (HS.out _ hw2).mono ?_; clear HS; rintro e w3 ⟨rfl, hb3⟩; have hw3 := bl_then hw2 hb3; have q := E0.out.mov hw3; have m0 := q.cell 0; have m1 := q.cell 1; have m2 := q.cell 2; clear q)
      | (go_at_call 13; refine (HL.out _ hw3).mono ?_; clear HL m0 m1 m2; rintro e w4 ⟨rfl, hb4⟩; have hw4 := bl_then hw3 hb4; have q := E0.out.mov hw4; have n0 := q.cell 0; have n1 := q.cell 1; have n2 := q.cell 2; clear q)
      | (go_at_call 15; refine (HE1.out _ hw4).mono ?_; clear HE1 n0 n1 n2; rintro e w5 ⟨hb5, hq⟩; rcases hq with ⟨y, hy, hy0, rfl⟩ | ⟨us, _, _, hy, _⟩; rotate_left; (cases hy); obtain rfl := Except.error.inj hy; have hw5 := bl_then hw4 hb5; have q := (E0.out.mov hw5).al (.cells #[.int .i64 0, .int .i64 0, .slice none 0 0] 25); have o0 := q.cell 0; have o1 := q.cell 1; have o2 := q.cell 2; have lq := q.lt; clear q hy hy0; dsimp only [zeroTm])
      | (go_at_call 15; refine (HE2.out _ (bl_alloc hw5 _)).mono ?_; clear HE2 o0 o1 o2; rintro e w6 ⟨hb6, hq⟩; rcases hq with ⟨y, hy, hy0, rfl⟩ | ⟨us, _, _, hy, _⟩; rotate_left; (cases hy); obtain rfl := Except.error.inj hy; have b15 := (Blk.nw w5 #[.int .i64 0, .int .i64 0, .slice none 0 0] 25 w5.heap.size rfl).mov hb6; have r2 := b15.cell 2; have l15 := b15.lt; have hw6 := bl_then HB0.out (bl_then (bl_alloc hw5 (.cells #[.int .i64 0, .int .i64 0, .slice none 0 0] 25)) hb6); have HW6 := Lib.hid hw6; clear hy hy0 b15 hw6; dsimp only [zeroTm]))
    have hx := HX.out
    clear HX hw5 hb5 hb6 hw4 hb4 hw3 hb3 hw2 hb2 hw1
    by_cases hn0 : no < 0
    · rw [if_pos (.inl hn0)] at hx
      subst hx
      have d0 : decide (0 ≤ no) = false := by simp; omega
      have d0' : ¬ 0 ≤ no := by omega
      go_wp2_with fail
      go_ret
      exact ⟨by simp, bl_alloc HW6.out _⟩
    · have d0 : decide (0 ≤ no) = true := by simp; omega
      have d0' : 0 ≤ no := by omega
      by_cases hn1 : (fs.length : Int) ≤ no
      · rw [if_pos (.inr hn1)] at hx
        subst hx
        have d1 : decide (no < (fs.length : Int)) = false := by simp; omega
        have d1' : ¬ no < (fs.length : Int) := by omega
        go_wp2_with fail
        go_ret
        exact ⟨by simp, bl_alloc HW6.out _⟩
      · rw [if_neg (fun h => h.elim hn0 hn1)] at hx
        subst hx
        have d1 : decide (no < (fs.length : Int)) = true := by simp; omega
        have d1' : no < (fs.length : Int) := by omega
        go_wp2_with fail
        go_ret
        exact ⟨by simp, bl_alloc HW6.out _⟩
  · clear HEV HLN hf1 hf2
    by_cases hfu : 0 < fuel
    · clear hall
      have d0 : decide (0 < fuel) = true := by simp; omega
      cases fb <;> cases sb <;> cases lb <;>
      (go_enter Tryz.func5, Tryz.ntmps5
       go_upto_region 1 with fail
       clear hW0
       go_wp2_with (first
      | (go_at_call 10; refine (awake21_calls _).mono ?_; rintro e w1 ⟨rfl, hw1⟩)
      | (go_at_call 11; refine (HF.out _ hw1).mono ?_; clear HF; rintro e w2 ⟨rfl, hb2⟩; have hw2 := bl_then hw1 hb2)
      | (go_at_call 12; refine (HS.out _ hw2).mono ?_; clear HS; rintro e w3 ⟨rfl, hb3⟩; have hw3 := bl_then hw2 hb3; have q := E0.out.mov hw3; have m0 := q.cell 0; have m1 := q.cell 1; have m2 := q.cell 2; clear q)
      | (go_at_call 13; refine (HL.out _ hw3).mono ?_; clear HL m0 m1 m2; rintro e w4 ⟨rfl, hb4⟩; have hw4 := bl_then HB0.out (bl_then hw3 hb4)))
       go_ret
       exact ⟨rfl, hw4⟩)
    · have d0 : decide (0 < fuel) = false := by simp; omega
      cases fb <;> cases sb <;> cases lb <;>
      first
      | (exact absurd ⟨rfl, rfl, rfl, hfu⟩ hall)
      | (clear hall
         go_enter Tryz.func5, Tryz.ntmps5
         go_upto_region 1 with fail
         clear hW0
         go_wp2_with (first
      | (go_at_call 10; refine (awake21_calls _).mono ?_; rintro e w1 ⟨rfl, hw1⟩)
      | (go_at_call 11; refine (HF.out _ hw1).mono ?_; clear HF; rintro e w2 ⟨rfl, hb2⟩; have hw2 := bl_then hw1 hb2)
      | (go_at_call 12; refine (HS.out _ hw2).mono ?_; clear HS; rintro e w3 ⟨rfl, hb3⟩; have hw3 := bl_then hw2 hb3; have q := E0.out.mov hw3; have m0 := q.cell 0; have m1 := q.cell 1; have m2 := q.cell 2; clear q)
      | (go_at_call 13; refine (HL.out _ hw3).mono ?_; clear HL m0 m1 m2; rintro e w4 ⟨rfl, hb4⟩; have hw4 := bl_then HB0.out (bl_then hw3 hb4)))
         go_ret
         exact ⟨rfl, hw4⟩)
theorem EvalNone_row (w : World) (fs : List Fu) (A : Option Addr) (a : Nat) (hr : Row eF 13 (fun _ => False) w A fs) (ha : fs.length ≤ a) (gf : ∀ f ∈ fs, gF 1048576 f) (no : Int) (_ : -9223372036854775808 ≤ no ∧ no ≤ 9223372036854775807) (theta : List Tm) (T : Option Addr) (ct : Nat) (hT : Reads (fun _ => False) w T theta) (hct : theta.length ≤ ct) (_ : okL theta)
    (m : Tm) (M : Option Addr) (cm : Nat) (hM : Reads (fun _ => False) w M m.a) (hcm : m.a.length ≤ cm) (gm : okT m) (fuel : Int) (hf : -9223372036854775808 ≤ fuel ∧ fuel ≤ 9223372036854775807) (hb : cnt m ≤ 1048576) :
    Calls Tryz.prog 5 #[.slice A fs.length a, .int .i64 no, .slice T theta.length ct, .agg #[.int .i64 m.k, .int .i64 m.h, .slice M m.a.length cm], .int .i64 fuel] w fun e w' => e = .returned (.bool true) ∧ Below w.heap.size w w' :=
  EvalNone_walk w fs A a hr ha gf no theta T ct hT hct m M cm hM hcm ⟨gm, hb⟩ fuel hf.1 hf.2
end Go.Proofs.YtbmmdfehhhgkcaaGreat
