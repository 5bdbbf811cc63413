/- The law EvalFuel; the contract of Calls. -/
import Derived.Test.YtbmmdfehhhgkcaaGreatE7
namespace Go.Proofs.YtbmmdfehhhgkcaaGreat
open Go.RowKit Go.Shelf
set_option linter.unusedVariables false
set_option linter.unusedSimpArgs false

def UpTo (ev ev' : Int → List Tm → Tm → Int → Except Int Tm × Int) : Prop := ∀ no theta m s, (ev no theta m s).1 ≠ .error 12 → ev' no theta m s = ev no theta m s
theorem callV_up {fs : List Fu} {ev ev' : Int → List Tm → Tm → Int → Except Int Tm × Int} (h : UpTo ev ev') {x : Cl} {rho : List Tm} {s : Int} (q : (callV fs ev x rho s).1 ≠ .error 12) : callV fs ev' x rho s = callV fs ev x rho s := by
  unfold callV at q ⊢
  split
  · rfl
  · rename_i h0
    rw [if_neg h0] at q
    split
    · rfl
    · rename_i g hg
      rw [hg] at q
      dsimp only at q
      split
      · rfl
      · rename_i th hth
        rw [hth] at q
        dsimp only at q
        split
        · rfl
        · rename_i ar har
          rw [har] at q
          exact h _ _ _ _ q
theorem callsV_up {fs : List Fu} {ev ev' : Int → List Tm → Tm → Int → Except Int Tm × Int} (h : UpTo ev ev') : ∀ {l : List Cl} {rho : List Tm} {s : Int}, (callsV fs ev l rho s).1 ≠ .error 12 → callsV fs ev' l rho s = callsV fs ev l rho s
  | [], rho, s, _ => by rw [callsV, callsV]
  | x :: l, rho, s, q => by
    rw [callsV] at q ⊢
    have hc : (callV fs ev x rho s).1 ≠ .error 12 := fun e => by
      generalize callV fs ev x rho s = z at e q
      obtain ⟨r, s'⟩ := z
      dsimp only at e
      subst e
      exact q rfl
    rw [callV_up h hc]
    rw [callsV]
    generalize callV fs ev x rho s = z at q ⊢
    obtain ⟨r, s'⟩ := z
    cases r with
    | error e => rfl
    | ok t => exact callsV_up h q
theorem evalV_up (fs : List Fu) : ∀ k j, k ≤ j → UpTo (evalV fs k) (evalV fs j)
  | 0, j, hkj, no, theta, m, s, q => by
    rw [evalV] at q ⊢
    split
    · rename_i h0
      cases j <;> rw [evalV, if_pos h0]
    · rename_i h0
      rw [if_neg h0] at q
      exact absurd rfl q
  | k + 1, 0, hkj, no, theta, m, s, q => by omega
  | k + 1, j + 1, hkj, no, theta, m, s, q => by
    have ih := evalV_up fs k j (by omega)
    rw [evalV] at q ⊢
    rw [evalV]
    split
    · rfl
    · rename_i h0
      rw [if_neg h0] at q
      split
      · rfl
      · rename_i h1
        rw [if_neg h1] at q
        split
        · rfl
        · rename_i f hf
          rw [hf] at q
          dsimp only at q
          split
          · rfl
          · rename_i c rho hfd
            rw [hfd] at q
            dsimp only at q
            have hc : (callsV fs (evalV fs k) c.cs rho (s + 1)).1 ≠ .error 12 := fun e => by
              generalize callsV fs (evalV fs k) c.cs rho (s + 1) = z at e q
              obtain ⟨r, s'⟩ := z
              dsimp only at e
              subst e
              exact q rfl
            rw [callsV_up ih hc]

mutual
theorem sameB_self : ∀ t : Tm, sameB t t = true
  | ⟨k, h, a⟩ => by rw [sameB, sameL_self a]; simp
theorem sameL_self : ∀ l : List Tm, sameL l l = true
  | [] => by rw [sameL]
  | t :: l => by rw [sameL, sameB_self t, sameL_self l]; rfl
end
theorem hB_lt {m : Tm} (h : lightB m 300 60 = true) (hm : mayB m = true) : hB (1099511627776 + fillU) m := (light_hB h hm).mono (by decide)
def c2B (c : Cs) : Bool := decide (c.cs.length ≤ 2)
def f2B (f : Fu) : Bool := f.cl.all c2B
def fs2B (l : List Fu) : Bool := l.all f2B

set_option maxHeartbeats 8000000 in
theorem Calls21_calls (l : List Fu) (A : Option Addr) (c : Nat) (w : World) (hr : Row eF 13 (fun _ => False) w A l) :
    Calls Tryz.prog 14 #[.slice A l.length c] w fun e w' => e = .returned (.bool (fs2B l)) ∧ Below w.heap.size w w' := by
  have hlen := hr.1
  unfold lim at hlen
  go_enter Tryz.func14, Tryz.ntmps14
  go_wp2_with fail
  go_loopw [3, 4] (fun j _ wr => ∃ i : Nat, j = .int .i64 i ∧ AllRel f2B l w i wr) (fun j _ _ => l.length - (intOf j).toNat)
  case atStart => exact ⟨0, rfl, .zero _ _ (Below.refl _ _)⟩
  case round =>
    obtain ⟨i, rfl, hrel⟩ := hrel
    by_cases hlt : i < l.length
    · obtain ⟨ad, cs, rfl, hS, hcl, k0, kj, hE⟩ := (hr.mov lasts_F (by decide) hrel.below).at hlt
      obtain ⟨A1, a1, B1, b1, C1, c1, D1, d1, E1, e1, F1, f1, G1, g1, rfl, -, -, -, -, -, -, hg, hrg⟩ := hE
      have hlg := hrg.1
      unfold lim at hlg
      have q12 := kj 12 _ rfl
      clear k0 kj hcl hS
      go_wp2_with fail
      go_loopw [4] (fun j wq => ∃ k : Nat, j = .int .i64 k ∧ AllRel c2B l[i].cl wr k wq) (fun j _ => l[i].cl.length - (intOf j).toNat)
      case atStart => exact ⟨0, rfl, .zero _ _ (Below.refl _ _)⟩
      case round =>
        obtain ⟨k, rfl, hin⟩ := hrel
        have q12' := cell_mov q12 hin.below
        by_cases hk : k < l[i].cl.length
        · obtain ⟨ad2, cs2, rfl, hS2, hcl2, k02, kj2, hE2⟩ := (hrg.mov lasts_K (by decide) hin.below).at hk
          obtain ⟨A2, a2, B2, b2, C2, c2, D2, d2, E2, e2, rfl, -, -, -, ⟨hd, hrd⟩, -⟩ := hE2
          have hld := hrd.1
          unfold lim at hld
          have q5 := kj2 5 _ rfl
          clear k02 kj2 hcl2 hS2
          by_cases h2 : l[i].cl[k].cs.length ≤ 2
          · have hp : c2B l[i].cl[k] = true := decide_eq_true h2
            have HP := Lib.hid hp
            clear hp
            go_wp2_with fail
            exact ⟨⟨k + 1, by go_num, hin.next hk HP.out (Below.refl _ _)⟩, by simp [intOf]; omega⟩
          · have hp : c2B l[i].cl[k] = false := decide_eq_false h2
            have HP := Lib.hid (hrel.no hlt (show f2B l[i] = false from hin.no hk hp))
            clear hp
            go_wp2_with fail
            go_ret
            exact ⟨ret_bool HP.out.symm, bl_then hrel.below hin.below⟩
        · have hp : f2B l[i] = true := hin.yes hk
          have HP := Lib.hid hp
          clear hp
          go_wp2_with fail
          exact ⟨⟨i + 1, by go_num, hrel.next hlt HP.out hin.below⟩, by simp [intOf]; omega⟩
    · have hy := hrel.yes hlt
      rw [Nat.not_lt] at hlt
      go_wp2_with fail
      go_ret
      exact ⟨ret_bool hy.symm, hrel.below⟩

set_option maxRecDepth 100000 in
set_option maxHeartbeats 16000000 in
theorem EvalFuel_walk (w : World) (fs : List Fu) (A : Option Addr) (a : Nat) (hr : Row eF 13 (fun _ => False) w A fs) (_ : fs.length ≤ a) (gf : ∀ f ∈ fs, gF 1048576 f) (no : Int) (theta : List Tm) (T : Option Addr) (ct : Nat) (hT : Reads (fun _ => False) w T theta) (hct : theta.length ≤ ct)
    (m : Tm) (M : Option Addr) (cm : Nat) (hM : Reads (fun _ => False) w M m.a) (hcm : m.a.length ≤ cm) (gm : gT 1048576 m) (fuel : Int) (hf1 : -9223372036854775808 ≤ fuel) (hf2 : fuel ≤ 9223372036854775807) (more : Int) (hm1 : -9223372036854775808 ≤ more) (hm2 : more ≤ 9223372036854775807) :
    Calls Tryz.prog 4 #[.slice A fs.length a, .int .i64 no, .slice T theta.length ct, .agg #[.int .i64 m.k, .int .i64 m.h, .slice M m.a.length cm], .int .i64 fuel, .int .i64 more] w fun e w' => e = .returned (.bool true) ∧ Below w.heap.size w w' := by
  have hb0 : Below w.heap.size w (w.alloc (.cells #[.int .i64 m.k, .int .i64 m.h, .slice M m.a.length cm] 25)) := bl_alloc (Below.refl _ _) _
  have e0 : Blk (w.alloc (.cells #[.int .i64 m.k, .int .i64 m.h, .slice M m.a.length cm] 25)) w.heap.size #[.int .i64 m.k, .int .i64 m.h, .slice M m.a.length cm] 25 := Blk.nw _ _ _ _ rfl
  obtain ⟨W0, hW0⟩ : ∃ W0, (w.alloc (.cells #[.int .i64 m.k, .int .i64 m.h, .slice M m.a.length cm] 25)) = W0 := ⟨_, rfl⟩
  rw [hW0] at hb0 e0
  have HB0 := Lib.hid hb0
  have E0 := Lib.hid e0
  have HF := Lib.hid (fun (W : World) (hb : Below W0.heap.size W0 W) => LightFuns_calls fs A a W (hr.mov lasts_F (by decide) (bl_then hb0 hb)))
  have HC2 := Lib.hid (fun (W : World) (hb : Below W0.heap.size W0 W) => Calls21_calls fs A a W (hr.mov lasts_F (by decide) (bl_then hb0 hb)))
  have HS := Lib.hid (fun (W : World) (hb : Below W0.heap.size W0 W) => Lights_calls theta T ct 300 60 W (hT.mov (bl_then hb0 hb)))
  have HL := Lib.hid (fun (W : World) (hb : Below W0.heap.size W0 W) => Light_calls m M cm 300 60 W (hM.mov (bl_then hb0 hb)) hcm)
  have HEV : Hid (funsB fs = true → lightB m 300 60 = true → ∀ (fuel : Int), -9223372036854775808 ≤ fuel → fuel ≤ 9223372036854775807 → ∀ W, Below W0.heap.size W0 W →
      Calls Tryz.prog 15 #[.slice A fs.length a, .int .i64 no, .slice T theta.length ct, .agg #[.int .i64 m.k, .int .i64 m.h, .slice M m.a.length cm], .int .i64 fuel] W (RetQ (fun _ => False) (evalV fs fuel.toNat no theta m 0).1 W)) := Lib.hid (fun q1 q2 fuel h1 h2 W hb => by
    obtain ⟨k1, k2⟩ := fus_ok gf q1
    exact Eval_calls fs k1 (by omega) (fun _ => False) A a no fuel theta m T ct M cm 1099511627776 W h2 h1 (fun _ q => q.elim) room_0 (hr.mov lasts_F (by decide) (bl_then hb0 hb)) hct (hT.mov (bl_then hb0 hb)) hcm (hM.mov (bl_then hb0 hb)) (hB_lt q2) gm.2)
  have HUP := Lib.hid (fun (h : fuel ≤ more) => evalV_up fs fuel.toNat more.toNat (by omega) no theta m 0)
  generalize funsB fs = fb at *
  generalize lightsB theta 300 60 = sb at *
  generalize lightB m 300 60 = lb at *
  generalize fs2B fs = cb at *
  generalize hR1 : (evalV fs fuel.toNat no theta m 0) = R1 at *
  generalize hR2 : (evalV fs more.toNat no theta m 0) = R2 at *
  clear hb0 e0 hr gf hT hct hM hcm gm
  by_cases hfu : ¬ more < fuel ∧ ¬ 9 < more
  · obtain ⟨hfa, hfb⟩ := hfu
    by_cases hall : fb = true ∧ sb = true ∧ lb = true ∧ cb = true
    · obtain ⟨rfl, rfl, rfl, rfl⟩ := hall
      have H1 := HEV.out rfl rfl fuel hf1 hf2
      have H2 := HEV.out rfl rfl more hm1 hm2
      rw [hR1] at H1
      rw [hR2] at H2
      have hup := HUP.out (by omega)
      clear HEV HUP hR1 hR2 hf1 hf2 hm1 hm2
      have hcase : (∃ s1, R1 = (.error 12, s1) ∧ ∃ y s2, R2 = (.error y, s2)) ∨ (∃ s1, R1 = (.error 12, s1) ∧ ∃ y s2, R2 = (.ok y, s2)) ∨ (∃ x s1, x ≠ 12 ∧ R1 = (.error x, s1) ∧ R2 = (.error x, s1)) ∨ (∃ t s1, R1 = (.ok t, s1) ∧ R2 = (.ok t, s1)) := by
        obtain ⟨r1, s1⟩ := R1
        obtain ⟨r2, s2⟩ := R2
        cases r1 with
        | ok t =>
          obtain h := hup (by simp)
          exact .inr (.inr (.inr ⟨t, s1, rfl, h⟩))
        | error x =>
          by_cases hx : x = 12
          · subst hx
            cases r2 with
            | error y => exact .inl ⟨s1, rfl, y, s2, rfl⟩
            | ok y => exact .inr (.inl ⟨s1, rfl, y, s2, rfl⟩)
          · have h := hup (by simpa using hx)
            exact .inr (.inr (.inl ⟨x, s1, hx, rfl, h⟩))
      clear hup
      rcases hcase with ⟨s1, rfl, y2, s2, rfl⟩ | ⟨s1, rfl, y2, s2, rfl⟩ | ⟨x, s1, hx, rfl, rfl⟩ | ⟨t, s1, rfl, rfl⟩
      · dsimp only at H1 H2
        have HE1 := Lib.hid H1
        have HE2 := Lib.hid H2
        clear H1 H2
        go_enter Tryz.func4, Tryz.ntmps4
        go_upto_region 1 with fail
        clear hW0
        go_wp2_with (first
              | (go_at_call 10; refine (awake21_calls _).mono ?_; rintro e w1 ⟨rfl, hw1⟩)
              | (go_at_call 11; refine (HF.out _ hw1).mono ?_; clear HF; rintro e w2 ⟨rfl, hb2⟩; have hw2 := bl_then hw1 hb2)
              | (go_at_call 12; refine (HS.out _ hw2).mono ?_; clear HS; rintro e w3 ⟨rfl, hb3⟩; have hw3 := bl_then hw2 hb3; have q := E0.out.mov hw3; have m0 := q.cell 0; have m1 := q.cell 1; have m2 := q.cell 2; clear q)
              | (go_at_call 13; refine (HL.out _ hw3).mono ?_; clear HL m0 m1 m2; rintro e w4 ⟨rfl, hb4⟩; have hw4 := bl_then hw3 hb4)
              | (go_at_call 14; refine (HC2.out _ hw4).mono ?_; clear HC2; rintro e w5 ⟨rfl, hb5⟩; have hw5 := bl_then hw4 hb5; have hv5 := bl_then HB0.out hw5; have q := E0.out.mov hw5; have m0 := q.cell 0; have m1 := q.cell 1; have m2 := q.cell 2; clear q)
              | (go_at_call 15; refine (HE1.out _ hw5).mono ?_; clear HE1 m0 m1 m2; rintro e w6 ⟨hb6, hq⟩; (rcases hq with ⟨y, hy, hy0, rfl⟩ | ⟨us, _, _, hy, _⟩; rotate_left; (cases hy); obtain rfl := Except.error.inj hy; clear hy hy0; dsimp only [zeroTm]); have hw6 := bl_then hw5 hb6; have q := (E0.out.mov hw6).al (.cells #[.int .i64 0, .int .i64 0, .slice none 0 0] 25); have o0 := q.cell 0; have o1 := q.cell 1; have o2 := q.cell 2; have hw7 := bl_alloc hw6 (.cells #[.int .i64 0, .int .i64 0, .slice none 0 0] 25); have X1 := Lib.hid (Blk.nw w6 #[.int .i64 0, .int .i64 0, .slice none 0 0] 25 w6.heap.size rfl); clear q)
              | (go_at_call 15; refine (HE2.out _ hw7).mono ?_; clear HE2 o0 o1 o2; rintro e w8 ⟨hb8, hq⟩; (rcases hq with ⟨y, hy, hy0, rfl⟩ | ⟨us, _, _, hy, _⟩; rotate_left; (cases hy); obtain rfl := Except.error.inj hy; clear hy hy0; dsimp only [zeroTm]); have q := (X1.out.mov hb8).al (.cells #[.int .i64 0, .int .i64 0, .slice none 0 0] 25); have r0 := q.cell 0; have r1 := q.cell 1; have r2 := q.cell 2; have b8 := Blk.nw w8 #[.int .i64 0, .int .i64 0, .slice none 0 0] 25 w8.heap.size rfl; have s0 := b8.cell 0; have s1 := b8.cell 1; have s2 := b8.cell 2; have hw8 := bl_alloc (bl_then hw7 hb8) (.cells #[.int .i64 0, .int .i64 0, .slice none 0 0] 25); have hv8 := bl_then HB0.out hw8; clear b8 q hw7))
        go_ret
        exact ⟨rfl, hv8⟩
      · dsimp only at H1 H2
        have HE1 := Lib.hid H1
        have HE2 := Lib.hid H2
        clear H1 H2
        go_enter Tryz.func4, Tryz.ntmps4
        go_upto_region 1 with fail
        clear hW0
        go_wp2_with (first
              | (go_at_call 10; refine (awake21_calls _).mono ?_; rintro e w1 ⟨rfl, hw1⟩)
              | (go_at_call 11; refine (HF.out _ hw1).mono ?_; clear HF; rintro e w2 ⟨rfl, hb2⟩; have hw2 := bl_then hw1 hb2)
              | (go_at_call 12; refine (HS.out _ hw2).mono ?_; clear HS; rintro e w3 ⟨rfl, hb3⟩; have hw3 := bl_then hw2 hb3; have q := E0.out.mov hw3; have m0 := q.cell 0; have m1 := q.cell 1; have m2 := q.cell 2; clear q)
              | (go_at_call 13; refine (HL.out _ hw3).mono ?_; clear HL m0 m1 m2; rintro e w4 ⟨rfl, hb4⟩; have hw4 := bl_then hw3 hb4)
              | (go_at_call 14; refine (HC2.out _ hw4).mono ?_; clear HC2; rintro e w5 ⟨rfl, hb5⟩; have hw5 := bl_then hw4 hb5; have hv5 := bl_then HB0.out hw5; have q := E0.out.mov hw5; have m0 := q.cell 0; have m1 := q.cell 1; have m2 := q.cell 2; clear q)
              | (go_at_call 15; refine (HE1.out _ hw5).mono ?_; clear HE1 m0 m1 m2; rintro e w6 ⟨hb6, hq⟩; (rcases hq with ⟨y, hy, hy0, rfl⟩ | ⟨us, _, _, hy, _⟩; rotate_left; (cases hy); obtain rfl := Except.error.inj hy; clear hy hy0; dsimp only [zeroTm]); have hw6 := bl_then hw5 hb6; have q := (E0.out.mov hw6).al (.cells #[.int .i64 0, .int .i64 0, .slice none 0 0] 25); have o0 := q.cell 0; have o1 := q.cell 1; have o2 := q.cell 2; have hw7 := bl_alloc hw6 (.cells #[.int .i64 0, .int .i64 0, .slice none 0 0] 25); have X1 := Lib.hid (Blk.nw w6 #[.int .i64 0, .int .i64 0, .slice none 0 0] 25 w6.heap.size rfl); clear q)
              | (go_at_call 15; refine (HE2.out _ hw7).mono ?_; clear HE2 o0 o1 o2; rintro e w8 ⟨hb8, hq⟩; (rcases hq with ⟨y, hy, _⟩ | ⟨us, B2, c2, hy, rfl, hc2, hr2⟩; (cases hy); obtain rfl := Except.ok.inj hy; clear hy); have q := (X1.out.mov hb8).al (.cells #[.int .i64 y2.k, .int .i64 y2.h, .slice B2 y2.a.length c2] 25); have r0 := q.cell 0; have r1 := q.cell 1; have r2 := q.cell 2; have b8 := Blk.nw w8 #[.int .i64 y2.k, .int .i64 y2.h, .slice B2 y2.a.length c2] 25 w8.heap.size rfl; have s0 := b8.cell 0; have s1 := b8.cell 1; have s2 := b8.cell 2; have hw8 := bl_alloc (bl_then hw7 hb8) (.cells #[.int .i64 y2.k, .int .i64 y2.h, .slice B2 y2.a.length c2] 25); have hv8 := bl_then HB0.out hw8; clear b8 q hw7))
        go_ret
        exact ⟨rfl, hv8⟩
      · have d0 : (x == 12) = false := by simpa using hx
        dsimp only at H1 H2
        have HE1 := Lib.hid H1
        have HE2 := Lib.hid H2
        clear H1 H2
        go_enter Tryz.func4, Tryz.ntmps4
        go_upto_region 1 with fail
        clear hW0
        go_wp2_with (first
              | (go_at_call 10; refine (awake21_calls _).mono ?_; rintro e w1 ⟨rfl, hw1⟩)
              | (go_at_call 11; refine (HF.out _ hw1).mono ?_; clear HF; rintro e w2 ⟨rfl, hb2⟩; have hw2 := bl_then hw1 hb2)
              | (go_at_call 12; refine (HS.out _ hw2).mono ?_; clear HS; rintro e w3 ⟨rfl, hb3⟩; have hw3 := bl_then hw2 hb3; have q := E0.out.mov hw3; have m0 := q.cell 0; have m1 := q.cell 1; have m2 := q.cell 2; clear q)
              | (go_at_call 13; refine (HL.out _ hw3).mono ?_; clear HL m0 m1 m2; rintro e w4 ⟨rfl, hb4⟩; have hw4 := bl_then hw3 hb4)
              | (go_at_call 14; refine (HC2.out _ hw4).mono ?_; clear HC2; rintro e w5 ⟨rfl, hb5⟩; have hw5 := bl_then hw4 hb5; have hv5 := bl_then HB0.out hw5; have q := E0.out.mov hw5; have m0 := q.cell 0; have m1 := q.cell 1; have m2 := q.cell 2; clear q)
              | (go_at_call 15; refine (HE1.out _ hw5).mono ?_; clear HE1 m0 m1 m2; rintro e w6 ⟨hb6, hq⟩; (rcases hq with ⟨y, hy, hy0, rfl⟩ | ⟨us, _, _, hy, _⟩; rotate_left; (cases hy); obtain rfl := Except.error.inj hy; clear hy hy0; dsimp only [zeroTm]); have hw6 := bl_then hw5 hb6; have q := (E0.out.mov hw6).al (.cells #[.int .i64 0, .int .i64 0, .slice none 0 0] 25); have o0 := q.cell 0; have o1 := q.cell 1; have o2 := q.cell 2; have hw7 := bl_alloc hw6 (.cells #[.int .i64 0, .int .i64 0, .slice none 0 0] 25); have X1 := Lib.hid (Blk.nw w6 #[.int .i64 0, .int .i64 0, .slice none 0 0] 25 w6.heap.size rfl); clear q)
              | (go_at_call 15; refine (HE2.out _ hw7).mono ?_; clear HE2 o0 o1 o2; rintro e w8 ⟨hb8, hq⟩; (rcases hq with ⟨y, hy, hy0, rfl⟩ | ⟨us, _, _, hy, _⟩; rotate_left; (cases hy); obtain rfl := Except.error.inj hy; clear hy hy0; dsimp only [zeroTm]); have q := (X1.out.mov hb8).al (.cells #[.int .i64 0, .int .i64 0, .slice none 0 0] 25); have r0 := q.cell 0; have r1 := q.cell 1; have r2 := q.cell 2; have b8 := Blk.nw w8 #[.int .i64 0, .int .i64 0, .slice none 0 0] 25 w8.heap.size rfl; have s0 := b8.cell 0; have s1 := b8.cell 1; have s2 := b8.cell 2; have hw8 := bl_alloc (bl_then hw7 hb8) (.cells #[.int .i64 0, .int .i64 0, .slice none 0 0] 25); have hv8 := bl_then HB0.out hw8; clear b8 q hw7)
                | (go_at_call 18; refine (Same_calls ⟨0, 0, []⟩ ⟨0, 0, []⟩ none 0 none 0 _ (.nil _) (Nat.le_refl _) (.nil _) (Nat.le_refl _)).mono ?_; rintro e w9 ⟨rfl, hb9⟩; rw [sameB_self]; have hv9 := bl_then hv8 hb9))
        go_ret
        exact ⟨rfl, hv9⟩
      · dsimp only at H1 H2
        have HE1 := Lib.hid H1
        have HE2 := Lib.hid H2
        clear H1 H2
        go_enter Tryz.func4, Tryz.ntmps4
        go_upto_region 1 with fail
        clear hW0
        go_wp2_with (first
              | (go_at_call 10; refine (awake21_calls _).mono ?_; rintro e w1 ⟨rfl, hw1⟩)
              | (go_at_call 11; refine (HF.out _ hw1).mono ?_; clear HF; rintro e w2 ⟨rfl, hb2⟩; have hw2 := bl_then hw1 hb2)
              | (go_at_call 12; refine (HS.out _ hw2).mono ?_; clear HS; rintro e w3 ⟨rfl, hb3⟩; have hw3 := bl_then hw2 hb3; have q := E0.out.mov hw3; have m0 := q.cell 0; have m1 := q.cell 1; have m2 := q.cell 2; clear q)
              | (go_at_call 13; refine (HL.out _ hw3).mono ?_; clear HL m0 m1 m2; rintro e w4 ⟨rfl, hb4⟩; have hw4 := bl_then hw3 hb4)
              | (go_at_call 14; refine (HC2.out _ hw4).mono ?_; clear HC2; rintro e w5 ⟨rfl, hb5⟩; have hw5 := bl_then hw4 hb5; have hv5 := bl_then HB0.out hw5; have q := E0.out.mov hw5; have m0 := q.cell 0; have m1 := q.cell 1; have m2 := q.cell 2; clear q)
              | (go_at_call 15; refine (HE1.out _ hw5).mono ?_; clear HE1 m0 m1 m2; rintro e w6 ⟨hb6, hq⟩; (rcases hq with ⟨y, hy, _⟩ | ⟨us, B1, c1, hy, rfl, hc1, hr1⟩; (cases hy); obtain rfl := Except.ok.inj hy; clear hy); have hw6 := bl_then hw5 hb6; have q := (E0.out.mov hw6).al (.cells #[.int .i64 t.k, .int .i64 t.h, .slice B1 t.a.length c1] 25); have o0 := q.cell 0; have o1 := q.cell 1; have o2 := q.cell 2; have hw7 := bl_alloc hw6 (.cells #[.int .i64 t.k, .int .i64 t.h, .slice B1 t.a.length c1] 25); have X1 := Lib.hid (Blk.nw w6 #[.int .i64 t.k, .int .i64 t.h, .slice B1 t.a.length c1] 25 w6.heap.size rfl); clear q)
              | (go_at_call 15; refine (HE2.out _ hw7).mono ?_; clear HE2 o0 o1 o2; rintro e w8 ⟨hb8, hq⟩; (rcases hq with ⟨y, hy, _⟩ | ⟨us, B2, c2, hy, rfl, hc2, hr2⟩; (cases hy); obtain rfl := Except.ok.inj hy; clear hy); have q := (X1.out.mov hb8).al (.cells #[.int .i64 t.k, .int .i64 t.h, .slice B2 t.a.length c2] 25); have r0 := q.cell 0; have r1 := q.cell 1; have r2 := q.cell 2; have b8 := Blk.nw w8 #[.int .i64 t.k, .int .i64 t.h, .slice B2 t.a.length c2] 25 w8.heap.size rfl; have s0 := b8.cell 0; have s1 := b8.cell 1; have s2 := b8.cell 2; have hw8 := bl_alloc (bl_then hw7 hb8) (.cells #[.int .i64 t.k, .int .i64 t.h, .slice B2 t.a.length c2] 25); have hv8 := bl_then HB0.out hw8; clear b8 q hw7)
                | (go_at_call 18; refine (Same_calls t t B1 c1 B2 c2 _ ((hr1.mov (bl_then (bl_alloc (Below.refl _ _) _) hb8)).mov (bl_alloc (Below.refl _ _) _)) hc1 (hr2.mov (bl_alloc (Below.refl _ _) _)) hc2).mono ?_; rintro e w9 ⟨rfl, hb9⟩; rw [sameB_self]; have hv9 := bl_then hv8 hb9))
        go_ret
        exact ⟨rfl, hv9⟩
    · clear HEV HUP hR1 hR2 hf1 hf2 hm1 hm2
      cases fb <;> cases sb <;> cases lb <;> cases cb <;>
      first
      | (exact absurd ⟨rfl, rfl, rfl, rfl⟩ hall)
      | (clear hall
         go_enter Tryz.func4, Tryz.ntmps4
         go_upto_region 1 with fail
         clear hW0
         go_wp2_with (first
              | (go_at_call 10; refine (awake21_calls _).mono ?_; rintro e w1 ⟨rfl, hw1⟩)
              | (go_at_call 11; refine (HF.out _ hw1).mono ?_; clear HF; rintro e w2 ⟨rfl, hb2⟩; have hw2 := bl_then hw1 hb2)
              | (go_at_call 12; refine (HS.out _ hw2).mono ?_; clear HS; rintro e w3 ⟨rfl, hb3⟩; have hw3 := bl_then hw2 hb3; have q := E0.out.mov hw3; have m0 := q.cell 0; have m1 := q.cell 1; have m2 := q.cell 2; clear q)
              | (go_at_call 13; refine (HL.out _ hw3).mono ?_; clear HL m0 m1 m2; rintro e w4 ⟨rfl, hb4⟩; have hw4 := bl_then hw3 hb4)
              | (go_at_call 14; refine (HC2.out _ hw4).mono ?_; clear HC2; rintro e w5 ⟨rfl, hb5⟩; have hw5 := bl_then hw4 hb5; have hv5 := bl_then HB0.out hw5; have q := E0.out.mov hw5; have m0 := q.cell 0; have m1 := q.cell 1; have m2 := q.cell 2; clear q))
         go_ret
         exact ⟨rfl, hv5⟩)
  · clear HEV HUP hR1 hR2 hf1 hf2 hm1 hm2
    by_cases h1 : more < fuel
    · clear hfu
      have d1 : decide (more < fuel) = true := by simp; omega
      cases fb <;> cases sb <;> cases lb <;> cases cb <;>
      (go_enter Tryz.func4, Tryz.ntmps4
       go_upto_region 1 with fail
       clear hW0
       go_wp2_with (first
              | (go_at_call 10; refine (awake21_calls _).mono ?_; rintro e w1 ⟨rfl, hw1⟩)
              | (go_at_call 11; refine (HF.out _ hw1).mono ?_; clear HF; rintro e w2 ⟨rfl, hb2⟩; have hw2 := bl_then hw1 hb2)
              | (go_at_call 12; refine (HS.out _ hw2).mono ?_; clear HS; rintro e w3 ⟨rfl, hb3⟩; have hw3 := bl_then hw2 hb3; have q := E0.out.mov hw3; have m0 := q.cell 0; have m1 := q.cell 1; have m2 := q.cell 2; clear q)
              | (go_at_call 13; refine (HL.out _ hw3).mono ?_; clear HL m0 m1 m2; rintro e w4 ⟨rfl, hb4⟩; have hw4 := bl_then hw3 hb4)
              | (go_at_call 14; refine (HC2.out _ hw4).mono ?_; clear HC2; rintro e w5 ⟨rfl, hb5⟩; have hw5 := bl_then hw4 hb5; have hv5 := bl_then HB0.out hw5; have q := E0.out.mov hw5; have m0 := q.cell 0; have m1 := q.cell 1; have m2 := q.cell 2; clear q))
       go_ret
       exact ⟨rfl, hv5⟩)
    · have h9 : 9 < more := by omega
      have d1 : decide (more < fuel) = false := by simp; omega
      have d2 : decide (9 < more) = true := by simp; omega
      clear hfu
      cases fb <;> cases sb <;> cases lb <;> cases cb <;>
      (go_enter Tryz.func4, Tryz.ntmps4
       go_upto_region 1 with fail
       clear hW0
       go_wp2_with (first
              | (go_at_call 10; refine (awake21_calls _).mono ?_; rintro e w1 ⟨rfl, hw1⟩)
              | (go_at_call 11; refine (HF.out _ hw1).mono ?_; clear HF; rintro e w2 ⟨rfl, hb2⟩; have hw2 := bl_then hw1 hb2)
              | (go_at_call 12; refine (HS.out _ hw2).mono ?_; clear HS; rintro e w3 ⟨rfl, hb3⟩; have hw3 := bl_then hw2 hb3; have q := E0.out.mov hw3; have m0 := q.cell 0; have m1 := q.cell 1; have m2 := q.cell 2; clear q)
              | (go_at_call 13; refine (HL.out _ hw3).mono ?_; clear HL m0 m1 m2; rintro e w4 ⟨rfl, hb4⟩; have hw4 := bl_then hw3 hb4)
              | (go_at_call 14; refine (HC2.out _ hw4).mono ?_; clear HC2; rintro e w5 ⟨rfl, hb5⟩; have hw5 := bl_then hw4 hb5; have hv5 := bl_then HB0.out hw5; have q := E0.out.mov hw5; have m0 := q.cell 0; have m1 := q.cell 1; have m2 := q.cell 2; clear q))
       go_ret
       exact ⟨rfl, hv5⟩)
theorem EvalFuel_row (w : World) (fs : List Fu) (A : Option Addr) (a : Nat) (hr : Row eF 13 (fun _ => False) w A fs) (ha : fs.length ≤ a) (gf : ∀ f ∈ fs, gF 1048576 f) (no : Int) (_ : -9223372036854775808 ≤ no ∧ no ≤ 9223372036854775807) (theta : List Tm) (T : Option Addr) (ct : Nat) (hT : Reads (fun _ => False) w T theta) (hct : theta.length ≤ ct) (_ : okL theta)
    (m : Tm) (M : Option Addr) (cm : Nat) (hM : Reads (fun _ => False) w M m.a) (hcm : m.a.length ≤ cm) (gm : okT m) (fuel : Int) (hf : -9223372036854775808 ≤ fuel ∧ fuel ≤ 9223372036854775807) (more : Int) (hm : -9223372036854775808 ≤ more ∧ more ≤ 9223372036854775807) (hb : cnt m ≤ 1048576) :
    Calls Tryz.prog 4 #[.slice A fs.length a, .int .i64 no, .slice T theta.length ct, .agg #[.int .i64 m.k, .int .i64 m.h, .slice M m.a.length cm], .int .i64 fuel, .int .i64 more] w fun e w' => e = .returned (.bool true) ∧ Below w.heap.size w w' :=
  EvalFuel_walk w fs A a hr ha gf no theta T ct hT hct m M cm hM hcm ⟨gm, hb⟩ fuel hf.1 hf.2 more hm.1 hm.2
end Go.Proofs.YtbmmdfehhhgkcaaGreat
