/- The law MatchSelf. -/
import Derived.Test.YteojhbhaocgjoaaMA
import Derived.Test.YteojhbhaocgjoaaPN
import Derived.Test.YteojhbhaocgjoaaO7
import Derived.Test.YteojhbhaocgjoaaRU
import Derived.Test.YteojhbhaocgjoaaI6
namespace Go.Proofs.Yteojhbhaocgjoaa
open Go.RowKit Go.Shelf
set_option linter.unusedVariables false
set_option linter.unusedSimpArgs false

theorem match_self {t t2 : Tm} {n : Int} (h1 : mayB t = true) (h2 : mayB t2 = true) (hn : 0 ≤ n ∧ n ≤ 100) (hm : metasOf (nodesW t 0) = []) :
    MatchV [] [] t t2 n [] = if sameB t t2 = true then .ok [] else .error 6 := by
  unfold MatchV
  rw [h1, h2]
  have e1 : ¬ n < 0 := by omega
  have e2 : ¬ 1000 < n := by omega
  simp only [e1, e2, decide_false, Bool.not_false, Bool.and_self, Bool.true_and, List.length_nil, List.any_nil, decide_true]
  simp only [show (decide ((200 : Int) < ((0 : Nat) : Int))) = false from by decide, Bool.not_false, if_true]
  exact node_same _ t t2 n 0 [] hm

set_option maxRecDepth 100000 in
set_option maxHeartbeats 16000000 in
theorem MatchSelf_row (w : World) (t : Tm) (A : Option Addr) (c : Nat) (hr : Reads (fun _ => False) w A t.a) (hc : t.a.length ≤ c) (g : okT t) (t2 : Tm) (A2 : Option Addr) (c2 : Nat) (hr2 : Reads (fun _ => False) w A2 t2.a) (hc2 : t2.a.length ≤ c2) (g2 : okT t2)
    (n : Int) (_ : -9223372036854775808 ≤ n ∧ n ≤ 9223372036854775807) (hcn : cnt t + cnt t2 ≤ 1048576) :
    Calls Try.prog 3 #[.agg #[.int .i64 t.k, .int .i64 t.h, .slice A t.a.length c], .agg #[.int .i64 t2.k, .int .i64 t2.h, .slice A2 t2.a.length c2], .int .i64 n] w fun e w' => e = .returned (.bool true) ∧ Below w.heap.size w w' := by
  obtain ⟨W0, hW0⟩ : ∃ W0, ((w.alloc (.cells #[.int .i64 t.k, .int .i64 t.h, .slice A t.a.length c] 24)).alloc (.cells #[.int .i64 t2.k, .int .i64 t2.h, .slice A2 t2.a.length c2] 24)) = W0 := ⟨_, rfl⟩
  have hb0 : Below w.heap.size w W0 := by rw [← hW0]; exact bl_alloc (bl_alloc (Below.refl _ _) _) _
  have b1 : Blk W0 w.heap.size #[.int .i64 t.k, .int .i64 t.h, .slice A t.a.length c] 24 := by rw [← hW0]; exact (Blk.nw _ _ _ _ rfl).al _
  have b2 : Blk W0 (w.heap.size + 1) #[.int .i64 t2.k, .int .i64 t2.h, .slice A2 t2.a.length c2] 24 := by rw [← hW0]; exact Blk.nw _ _ _ _ (by simp)
  have HB0 := Lib.hid hb0
  have E0 : Hid (∀ W, Below W0.heap.size W0 W → W.cell? ⟨w.heap.size, 0, none⟩ = some (.int .i64 t.k) ∧ W.cell? ⟨w.heap.size, 1, none⟩ = some (.int .i64 t.h) ∧ W.cell? ⟨w.heap.size, 2, none⟩ = some (.slice A t.a.length c) ∧ W.cell? ⟨w.heap.size + 1, 0, none⟩ = some (.int .i64 t2.k) ∧ W.cell? ⟨w.heap.size + 1, 1, none⟩ = some (.int .i64 t2.h) ∧ W.cell? ⟨w.heap.size + 1, 2, none⟩ = some (.slice A2 t2.a.length c2)) :=
    Lib.hid (fun W hb => ⟨(b1.mov hb).cell 0, (b1.mov hb).cell 1, (b1.mov hb).cell 2, (b2.mov hb).cell 0, (b2.mov hb).cell 1, (b2.mov hb).cell 2⟩)
  have hr' := hr.mov hb0
  have hr2' := hr2.mov hb0
  have HL1 := Lib.hid (fun (W : World) (hb : Below W0.heap.size W0 W) => Light_calls t A c 1000 60 W (hr'.mov hb) hc)
  have HL2 := Lib.hid (fun (W : World) (hb : Below W0.heap.size W0 W) => Light_calls t2 A2 c2 1000 60 W (hr2'.mov hb) hc2)
  have HM1 := Lib.hid (fun (W : World) (hb : Below W0.heap.size W0 W) => May_calls t A c W (hr'.mov hb) hc)
  have HM2 := Lib.hid (fun (W : World) (hb : Below W0.heap.size W0 W) => May_calls t2 A2 c2 W (hr2'.mov hb) hc2)
  have HME := Lib.hid (fun (W : World) (hb : Below W0.heap.size W0 W) => Metas_calls t A c W (hr'.mov hb) hc g (by unfold limI; omega))
  have HSM := Lib.hid (fun (W : World) (hb : Below W0.heap.size W0 W) => Same_calls t t2 A c A2 c2 W (hr'.mov hb) hc (hr2'.mov hb) hc2)
  have HMA := Lib.hid (fun (W : World) (hb : Below W0.heap.size W0 W) (hq : mayB t = true → mayB t = true → QM t t n) => Match_calls [] [] t t n [] A c A c none 0 none 0 none 0 W (hr'.mov hb) hc (hr'.mov hb) hc rowBd_nil (Nat.le_refl _) rowBo_nil rowBo_nil (by simp) (by simp) hq (fun x hx hi => by cases hx))
  have HMB := Lib.hid (fun (W : World) (hb : Below W0.heap.size W0 W) (hq : mayB t = true → mayB t2 = true → QM t t2 n) => Match_calls [] [] t t2 n [] A c A2 c2 none 0 none 0 none 0 W (hr'.mov hb) hc (hr2'.mov hb) hc2 rowBd_nil (Nat.le_refl _) rowBo_nil rowBo_nil (by simp) (by simp) hq (fun x hx hi => by cases hx))
  have HP : Hid (lightB t 1000 60 = true → lightB t2 1000 60 = true → mayB t = true → mayB t2 = true → 0 ≤ n ∧ n ≤ 100 → metasOf (nodesW t 0) = [] → MatchV [] [] t t n [] = .ok [] ∧ MatchV [] [] t t2 n [] = (if sameB t t2 = true then .ok [] else .error 6) ∧ QM t t n ∧ QM t t2 n) := Lib.hid fun l1 l2 m1 m2 hn hm => ⟨(match_self m1 m1 hn hm).trans (if_pos (sameB_refl t)), match_self m1 m2 hn hm, qm_of l1 l1 g (by omega) (by omega) m1 m1, qm_of l1 l2 g (by omega) (by omega) m1 m2⟩
  obtain ⟨m1, hm1⟩ : ∃ b, mayB t = b := ⟨_, rfl⟩
  obtain ⟨m2, hm2⟩ : ∃ b, mayB t2 = b := ⟨_, rfl⟩
  obtain ⟨l1, hl1⟩ : ∃ b, lightB t 1000 60 = b := ⟨_, rfl⟩
  obtain ⟨l2, hl2⟩ : ∃ b, lightB t2 1000 60 = b := ⟨_, rfl⟩
  obtain ⟨sb, hsb⟩ : ∃ b, sameB t t2 = b := ⟨_, rfl⟩
  rw [hm1] at HM1
  rw [hm2] at HM2
  rw [hl1] at HL1
  rw [hl2] at HL2
  rw [hsb] at HSM
  rw [hm1, hm2, hl1, hl2, hsb] at HP
  clear hr hr2 hr' hr2' b1 b2 hb0 hm1 hm2 hl1 hl2 hsb g g2
  obtain ⟨p0, p1, p2, q0, q1, q2⟩ := E0.out _ (Below.refl _ _)
  have hcond : (l1 = true ∧ l2 = true ∧ m1 = true ∧ m2 = true ∧ 0 ≤ n ∧ n ≤ 100) ∨ ¬ (l1 = true ∧ l2 = true ∧ m1 = true ∧ m2 = true ∧ 0 ≤ n ∧ n ≤ 100) := Classical.em _
  rcases hcond with ⟨rfl, rfl, rfl, rfl, hn0, hn1⟩ | hno
  · have hn0' : ¬ n < 0 := by omega
    have hn1' : ¬ 100 < n := by omega
    go_enter Try.func3, Try.ntmps3
    go_upto_region 1 with fail
    clear hW0
    go_upto_region 6 with (first
      | (go_at_call 8; refine (awake7_calls _).mono ?_; clear p0 p1 p2 q0 q1 q2; rintro e w1 ⟨rfl, hb1⟩; have hw1 : Below (W0).heap.size W0 w1 := hb1; obtain ⟨p0, p1, p2, q0, q1, q2⟩ := E0.out _ hw1)
      | (go_at_call 9; refine (HL1.out _ hw1).mono ?_; clear HL1 p0 p1 p2 q0 q1 q2; rintro e w2 ⟨rfl, hb2⟩; have hw2 := bl_then hw1 hb2; obtain ⟨p0, p1, p2, q0, q1, q2⟩ := E0.out _ hw2)
      | (go_at_call 9; refine (HL2.out _ hw2).mono ?_; clear HL2 p0 p1 p2 q0 q1 q2; rintro e w3 ⟨rfl, hb3⟩; have hw3 := bl_then hw2 hb3; obtain ⟨p0, p1, p2, q0, q1, q2⟩ := E0.out _ hw3)
      | (go_at_call 10; refine (HM1.out _ hw3).mono ?_; clear HM1 p0 p1 p2 q0 q1 q2; rintro e w4 ⟨rfl, hb4⟩; have hw4 := bl_then hw3 hb4; obtain ⟨p0, p1, p2, q0, q1, q2⟩ := E0.out _ hw4)
      | (go_at_call 10; refine (HM2.out _ hw4).mono ?_; clear HM2 p0 p1 p2 q0 q1 q2; rintro e w5 ⟨rfl, hb5⟩; have hw5 := bl_then hw4 hb5; obtain ⟨p0, p1, p2, q0, q1, q2⟩ := E0.out _ hw5)
      | (go_at_call 11; refine (HME.out _ hw5).mono ?_; clear HME p0 p1 p2 q0 q1 q2; rintro e w6 ⟨⟨ml, Bm, cm, rfl, -, -, -, -, hmem⟩, hb6⟩; have hw6 := bl_then hw5 hb6; obtain ⟨p0, p1, p2, q0, q1, q2⟩ := E0.out _ hw6))
    · go_ret
      exact ⟨rfl, bl_then HB0.out hw6⟩
    · have hml : ml = [] := List.eq_nil_of_length_eq_zero (by omega)
      subst hml
      obtain ⟨e1, e2, qm1, qm2⟩ := HP.out (by trivial) (by trivial) (by trivial) (by trivial) ⟨hn0, hn1⟩ (List.eq_nil_iff_forall_not_mem.2 fun x hx => absurd ((hmem x).2 hx) (by simp))
      have HA := Lib.hid (fun W hb => HMA.out W hb (fun _ _ => qm1))
      have HB := Lib.hid (fun W hb => HMB.out W hb (fun _ _ => qm2))
      rw [e1] at HA
      rw [e2] at HB
      clear HMA HMB HP e1 e2 qm1 qm2 hmem
      cases sb
      · rw [if_neg (by decide)] at HB
        go_wp2_with (first
          | (go_at_call 12; refine (HA.out _ hw6).mono ?_; clear HA p0 p1 p2 q0 q1 q2; rintro e w7 ⟨hb7, (⟨_, hn, _⟩ | ⟨bs1, g1, c1, hs1, rfl, _, _⟩)⟩; (exact absurd hn (by simp)); (obtain rfl := Except.ok.inj hs1); have hw7 := bl_then hw6 hb7; obtain ⟨p0, p1, p2, q0, q1, q2⟩ := E0.out _ hw7)
          | (go_at_call 12; refine (HB.out _ hw7).mono ?_; clear HB p0 p1 p2 q0 q1 q2; rintro e w8 ⟨hb8, (⟨_, hn2, _, rfl⟩ | ⟨bs2, g2, c2', hs2, _, _, _⟩)⟩; (rotate_left); (exact absurd hs2 (by simp)); (obtain rfl := Except.error.inj hn2); have hw8 := bl_then hw7 hb8; obtain ⟨p0, p1, p2, q0, q1, q2⟩ := E0.out _ hw8)
          | (go_at_call 13; refine (HSM.out _ hw8).mono ?_; rintro e w9 ⟨rfl, hb9⟩; have hw9 := bl_then hw8 hb9))
        go_ret
        exact ⟨rfl, bl_then HB0.out hw9⟩
      · rw [if_pos rfl] at HB
        go_wp2_with (first
          | (go_at_call 12; refine (HA.out _ hw6).mono ?_; clear HA p0 p1 p2 q0 q1 q2; rintro e w7 ⟨hb7, (⟨_, hn, _⟩ | ⟨bs1, g1, c1, hs1, rfl, _, _⟩)⟩; (exact absurd hn (by simp)); (obtain rfl := Except.ok.inj hs1); have hw7 := bl_then hw6 hb7; obtain ⟨p0, p1, p2, q0, q1, q2⟩ := E0.out _ hw7)
          | (go_at_call 12; refine (HB.out _ hw7).mono ?_; clear HB p0 p1 p2 q0 q1 q2; rintro e w8 ⟨hb8, (⟨_, hn2, _⟩ | ⟨bs2, g2, c2', hs2, rfl, _, _⟩)⟩; (exact absurd hn2 (by simp)); (obtain rfl := Except.ok.inj hs2); have hw8 := bl_then hw7 hb8; obtain ⟨p0, p1, p2, q0, q1, q2⟩ := E0.out _ hw8)
          | (go_at_call 13; refine (HSM.out _ hw8).mono ?_; rintro e w9 ⟨rfl, hb9⟩; have hw9 := bl_then hw8 hb9))
        go_ret
        exact ⟨rfl, bl_then HB0.out hw9⟩
  · go_enter Try.func3, Try.ntmps3
    go_upto_region 1 with fail
    clear hW0
    go_upto_region 6 with (first
      | (go_at_call 8; refine (awake7_calls _).mono ?_; clear p0 p1 p2 q0 q1 q2; rintro e w1 ⟨rfl, hb1⟩; have hw1 : Below (W0).heap.size W0 w1 := hb1; obtain ⟨p0, p1, p2, q0, q1, q2⟩ := E0.out _ hw1)
      | (go_at_call 9; refine (HL1.out _ hw1).mono ?_; clear HL1 p0 p1 p2 q0 q1 q2; rintro e w2 ⟨rfl, hb2⟩; have hw2 := bl_then hw1 hb2; obtain ⟨p0, p1, p2, q0, q1, q2⟩ := E0.out _ hw2)
      | (go_at_call 9; refine (HL2.out _ hw2).mono ?_; clear HL2 p0 p1 p2 q0 q1 q2; rintro e w3 ⟨rfl, hb3⟩; have hw3 := bl_then hw2 hb3; obtain ⟨p0, p1, p2, q0, q1, q2⟩ := E0.out _ hw3)
      | (go_at_call 10; refine (HM1.out _ hw3).mono ?_; clear HM1 p0 p1 p2 q0 q1 q2; rintro e w4 ⟨rfl, hb4⟩; have hw4 := bl_then hw3 hb4; obtain ⟨p0, p1, p2, q0, q1, q2⟩ := E0.out _ hw4)
      | (go_at_call 10; refine (HM2.out _ hw4).mono ?_; clear HM2 p0 p1 p2 q0 q1 q2; rintro e w5 ⟨rfl, hb5⟩; have hw5 := bl_then hw4 hb5; obtain ⟨p0, p1, p2, q0, q1, q2⟩ := E0.out _ hw5)
      | (go_at_call 11; refine (HME.out _ hw5).mono ?_; clear HME p0 p1 p2 q0 q1 q2; rintro e w6 ⟨⟨ml, Bm, cm, rfl, -, -, -, -, hmem⟩, hb6⟩; have hw6 := bl_then hw5 hb6; obtain ⟨p0, p1, p2, q0, q1, q2⟩ := E0.out _ hw6))
    all_goals first
      | (go_ret; first | exact ⟨rfl, bl_then HB0.out hw6⟩ | exact ⟨rfl, bl_then HB0.out hw5⟩ | exact ⟨rfl, bl_then HB0.out hw4⟩ | exact ⟨rfl, bl_then HB0.out hw3⟩ | exact ⟨rfl, bl_then HB0.out hw2⟩)
      | skip
    exfalso
    refine hno ⟨?_, ?_, ?_, ?_, ?_, ?_⟩
    all_goals first | assumption | omega
end Go.Proofs.Yteojhbhaocgjoaa
