/- The chapter's examples of matching; what is asked of terms that are light. -/
import Derived.Test.YteojhbhaocgjoaaMT
import Derived.Deep.RegionHeld2
import Derived.Deep.RegionLaw
namespace Go.Proofs.Yteojhbhaocgjoaa
open Go.RowKit Go.Shelf
set_option linter.unusedVariables false
set_option linter.unusedSimpArgs false

theorem light_hB {t : Tm} {m d : Int} (hl : lightB t m d = true) (hm : mayB t = true) : hB 1099511627776 t := by
  unfold lightB at hl
  simp only [Bool.and_eq_true, decide_eq_true_eq] at hl
  rw [mayB_eq] at hm
  simp only [Bool.and_eq_true, decide_eq_true_eq] at hm
  exact hB_of hm.2.2 hl.1
theorem light_cnt {t : Tm} {m d : Int} (hc : cnt t ≤ 1048576) (hl : lightB t m d = true) : (cnt t : Int) ≤ m := by
  unfold lightB at hl
  simp only [Bool.and_eq_true, decide_eq_true_eq] at hl
  have := hl.2.1
  rw [sizeR_eq] at this
  unfold wrap64 at this
  omega
theorem qm_of {p t : Tm} {n m d m' d' : Int} (hp : lightB p m d = true) (ht : lightB t m' d' = true) (kp : okT p) (cp : cnt p ≤ 1048576) (ct : cnt t ≤ 1048576) (h1 : mayB p = true) (h2 : mayB t = true) : QM p t n :=
  ⟨⟨(light_hB hp h1).mono (by decide), kp, may_cnt h1 (by omega)⟩, (light_hB ht h2).mono (by decide), may_cnt h2 (by omega)⟩

/-- The pattern, the term of the chapter. -/
abbrev exP : Tm := ⟨5, 1, [⟨6, 0, []⟩]⟩
abbrev exT : Tm := ⟨5, 1, [⟨5, 2, []⟩]⟩
theorem exP_may : mayB exP = true := by rw [mayB_eq]; simp [exP, depthW, depthL, sizeR, sizeRL, nodesOk, nodesOkL, mayN, wrap64, mx]
theorem exT_may : mayB exT = true := by rw [mayB_eq]; simp [exT, depthW, depthL, sizeR, sizeRL, nodesOk, nodesOkL, mayN, wrap64, mx]
theorem mayV_nil : mayV [] 0 = true := mayV_true ⟨by decide, by decide, fun i hi => absurd hi (Nat.not_lt_zero _)⟩
theorem match_ex1 : MatchV [false] [] exP exT 0 [⟨false, ⟨0, 0, []⟩⟩] = .ok [⟨true, ⟨5, 2, []⟩⟩] := by
  unfold MatchV
  rw [exP_may, exT_may]
  have hm : mayB (⟨5, 2, []⟩ : Tm) = true := by rw [mayB_eq]; simp [depthW, depthL, sizeR, sizeRL, nodesOk, nodesOkL, mayN, wrap64, mx]
  simp [oddBd, exP, exT, nodeF, nodeL, metaF, lastN, isB, patV, patGo, invV, hm, mayV_nil, renW, renL, headR, boolAt]
theorem match_ex2 : MatchV [] [] exT exP 0 [] = .error 6 := by
  unfold MatchV
  rw [exP_may, exT_may]
  simp [exP, exT, nodeF, nodeL, isB, lastN]
theorem ex_qm1 : QM exP exT 0 := by
  refine ⟨⟨?_, ?_, ?_⟩, ?_, ?_⟩
  all_goals simp [exP, exT, hB, hBL, okT, okL, cnt, cntL, mayN, bindB]
theorem ex_qm2 : QM exT exP 0 := by
  refine ⟨⟨?_, ?_, ?_⟩, ?_, ?_⟩
  all_goals simp [exP, exT, hB, hBL, okT, okL, cnt, cntL, mayN, bindB]

/-- Binds that are nothing yet. -/
def bd0 (n : Nat) : List Bd := List.replicate n ⟨false, ⟨0, 0, []⟩⟩
theorem bd0_len (n : Nat) : (bd0 n).length = n := by simp [bd0]
theorem bd0_at {n i : Nat} (h : i < (bd0 n).length) : (bd0 n)[i] = ⟨false, ⟨0, 0, []⟩⟩ := by simp [bd0]
theorem row_made {W : World} {g n : Nat} (h : Blk W g (madeCells #[.bool false, .int .i64 0, .int .i64 0, .slice none 0 0] (n * 4)) 41) (hn : n ≤ lim) : Row eB 4 (fun _ => False) W (some ⟨g, 0, none⟩) (bd0 n) :=
  ⟨by rw [bd0_len]; exact hn, fun i hi => by
    rw [bd0_at hi]
    rw [bd0_len] at hi
    refine ⟨_, [.bool false, .int .i64 0, .int .i64 0, .slice none 0 0], rfl, rfl, fun q => q, rfl, fun j u hu => ?_, none, 0, rfl, Nat.le_refl _, .nil _⟩
    rw [Nat.zero_add, h.cell]
    have h1 : i * 4 + j < n * 4 := by
      have := (List.getElem?_eq_some_iff.1 hu).1
      simp at this
      omega
    match j, hu with
    | 0, hu =>
      cases hu
      have h1' : i * 4 < n * 4 := by omega
      have h2 : i * 4 % 4 = 0 := by omega
      simp [madeCells, h1', h2]
    | 1, hu =>
      cases hu
      have h2 : (i * 4 + 1) % 4 = 1 := by omega
      simp [madeCells, h1, h2]
    | 2, hu =>
      cases hu
      have h2 : (i * 4 + 2) % 4 = 2 := by omega
      simp [madeCells, h1, h2]
    | 3, hu =>
      cases hu
      have h2 : (i * 4 + 3) % 4 = 3 := by omega
      simp [madeCells, h1, h2]
    | j + 4, hu => simp at hu⟩
theorem infoBoo : (Try.prog.info? 4).map (fun i => (i.zero, i.size, i.bytes)) = some (some (.bool false), 1, 1) := by kernel_rfl
theorem bo_make (n : Nat) (hn : n ≤ 1048576) (w : World) : (Instr.makeSlice 36 (.int .i64 n) (.int .i64 n)).run Try.prog w = .ok (.slice (some ⟨w.heap.size, 0, none⟩) n n) (w.alloc (.cells (madeCells #[.bool false] n) 4)) := by
  obtain ⟨i, hi, hz, hs, hb⟩ := info_parts infoBoo
  have q := run_make (P := Try.prog) (w := w) 36 4 i _ Try.underlying36 hi hz .i64 .i64 (n : Int) (n : Int) (by omega) (Int.le_refl _) (by rw [hb]; omega) (by omega)
  rw [hs] at q
  simp only [Int.toNat_natCast, Nat.mul_one] at q
  exact q
theorem rowBo_made {W : World} {g n : Nat} (h : Blk W g (madeCells #[.bool false] n) 4) (hn : n ≤ lim) : RowBo W (some ⟨g, 0, none⟩) (List.replicate n false) :=
  ⟨by simpa using hn, fun i hi => by
    refine ⟨_, rfl, ?_⟩
    rw [add_plain, Nat.zero_add, h.cell]
    have h1 : i < n := by simpa using hi
    simp [madeCells, h1, Nat.mod_one]⟩
theorem bd_make1 (w : World) : (Instr.makeSlice 30 (.int .i64 1) (.int .i64 1)).run Try.prog w = .ok (.slice (some ⟨w.heap.size, 0, none⟩) 1 1) (w.alloc (.cells (madeCells #[.bool false, .int .i64 0, .int .i64 0, .slice none 0 0] (1 * 4)) 41)) := bd_make 1 (by decide) w
theorem rowBo_one {W : World} {g : Nat} {b : Bool} (h : Blk W g #[.bool b] 4) : RowBo W (some ⟨g, 0, none⟩) [b] :=
  ⟨by simp [lim], fun i hi => by
    refine ⟨_, rfl, ?_⟩
    rw [add_plain, Nat.zero_add, h.cell]
    have h1 : i = 0 := by simpa using hi
    subst h1
    rfl⟩
theorem rowBo_nil {W : World} {A : Option Addr} : RowBo W A [] := ⟨Nat.zero_le _, fun i hi => absurd hi (Nat.not_lt_zero _)⟩
theorem rowBd_nil {S : Nat → Prop} {W : World} {A : Option Addr} : Row eB 4 S W A [] := ⟨Nat.zero_le _, fun i hi => absurd hi (Nat.not_lt_zero _)⟩

set_option maxRecDepth 100000 in
set_option maxHeartbeats 4000000 in
theorem awake7_calls (w : World) : Calls Try.prog 8 #[] w fun e w' => e = .returned (.bool true) ∧ Below w.heap.size w w' := by
  have hmk := bd_make1
  go_enter Try.func8, Try.ntmps8
  go_upto_region 3 with fail
  obtain ⟨W0, hW0⟩ : ∃ W0, ((((w.alloc (.cells #[.int .i64 6, .int .i64 0, .slice none 0 0] 24)).alloc (.cells #[.int .i64 5, .int .i64 1, .slice (some ⟨w.heap.size, 0, none⟩) 1 1] 24)).alloc (.cells #[.int .i64 5, .int .i64 2, .slice none 0 0] 24)).alloc (.cells #[.int .i64 5, .int .i64 1, .slice (some ⟨w.heap.size + 1 + 1, 0, none⟩) 1 1] 24)) = W0 := ⟨_, rfl⟩
  have HB0 : Hid (Below w.heap.size w W0) := Lib.hid (by rw [← hW0]; exact bl_alloc (bl_alloc (bl_alloc (bl_alloc (Below.refl _ _) _) _) _) _)
  have HPA : Hid (Blk W0 w.heap.size #[.int .i64 6, .int .i64 0, .slice none 0 0] 24) := Lib.hid (by rw [← hW0]; exact (((Blk.nw _ _ _ _ rfl).al _).al _).al _)
  have HP : Hid (Blk W0 (w.heap.size + 1) #[.int .i64 5, .int .i64 1, .slice (some ⟨w.heap.size, 0, none⟩) 1 1] 24) := Lib.hid (by rw [← hW0]; exact ((Blk.nw _ _ _ _ (by simp)).al _).al _)
  have HTA : Hid (Blk W0 (w.heap.size + 1 + 1) #[.int .i64 5, .int .i64 2, .slice none 0 0] 24) := Lib.hid (by rw [← hW0]; exact (Blk.nw _ _ _ _ (by simp)).al _)
  have HT : Hid (Blk W0 (w.heap.size + 1 + 1 + 1) #[.int .i64 5, .int .i64 1, .slice (some ⟨w.heap.size + 1 + 1, 0, none⟩) 1 1] 24) := Lib.hid (by rw [← hW0]; exact Blk.nw _ _ _ _ (by simp))
  rw [hW0]
  have HM1 := Lib.hid (fun (W : World) (hb : Below W0.heap.size W0 W) (g gq : Nat) (h1 : Row eB 4 (fun _ => False) W (some ⟨g, 0, none⟩) (bd0 1)) (h2 : RowBo W (some ⟨gq, 0, none⟩) [false]) => Match_calls [false] [] exP exT 0 (bd0 1) (some ⟨w.heap.size, 0, none⟩) 1 (some ⟨w.heap.size + 1 + 1, 0, none⟩) 1 (some ⟨g, 0, none⟩) 1 (some ⟨gq, 0, none⟩) 1 none 0 W (reads_one (t := ⟨6, 0, []⟩) (HPA.out.mov hb) (fun q => q) (.nil _) (Nat.le_refl _)) (Nat.le_refl _) (reads_one (t := ⟨5, 2, []⟩) (HTA.out.mov hb) (fun q => q) (.nil _) (Nat.le_refl _)) (Nat.le_refl _) h1 (Nat.le_refl _) h2 rowBo_nil (by simp [bd0]) (by simp) (fun _ _ => ex_qm1) (fun x hx hi => by simp [bd0] at hx; rw [hx] at hi; cases hi))
  have HM2 := Lib.hid (fun (W : World) (hb : Below W0.heap.size W0 W) => Match_calls [] [] exT exP 0 [] (some ⟨w.heap.size + 1 + 1, 0, none⟩) 1 (some ⟨w.heap.size, 0, none⟩) 1 none 0 none 0 none 0 W (reads_one (t := ⟨5, 2, []⟩) (HTA.out.mov hb) (fun q => q) (.nil _) (Nat.le_refl _)) (Nat.le_refl _) (reads_one (t := ⟨6, 0, []⟩) (HPA.out.mov hb) (fun q => q) (.nil _) (Nat.le_refl _)) (Nat.le_refl _) rowBd_nil (Nat.le_refl _) rowBo_nil rowBo_nil (by simp) (by simp) (fun _ _ => ex_qm2) (fun x hx hi => by cases hx))
  rw [show MatchV [false] [] exP exT 0 (bd0 1) = _ from match_ex1] at HM1
  rw [match_ex2] at HM2
  have p0 := HP.out.cell 0
  have p1 := HP.out.cell 1
  have p2 := HP.out.cell 2
  have t0 := HT.out.cell 0
  have t1 := HT.out.cell 1
  have t2 := HT.out.cell 2
  have pl := HP.out.lt
  have tl := HT.out.lt
  clear hW0 HPA HTA
  go_cut [3, 4] (fun s3 s4 wx => ∃ g c, s3 = .slice (some ⟨g, 0, none⟩) 1 c ∧ s4 = .int .i64 0 ∧ Below W0.heap.size W0 wx ∧ RowB (fun _ => False) wx (some ⟨g, 0, none⟩) [⟨true, ⟨5, 2, []⟩⟩])
  case first =>
    have HC : Hid (∀ W, Below W0.heap.size W0 W → (Below W0.heap.size W0 W ∧ W.cell? ⟨w.heap.size + 1, 0, none⟩ = some (.int .i64 5) ∧ W.cell? ⟨w.heap.size + 1, 1, none⟩ = some (.int .i64 1) ∧ W.cell? ⟨w.heap.size + 1, 2, none⟩ = some (.slice (some ⟨w.heap.size, 0, none⟩) 1 1) ∧ W.cell? ⟨w.heap.size + 1 + 1 + 1, 0, none⟩ = some (.int .i64 5) ∧ W.cell? ⟨w.heap.size + 1 + 1 + 1, 1, none⟩ = some (.int .i64 1) ∧ W.cell? ⟨w.heap.size + 1 + 1 + 1, 2, none⟩ = some (.slice (some ⟨w.heap.size + 1 + 1, 0, none⟩) 1 1))) := Lib.hid (fun W hb => ⟨hb, (HP.out.mov hb).cell 0, (HP.out.mov hb).cell 1, (HP.out.mov hb).cell 2, (HT.out.mov hb).cell 0, (HT.out.mov hb).cell 1, (HT.out.mov hb).cell 2⟩)
    clear p0 p1 p2 t0 t1 t2 pl tl
    clear hmk
    obtain ⟨O, hO⟩ : ∃ O : Obj, Obj.cells (madeCells #[.bool false, .int .i64 0, .int .i64 0, .slice none 0 0] (1 * 4)) 41 = O := ⟨_, rfl⟩
    have hmk : ∀ w : World, (Instr.makeSlice 30 (.int .i64 1) (.int .i64 1)).run Try.prog w = .ok (.slice (some ⟨w.heap.size, 0, none⟩) 1 1) (w.alloc O) := fun w => hO ▸ bd_make1 w
    have HO := Lib.hid hO
    clear hO
    go_region_held2 (fun W => (Below W0.heap.size W0 W ∧ W.cell? ⟨w.heap.size + 1, 0, none⟩ = some (.int .i64 5) ∧ W.cell? ⟨w.heap.size + 1, 1, none⟩ = some (.int .i64 1) ∧ W.cell? ⟨w.heap.size + 1, 2, none⟩ = some (.slice (some ⟨w.heap.size, 0, none⟩) 1 1) ∧ W.cell? ⟨w.heap.size + 1 + 1 + 1, 0, none⟩ = some (.int .i64 5) ∧ W.cell? ⟨w.heap.size + 1 + 1 + 1, 1, none⟩ = some (.int .i64 1) ∧ W.cell? ⟨w.heap.size + 1 + 1 + 1, 2, none⟩ = some (.slice (some ⟨w.heap.size + 1 + 1, 0, none⟩) 1 1)))
      ((first | exact HC.out _ hx1 | exact HC.out _ (Below.refl _ _) | exact HC.out _ (bl_alloc (Below.refl _ _) _) | exact HC.out _ (bl_alloc (bl_alloc (Below.refl _ _) _) _) | exact HC.out _ (Below.refl _ _).drew | exact HC.out _ (bl_alloc (Below.refl _ _) _).drew | exact HC.out _ (bl_alloc (bl_alloc (Below.refl _ _) _) _).drew))
      (first | (go_at_call 12; refine (HM1.out _ ?hb _ _ ?h1 ?h2).mono ?_; (case hb => exact (bl_alloc (bl_alloc (Below.refl _ _) _) _).drew); (case h1 => (have e := HO.out; subst e; first | exact row_made ((Blk.nw _ _ _ _ rfl).al _) (by decide) | exact row_made (Blk.nw _ _ _ _ (by simp)) (by decide))); (case h2 => first | exact rowBo_one ((Blk.nw _ _ _ _ rfl).al _) | exact rowBo_one (Blk.nw _ _ _ _ (by simp))); rintro e w1 ⟨hb1, (⟨_, hn, _⟩ | ⟨bs1, g1, c1, hs1, rfl, _, _, hr1⟩)⟩; (exact absurd hn (by simp)); (obtain rfl := Except.ok.inj hs1); have hx1 := bl_then (bl_alloc (bl_alloc (Below.refl W0.heap.size W0) _) _) (bl_undrew hb1)))
    all_goals
      go_wp2_with fail
      go_meet
      exact ⟨_, c1, rfl, rfl, hx1, hr1⟩
  case rest =>
    obtain ⟨g, c, rfl, rfl, hx, hr⟩ := hcut
    have hw := bl_then HB0.out hx
    have p := HP.out.mov hx
    have q := HT.out.mov hx
    have p0 := p.cell 0
    have p1 := p.cell 1
    have p2 := p.cell 2
    have q0 := q.cell 0
    have q1 := q.cell 1
    have q2 := q.cell 2
    clear p q t0 t1 t2
    go_wp2_with (go_at_call 12; refine (HM2.out _ hx).mono ?_; clear HM2; rintro e w2 ⟨hb2, (⟨_, hn, _, rfl⟩ | ⟨bs1, g1, c1, hs1, _, _, _⟩)⟩; rotate_left; (exact absurd hs1 (by simp)); (obtain rfl := Except.error.inj hn); clear hn; obtain ⟨ad, B2, d, had, r0, r1, r2, r3, _, _⟩ := (hr.mov hb2).2 0 (by simp); (obtain rfl := Option.some.inj had); (rw [add_plain] at r0 r1 r2 r3); (simp only [List.getElem_cons_zero, Nat.zero_mul, Nat.zero_add] at r0 r1 r2 r3))
    go_ret
    exact ⟨rfl, bl_then hw hb2⟩
end Go.Proofs.Yteojhbhaocgjoaa
