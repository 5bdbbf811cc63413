/- The chapter's examples of matching; what is asked of terms that are light. -/
import Derived.Test.YtbmmdfehhhgkcaaGreatMT
import Derived.Deep.RegionHeld2
import Derived.Deep.RegionLaw
namespace Go.Proofs.YtbmmdfehhhgkcaaGreat
open Go.RowKit Go.Shelf
set_option linter.unusedVariables false
set_option linter.unusedSimpArgs false

theorem light_hB {t : Tm} {m d : Int} (hl : lightB t m d = true) (hm : mayB t = true) : hB 1099511627776 t := by
  unfold lightB at hl
  simp only [Bool.and_eq_true, decide_eq_true_eq] at hl
  rw [mayB_eq] at hm
  simp only [Bool.and_eq_true, decide_eq_true_eq] at hm
  exact hB_of hm.2.2 hl.1
theorem light_cnt {t : Tm} {m d : Int} (hc : cnt t ≤ 1048576) (hl : lightB t m d = true) : (cnt t : Int) ≤ m := by
  unfold lightB at hl
  simp only [Bool.and_eq_true, decide_eq_true_eq] at hl
  have := hl.2.1
  rw [sizeR_eq] at this
  unfold wrap64 at this
  omega
theorem qm_of {p t : Tm} {n m d m' d' : Int} (hp : lightB p m d = true) (ht : lightB t m' d' = true) (kp : okT p) (cp : cnt p ≤ 1048576) (ct : cnt t ≤ 1048576) (h1 : mayB p = true) (h2 : mayB t = true) : QM p t n :=
  ⟨⟨(light_hB hp h1).mono (by decide), kp, may_cnt h1 (by omega)⟩, (light_hB ht h2).mono (by decide), may_cnt h2 (by omega)⟩

/-- The pattern, the term of the chapter. -/
abbrev exP : Tm := ⟨5, 1, [⟨6, 0, []⟩]⟩
abbrev exT : Tm := ⟨5, 1, [⟨5, 2, []⟩]⟩
theorem exP_may : mayB exP = true := by rw [mayB_eq]; simp [exP, depthW, depthL, sizeR, sizeRL, nodesOk, nodesOkL, mayN, wrap64, mx]
theorem exT_may : mayB exT = true := by rw [mayB_eq]; simp [exT, depthW, depthL, sizeR, sizeRL, nodesOk, nodesOkL, mayN, wrap64, mx]
theorem mayV_nil : mayV [] 0 = true := mayV_true ⟨by decide, by decide, fun i hi => absurd hi (Nat.not_lt_zero _)⟩
theorem match_ex1 : MatchV [false] [] exP exT 0 [⟨false, ⟨0, 0, []⟩⟩] = .ok [⟨true, ⟨5, 2, []⟩⟩] := by
  unfold MatchV
  rw [exP_may, exT_may]
  have hm : mayB (⟨5, 2, []⟩ : Tm) = true := by rw [mayB_eq]; simp [depthW, depthL, sizeR, sizeRL, nodesOk, nodesOkL, mayN, wrap64, mx]
  simp [oddBd, exP, exT, nodeF, nodeL, metaF, lastN, isB, patV, patGo, invV, hm, mayV_nil, renW, renL, headR, boolAt]
theorem match_ex2 : MatchV [] [] exT exP 0 [] = .error 6 := by
  unfold MatchV
  rw [exP_may, exT_may]
  simp [exP, exT, nodeF, nodeL, isB, lastN]
theorem ex_qm1 : QM exP exT 0 := by
  refine ⟨⟨?_, ?_, ?_⟩, ?_, ?_⟩
  all_goals simp [exP, exT, hB, hBL, okT, okL, cnt, cntL, mayN, bindB]
theorem ex_qm2 : QM exT exP 0 := by
  refine ⟨⟨?_, ?_, ?_⟩, ?_, ?_⟩
  all_goals simp [exP, exT, hB, hBL, okT, okL, cnt, cntL, mayN, bindB]

/-- Binds that are nothing yet. -/
def bd0 (n : Nat) : List Bd := List.replicate n ⟨false, ⟨0, 0, []⟩⟩
theorem bd0_len (n : Nat) : (bd0 n).length = n := by simp [bd0]
theorem bd0_at {n i : Nat} (h : i < (bd0 n).length) : (bd0 n)[i] = ⟨false, ⟨0, 0, []⟩⟩ := by simp [bd0]
theorem row_made {W : World} {g n : Nat} (h : Blk W g (madeCells #[.bool false, .int .i64 0, .int .i64 0, .slice none 0 0] (n * 4)) 78) (hn : n ≤ lim) : Row eB 4 (fun _ => False) W (some ⟨g, 0, none⟩) (bd0 n) :=
  ⟨by rw [bd0_len]; exact hn, fun i hi => by
    rw [bd0_at hi]
    rw [bd0_len] at hi
    refine ⟨_, [.bool false, .int .i64 0, .int .i64 0, .slice none 0 0], rfl, rfl, fun q => q, rfl, fun j u hu => ?_, none, 0, rfl, Nat.le_refl _, .nil _⟩
    rw [Nat.zero_add, h.cell]
    have h1 : i * 4 + j < n * 4 := by
      have := (List.getElem?_eq_some_iff.1 hu).1
      simp at this
      omega
    match j, hu with
    | 0, hu =>
      cases hu
      have h1' : i * 4 < n * 4 := by omega
      have h2 : i * 4 % 4 = 0 := by omega
      simp [madeCells, h1', h2]
    | 1, hu =>
      cases hu
      have h2 : (i * 4 + 1) % 4 = 1 := by omega
      simp [madeCells, h1, h2]
    | 2, hu =>
      cases hu
      have h2 : (i * 4 + 2) % 4 = 2 := by omega
      simp [madeCells, h1, h2]
    | 3, hu =>
      cases hu
      have h2 : (i * 4 + 3) % 4 = 3 := by omega
      simp [madeCells, h1, h2]
    | j + 4, hu => simp at hu⟩
theorem infoBoo : (Tryz.prog.info? 4).map (fun i => (i.zero, i.size, i.bytes)) = some (some (.bool false), 1, 1) := by kernel_rfl
theorem bo_make (n : Nat) (hn : n ≤ 1048576) (w : World) : (Instr.makeSlice 46 (.int .i64 n) (.int .i64 n)).run Tryz.prog w = .ok (.slice (some ⟨w.heap.size, 0, none⟩) n n) (w.alloc (.cells (madeCells #[.bool false] n) 4)) := by
  obtain ⟨i, hi, hz, hs, hb⟩ := info_parts infoBoo
  have q := run_make (P := Tryz.prog) (w := w) 46 4 i _ Tryz.underlying46 hi hz .i64 .i64 (n : Int) (n : Int) (by omega) (Int.le_refl _) (by rw [hb]; omega) (by omega)
  rw [hs] at q
  simp only [Int.toNat_natCast, Nat.mul_one] at q
  exact q
theorem rowBo_made {W : World} {g n : Nat} (h : Blk W g (madeCells #[.bool false] n) 4) (hn : n ≤ lim) : RowBo W (some ⟨g, 0, none⟩) (List.replicate n false) :=
  ⟨by simpa using hn, fun i hi => by
    refine ⟨_, rfl, ?_⟩
    rw [add_plain, Nat.zero_add, h.cell]
    have h1 : i < n := by simpa using hi
    simp [madeCells, h1, Nat.mod_one]⟩
theorem bd_make1 (w : World) : (Instr.makeSlice 43 (.int .i64 1) (.int .i64 1)).run Tryz.prog w = .ok (.slice (some ⟨w.heap.size, 0, none⟩) 1 1) (w.alloc (.cells (madeCells #[.bool false, .int .i64 0, .int .i64 0, .slice none 0 0] (1 * 4)) 78)) := bd_make 1 (by decide) w
theorem rowBo_one {W : World} {g : Nat} {b : Bool} (h : Blk W g #[.bool b] 4) : RowBo W (some ⟨g, 0, none⟩) [b] :=
  ⟨by simp [lim], fun i hi => by
    refine ⟨_, rfl, ?_⟩
    rw [add_plain, Nat.zero_add, h.cell]
    have h1 : i = 0 := by simpa using hi
    subst h1
    rfl⟩
theorem rowBo_nil {W : World} {A : Option Addr} : RowBo W A [] := ⟨Nat.zero_le _, fun i hi => absurd hi (Nat.not_lt_zero _)⟩
theorem rowBd_nil {S : Nat → Prop} {W : World} {A : Option Addr} : Row eB 4 S W A [] := ⟨Nat.zero_le _, fun i hi => absurd hi (Nat.not_lt_zero _)⟩

end Go.Proofs.YtbmmdfehhhgkcaaGreat
