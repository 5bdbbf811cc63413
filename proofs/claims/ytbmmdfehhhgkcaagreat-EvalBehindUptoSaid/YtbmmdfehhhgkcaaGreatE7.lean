/- The contract of eval.Eval. The chapter's example is evaluated. The chapter's example, plainly: what doubling two comes to. The laws of evaluating are awake. Light functions are all right. -/
import Derived.Test.YtbmmdfehhhgkcaaGreatE6
import Derived.Test.YtbmmdfehhhgkcaaGreatK5
import Derived.Test.YtbmmdfehhhgkcaaGreatLF
import Derived.Test.YtbmmdfehhhgkcaaGreatRF
namespace Go.Proofs.YtbmmdfehhhgkcaaGreat
open Go.RowKit Go.Shelf
set_option linter.unusedVariables false
set_option linter.unusedSimpArgs false

theorem eval_calls (fs : List Fu) (hfs : FusOk fs) (hfl : fs.length ≤ 1048576) : ∀ k, EvalAt fs k
  | 0 => eval_step fs hfs hfl 0 (fun j h => by omega)
  | k + 1 => eval_step fs hfs hfl (k + 1) (fun j h => by
    obtain rfl : k = j := by omega
    exact eval_calls fs hfs hfl k)

set_option maxRecDepth 100000 in
set_option maxHeartbeats 8000000 in
theorem Eval_calls (fs : List Fu) (hfs : FusOk fs) (hfl : fs.length ≤ 1048576) (S : Nat → Prop) (F : Option Addr) (cf : Nat) (no fuel : Int) (theta : List Tm) (m : Tm) (T : Option Addr) (ct : Nat) (M : Option Addr) (cm : Nat) (b : Int) (w : World)
    (hf1 : fuel ≤ 9223372036854775807) (hf2 : -9223372036854775808 ≤ fuel) (hS : ∀ k, S k → k < w.heap.size) (hrm : Room b 0) (hF : Row eF 13 S w F fs) (hct : theta.length ≤ ct) (hT : Reads S w T theta) (hcm : m.a.length ≤ cm) (hM : Reads S w M m.a)
    (hm : mayB m = true → hB (b + fillU) m) (hmc : cnt m ≤ 1048576) :
    Calls Tryz.prog 15 #[.slice F fs.length cf, .int .i64 no, .slice T theta.length ct, .agg #[.int .i64 m.k, .int .i64 m.h, .slice M m.a.length cm], .int .i64 fuel] w (RetQ S (evalV fs fuel.toNat no theta m 0).1 w) := by
  have hb0 : Below w.heap.size w ((w.alloc (.cells #[.int .i64 m.k, .int .i64 m.h, .slice M m.a.length cm] 25)).alloc (.cells #[.int .i64 0, .int .i64 0, .slice none 0 0] 25)) := bl_alloc (bl_alloc (Below.refl _ _) _) _
  have e0 : Blk ((w.alloc (.cells #[.int .i64 m.k, .int .i64 m.h, .slice M m.a.length cm] 25)).alloc (.cells #[.int .i64 0, .int .i64 0, .slice none 0 0] 25)) w.heap.size #[.int .i64 m.k, .int .i64 m.h, .slice M m.a.length cm] 25 := (Blk.nw _ _ _ _ rfl).al _
  have e1 : Blk ((w.alloc (.cells #[.int .i64 m.k, .int .i64 m.h, .slice M m.a.length cm] 25)).alloc (.cells #[.int .i64 0, .int .i64 0, .slice none 0 0] 25)) (w.heap.size + 1) #[.int .i64 0, .int .i64 0, .slice none 0 0] 25 := Blk.nw _ _ _ _ (by simp)
  obtain ⟨W0, hW0⟩ : ∃ W0, ((w.alloc (.cells #[.int .i64 m.k, .int .i64 m.h, .slice M m.a.length cm] 25)).alloc (.cells #[.int .i64 0, .int .i64 0, .slice none 0 0] 25)) = W0 := ⟨_, rfl⟩
  have hz0 : W0.heap.size = w.heap.size + 2 := by rw [← hW0]; simp
  rw [hW0] at hb0 e0 e1
  have hb1 : Below w.heap.size w (W0.alloc (.cells #[.slice F fs.length cf, .int .i64 0] 72)) := bl_alloc hb0 _
  have hz1 : (W0.alloc (.cells #[.slice F fs.length cf, .int .i64 0] 72)).heap.size = w.heap.size + 3 := by rw [World.size_alloc, hz0]
  have ev : Blk (W0.alloc (.cells #[.slice F fs.length cf, .int .i64 0] 72)) (W0.heap.size) #[.slice F fs.length cf, .int .i64 0] 72 := Blk.nw _ _ _ _ rfl
  have x0 := e0.al (.cells #[.slice F fs.length cf, .int .i64 0] 72)
  have x1 := e1.al (.cells #[.slice F fs.length cf, .int .i64 0] 72)
  have hnS : ∀ q, q < w.heap.size → ¬ S q → ¬ (S q ∨ q = w.heap.size + 1 ∨ q = W0.heap.size) := fun q hq hn h => by
    rcases h with h | h | h
    · exact hn h
    · omega
    · omega
  have HE := Lib.hid (eval_calls fs hfs hfl fuel.toNat (fun q => S q ∨ q = w.heap.size + 1 ∨ q = W0.heap.size) F cf W0.heap.size fuel no theta m T ct M cm 0 b _ rfl hf1 hf2 (.inr (.inr rfl)) (fun q h => by rcases h with h | h | h; (have := hS q h; omega); omega; omega) hrm ev
    (hF.step lasts_F (by decide) hnS (fun q hq _ => hb1.block q hq)) hct (hT.step hnS (fun q hq _ => hb1.block q hq)) hcm (hM.step hnS (fun q hq _ => hb1.block q hq)) hm hmc)
  have HB1 := Lib.hid hb1
  have X1 := Lib.hid x1
  have q0 := x0.cell 0
  have q1 := x0.cell 1
  have q2 := x0.cell 2
  have l0 := x0.lt
  have HZ0 := Lib.hid hz0
  obtain ⟨rv, hrv⟩ : ∃ rv, evalV fs fuel.toNat no theta m 0 = rv := ⟨_, rfl⟩
  rw [hrv] at HE
  rw [hrv]
  clear hrv hb0 e0 e1 hz0 hb1 hz1 ev x0 x1 hnS hS hrm hF hct hT hcm hM hm hmc hfs hfl hf1 hf2
  go_enter Tryz.func15, Tryz.ntmps15
  go_upto_region 1 with fail
  clear hW0
  go_wp2_with (go_at_call 35; refine HE.out.mono ?_; clear HE; rintro e w3 q; obtain ⟨hg3, -, k, h, B3, n3, c3, x, rfl, hrc⟩ := q.open; clear q; have z := X1.out.grown hg3 (fun e => by have := Option.some.inj e; have := HZ0.out; omega); have z0 := z.cell 0; have z1 := z.cell 1; have z2 := z.cell 2; have y0 := z.frozen 0; have y1 := z.frozen 1; have y2 := z.frozen 2; have lz := z.lt; have HZ := Lib.hid z; clear z)
  refine bodyPost_ret (res_tm rfl _ _ _ _ _ _ rfl (HZ.out.set3 (.int .i64 k) (.int .i64 h) (.slice B3 n3 c3))) rfl ?_
  exact ((hrc.set3 (.inr (.inl rfl)) _ _ _).less (fun k q => .inl q)).close (bl_set3 (below_of_grown HB1.out hg3 (by have := HZ0.out; omega)) (Nat.le_succ _))
end Go.Proofs.YtbmmdfehhhgkcaaGreat
namespace Go.Proofs.YtbmmdfehhhgkcaaGreat
open Go.RowKit Go.Shelf
set_option linter.unusedVariables false
set_option linter.unusedSimpArgs false

def twoT : Tm := ⟨5, 2, [⟨5, 2, [⟨5, 1, []⟩]⟩]⟩
set_option maxHeartbeats 4000000 in
theorem two_calls (w : World) : Calls Tryz.prog 28 #[] w (RetU (fun _ => False) twoT w) := by
  go_enter Tryz.func28, Tryz.ntmps28
  go_wp2_with fail
  have b0 := ((((Blk.nw w #[.int .i64 5, .int .i64 2, .slice (some ⟨w.heap.size + 1 + 1 + 1 + 1, 0, none⟩) 1 1] 25 w.heap.size rfl).al (.cells #[.int .i64 5, .int .i64 1, .slice none 0 0] 25)).al (.cells #[.int .i64 5, .int .i64 1, .slice none 0 0] 25)).al
    (.cells #[.int .i64 5, .int .i64 2, .slice (some ⟨w.heap.size + 1 + 1, 0, none⟩) 1 1] 25)).al (.cells #[.int .i64 5, .int .i64 2, .slice (some ⟨w.heap.size + 1 + 1, 0, none⟩) 1 1] 25)
  have hb : Below w.heap.size w (((((w.alloc (.cells #[.int .i64 5, .int .i64 2, .slice (some ⟨w.heap.size + 1 + 1 + 1 + 1, 0, none⟩) 1 1] 25)).alloc (.cells #[.int .i64 5, .int .i64 1, .slice none 0 0] 25)).alloc (.cells #[.int .i64 5, .int .i64 1, .slice none 0 0] 25)).alloc
    (.cells #[.int .i64 5, .int .i64 2, .slice (some ⟨w.heap.size + 1 + 1, 0, none⟩) 1 1] 25)).alloc (.cells #[.int .i64 5, .int .i64 2, .slice (some ⟨w.heap.size + 1 + 1, 0, none⟩) 1 1] 25)) := bl_alloc (bl_alloc (bl_alloc (bl_alloc (bl_alloc (Below.refl _ _) _) _) _) _) _
  have b2 := ((Blk.nw ((w.alloc (.cells #[.int .i64 5, .int .i64 2, .slice (some ⟨w.heap.size + 1 + 1 + 1 + 1, 0, none⟩) 1 1] 25)).alloc (.cells #[.int .i64 5, .int .i64 1, .slice none 0 0] 25)) #[.int .i64 5, .int .i64 1, .slice none 0 0] 25 (w.heap.size + 1 + 1) (by simp)).al
    (.cells #[.int .i64 5, .int .i64 2, .slice (some ⟨w.heap.size + 1 + 1, 0, none⟩) 1 1] 25)).al (.cells #[.int .i64 5, .int .i64 2, .slice (some ⟨w.heap.size + 1 + 1, 0, none⟩) 1 1] 25)
  have b4 := Blk.nw ((((w.alloc (.cells #[.int .i64 5, .int .i64 2, .slice (some ⟨w.heap.size + 1 + 1 + 1 + 1, 0, none⟩) 1 1] 25)).alloc (.cells #[.int .i64 5, .int .i64 1, .slice none 0 0] 25)).alloc (.cells #[.int .i64 5, .int .i64 1, .slice none 0 0] 25)).alloc
    (.cells #[.int .i64 5, .int .i64 2, .slice (some ⟨w.heap.size + 1 + 1, 0, none⟩) 1 1] 25)) #[.int .i64 5, .int .i64 2, .slice (some ⟨w.heap.size + 1 + 1, 0, none⟩) 1 1] 25 (w.heap.size + 1 + 1 + 1 + 1) (by simp)
  exact bodyPost_ret (res_tm1 rfl _ _ _ _ _ _ rfl b0) rfl ⟨hb, _, 1, rfl, Nat.le_refl _, reads_new (t := ⟨5, 2, [⟨5, 1, []⟩]⟩) b4 (fun h => h) (reads_new (t := ⟨5, 1, []⟩) b2 (fun h => h) (.nil _) (Nat.le_refl _)) (Nat.le_refl _)⟩
end Go.Proofs.YtbmmdfehhhgkcaaGreat
namespace Go.Proofs.YtbmmdfehhhgkcaaGreat
open Go.RowKit Go.Shelf
set_option linter.unusedVariables false
set_option linter.unusedSimpArgs false

abbrev zC : Tm := ⟨5, 1, []⟩
abbrev oC : Tm := ⟨5, 2, [zC]⟩
abbrev tC : Tm := ⟨5, 2, [oC]⟩
theorem may_p : mayB (⟨5, 2, [⟨6, 0, []⟩]⟩ : Tm) = true := by rw [mayB_eq]; simp [depthW, depthL, sizeR, sizeRL, nodesOk, nodesOkL, mayN, wrap64, mx]
theorem may_z : mayB zC = true := by rw [mayB_eq]; simp [depthW, depthL, sizeR, sizeRL, nodesOk, nodesOkL, mayN, wrap64, mx]
theorem may_o : mayB oC = true := by rw [mayB_eq]; simp [depthW, depthL, sizeR, sizeRL, nodesOk, nodesOkL, mayN, wrap64, mx]
theorem may_t : mayB tC = true := by rw [mayB_eq]; simp [depthW, depthL, sizeR, sizeRL, nodesOk, nodesOkL, mayN, wrap64, mx]
theorem m_zz : MatchV [] [] zC zC 0 [] = .ok [] := by
  unfold MatchV
  rw [may_z]
  simp [oddBd, nodeF, nodeL, metaF, lastN, isB]
theorem m_zo : MatchV [] [] zC oC 0 [] = .error 6 := by
  unfold MatchV
  rw [may_z, may_o]
  simp [oddBd, nodeF, nodeL, metaF, lastN, isB]
theorem m_zt : MatchV [] [] zC tC 0 [] = .error 6 := by
  unfold MatchV
  rw [may_z, may_t]
  simp [oddBd, nodeF, nodeL, metaF, lastN, isB]
theorem m_sz : MatchV [false] [] ⟨5, 2, [⟨6, 0, []⟩]⟩ zC 0 [⟨false, ⟨0, 0, []⟩⟩] = .error 6 := by
  unfold MatchV
  rw [may_p, may_z]
  simp [oddBd, nodeF, nodeL, metaF, lastN, isB]
theorem m_so : MatchV [false] [] ⟨5, 2, [⟨6, 0, []⟩]⟩ oC 0 [⟨false, ⟨0, 0, []⟩⟩] = .ok [⟨true, zC⟩] := by
  unfold MatchV
  rw [may_p, may_o]
  have hm := may_z
  simp [oddBd, nodeF, nodeL, metaF, lastN, isB, patV, patGo, invV, hm, mayV_nil, renW, renL, headR, boolAt]
theorem m_st : MatchV [false] [] ⟨5, 2, [⟨6, 0, []⟩]⟩ tC 0 [⟨false, ⟨0, 0, []⟩⟩] = .ok [⟨true, oC⟩] := by
  unfold MatchV
  rw [may_p, may_t]
  have hm := may_o
  simp [oddBd, nodeF, nodeL, metaF, lastN, isB, patV, patGo, invV, hm, mayV_nil, renW, renL, headR, boolAt]

theorem ev_z {n : Nat} (hn : n + 1 ≤ 40000) (x : Su) : Ev (.app n zC x) (.one zC (n + 1)) := .node hn .nil (by decide)
theorem ev_s {n m : Nat} (hn : n + 1 ≤ 40000) {t : Tm} {x : Su} (h : Ev (.app (n + 1) t x) (.one t m)) : Ev (.app n ⟨5, 2, [t]⟩ x) (.one ⟨5, 2, [t]⟩ m) :=
  .node hn (.cons (by simpa [isB] using h) .nil) (by decide)
theorem find_z : findV dblF [] zC = .ok (dbl0, []) := by
  unfold findV
  simp [dblF, dbl0, dbl1, zT, uT, natT, fitsV, fitV, paramsV, bd0, m_zz, m_sz, findL, AllV, sizesV, eachX, sameL, toldV, List.replicate]
theorem find_o : findV dblF [] oC = .ok (dbl1, [zC]) := by
  unfold findV
  simp [dblF, dbl0, dbl1, zT, uT, natT, fitsV, fitV, paramsV, bd0, m_zo, m_so, findL, AllV, sizesV, eachX, sameL, toldV, toldT, List.replicate]
theorem find_t : findV dblF [] tC = .ok (dbl1, [oC]) := by
  unfold findV
  simp [dblF, dbl0, dbl1, zT, uT, natT, fitsV, fitV, paramsV, bd0, m_zt, m_st, findL, AllV, sizesV, eachX, sameL, toldV, toldT, List.replicate]
theorem su_nil : maySu ⟨[], 0⟩ = true := by simp [maySu]
theorem ap_z : apF zC ⟨[], 0⟩ = .ok zC := apF_of (.ok (by rw [may_z, su_nil]; rfl) (ev_z (by decide) _) may_z)
theorem ap_o : apF oC ⟨[], 0⟩ = .ok oC := apF_of (.ok (by rw [may_o, su_nil]; rfl) (ev_s (by decide) (ev_z (by decide) _)) may_o)
theorem ap_ss : apF (ssT zC) ⟨[], 0⟩ = .ok (ssT zC) := apF_of (.ok (by rw [show mayB (ssT zC) = true from may_t, su_nil]; rfl) (ev_s (by decide) (ev_s (by decide) (ev_z (by decide) _))) may_t)
theorem may_u : mayB uT = true := by rw [mayB_eq]; simp [uT, depthW, depthL, sizeR, sizeRL, nodesOk, nodesOkL, mayN, wrap64, mx]
theorem may_r : mayB (ssT ⟨6, 1, []⟩) = true := by rw [mayB_eq]; simp [ssT, depthW, depthL, sizeR, sizeRL, nodesOk, nodesOkL, mayN, wrap64, mx]
theorem may_4 : mayB (ssT (ssT zC)) = true := by rw [mayB_eq]; simp [ssT, depthW, depthL, sizeR, sizeRL, nodesOk, nodesOkL, mayN, wrap64, mx]
theorem fill_u {t : Tm} (ht : mayB t = true) (ha : apF t ⟨[], 0⟩ = .ok t) : FillV [t] uT 0 = .ok t := by
  unfold FillV
  rw [may_u]
  simp [uT, fillF, fillL, ht, ha]
theorem fill_z : FillV [] zC 0 = .ok zC := by
  unfold FillV
  rw [may_z]
  simp [fillF, fillL, may_z]
theorem fill_r {t u : Tm} (ht : mayB t = true) (hu : mayB u = true) (ha : apF u ⟨[], 0⟩ = .ok u) (hs : mayB (ssT u) = true) : FillV [t, u] (ssT ⟨6, 1, []⟩) 0 = .ok (ssT u) := by
  unfold FillV
  rw [may_r]
  have hs' := hs
  unfold ssT at hs'
  simp [ssT, fillF, fillL, ht, hu, ha, lastN, isB, hs']
theorem call_u {ev : Int → List Tm → Tm → Int → Except Int Tm × Int} {t : Tm} (ht : mayB t = true) (ha : apF t ⟨[], 0⟩ = .ok t) (s : Int) : callV [dblF] ev ⟨0, [], [], uT⟩ [t] s = ev 0 [] t s := by
  have h1 : AllV [] [t] ((sizesV dblF.del).map fun n => wrap64 (n + ((([] : List Md).length : Nat) : Int))) = .ok [] := by simp [dblF, sizesV, AllV, eachX]
  have h2 : FillV [t] uT (wrap64 (((([] : List Md).length : Nat) : Int) + (dblF.psi.length : Int))) = .ok t := by
    rw [show wrap64 (((([] : List Md).length : Nat) : Int) + (dblF.psi.length : Int)) = 0 from by simp [dblF, wrap64]]
    exact fill_u ht ha
  unfold callV
  simp only [List.length_cons, List.length_nil, Int.toNat_zero, List.getElem?_cons_zero]
  rw [if_neg (by decide)]
  simp only [List.length_nil] at h1 h2
  rw [h1]
  dsimp only
  rw [h2]
theorem eval_z (k : Nat) (s : Int) (hs : s < 2000) : evalV [dblF] (k + 1) 0 [] zC s = (.ok zC, s + 1) := by
  rw [evalV, if_neg (by decide), if_neg (by omega)]
  simp only [Int.toNat_zero, List.getElem?_cons_zero, find_z]
  rw [show dbl0.cs = [] from rfl, callsV]
  dsimp only
  rw [show dbl0.r = zC from rfl, show (dblF.phi.length : Int) = 0 from rfl, fill_z]
theorem eval_0 (t : Tm) (s : Int) : evalV [dblF] 0 0 [] t s = (.error 12, s) := by
  rw [evalV, if_neg (by decide)]
theorem eval_s {k : Nat} {t u : Tm} {s s' : Int} (hs : s < 2000) (hf : findV dblF [] ⟨5, 2, [t]⟩ = .ok (dbl1, [t])) (ht : mayB t = true) (hat : apF t ⟨[], 0⟩ = .ok t) (he : evalV [dblF] k 0 [] t (s + 1) = (.ok u, s')) (hu : mayB u = true) (hau : apF u ⟨[], 0⟩ = .ok u) (hsu : mayB (ssT u) = true) :
    evalV [dblF] (k + 1) 0 [] ⟨5, 2, [t]⟩ s = (.ok (ssT u), s') := by
  rw [evalV, if_neg (by decide), if_neg (by omega)]
  simp only [Int.toNat_zero, List.getElem?_cons_zero, hf]
  rw [show dbl1.cs = [⟨0, [], [], uT⟩] from rfl, callsV, call_u ht hat, he]
  dsimp only
  rw [callsV]
  dsimp only [List.cons_append, List.nil_append]
  rw [show dbl1.r = ssT ⟨6, 1, []⟩ from rfl, show (dblF.phi.length : Int) = 0 from rfl, fill_r ht hu hau hsu]
theorem eval_sE {k : Nat} {t : Tm} {s s' : Int} {e : Int} (hs : s < 2000) (hf : findV dblF [] ⟨5, 2, [t]⟩ = .ok (dbl1, [t])) (ht : mayB t = true) (hat : apF t ⟨[], 0⟩ = .ok t) (he : evalV [dblF] k 0 [] t (s + 1) = (.error e, s')) :
    evalV [dblF] (k + 1) 0 [] ⟨5, 2, [t]⟩ s = (.error e, s') := by
  rw [evalV, if_neg (by decide), if_neg (by omega)]
  simp only [Int.toNat_zero, List.getElem?_cons_zero, hf]
  rw [show dbl1.cs = [⟨0, [], [], uT⟩] from rfl, callsV, call_u ht hat, he]
/-- Doubling two comes to four by three steps. -/
theorem eval_ex1 : evalV [dblF] 3 0 [] twoT 0 = (.ok (ssT (ssT zC)), 3) :=
  eval_s (t := oC) (u := ssT zC) (by decide) find_t may_o ap_o (eval_s (t := zC) (u := zC) (by decide) find_o may_z ap_z (eval_z 0 2 (by decide)) may_z ap_z may_t) may_t ap_ss may_4
/-- Two steps do not suffice. -/
theorem eval_ex2 : evalV [dblF] 2 0 [] twoT 0 = (.error 12, 2) :=
  eval_sE (t := oC) (by decide) find_t may_o ap_o (eval_sE (t := zC) (by decide) find_o may_z ap_z (eval_0 zC 2))
end Go.Proofs.YtbmmdfehhhgkcaaGreat
namespace Go.Proofs.YtbmmdfehhhgkcaaGreat
open Go.RowKit Go.Shelf
set_option linter.unusedVariables false
set_option linter.unusedSimpArgs false

theorem dbl_ok : FusOk [dblF] := by
  intro f hf
  obtain rfl := List.mem_singleton.1 hf
  refine ⟨by decide, by decide, by decide, fun x hx => absurd hx (by simp [dblF]), fun c hc => ?_, fun c hc t ht => ?_, fun c hc => ?_, fun c hc => ?_, fun c hc x hx => ?_⟩
  all_goals
    simp only [dblF, List.mem_cons, List.not_mem_nil, or_false] at hc
    rcases hc with rfl | rfl
  all_goals first
    | (simp [dbl0, dbl1] at ht; done)
    | (simp [dbl0] at hx; done)
    | skip
  all_goals try simp [dbl0, dbl1, zT, uT, natT, ssT, hB, hBL, okT, okL, cnt, cntL, mayN, bindB]
  obtain rfl := List.mem_singleton.1 (show x ∈ [(⟨0, [], [], uT⟩ : Cl)] from hx)
  simp [uT, hB, hBL, cnt, cntL, mayN, bindB]
theorem room_0 : Room 1099511627776 0 := ⟨by decide, by decide, by decide, by decide⟩
theorem two_b : hB (1099511627776 + fillU) twoT := by simp [twoT, hB, hBL, mayN, fillU, bindB]
theorem two_c : cnt twoT ≤ 1048576 := by simp [twoT, cnt, cntL]
theorem four_n : wrap64 ((nodesW (ssT (ssT zC)) 0).length : Int) = 5 := by simp [ssT, nodesW, nodesL, wrap64, isB]

set_option maxRecDepth 100000 in
set_option maxHeartbeats 8000000 in
theorem awake21_calls (w : World) : Calls Tryz.prog 10 #[] w fun e w' => e = .returned (.bool true) ∧ Below w.heap.size w w' := by
  go_enter Tryz.func10, Tryz.ntmps10
  go_wp2_with fail
  refine (Double_calls _).mono ?_
  rintro e w1 ⟨hb1, cs, rfl, hE⟩
  have hE0 := hE
  obtain ⟨A, a, B, b, C, c, D, d, E, e', F, f, G, g, rfl, -⟩ := hE
  have hR0 : ∀ W, Below w1.heap.size w1 W → ∀ gb, Blk W gb #[.string dblF.nm, .slice A dblF.sch.length a, .slice B dblF.del.length b, .slice C dblF.psi.length c, .int .i64 dblF.a.k, .int .i64 dblF.a.h, .slice D dblF.a.a.length d, .slice E dblF.phi.length e', .int .i64 dblF.b.k, .int .i64 dblF.b.h, .slice F dblF.b.a.length f, .bool dblF.tot, .slice G dblF.cl.length g] 39 → Row eF 13 (fun _ => False) W (some ⟨gb, 0, none⟩) [dblF] := fun W hb gb hg => row_one (E := eF) (x := dblF) hg rfl (lasts_F.mov hE0 hb)
  have hb2 : Below w1.heap.size w1 (w1.alloc (.cells #[.string dblF.nm, .slice A dblF.sch.length a, .slice B dblF.del.length b, .slice C dblF.psi.length c, .int .i64 dblF.a.k, .int .i64 dblF.a.h, .slice D dblF.a.a.length d, .slice E dblF.phi.length e', .int .i64 dblF.b.k, .int .i64 dblF.b.h, .slice F dblF.b.a.length f, .bool dblF.tot, .slice G dblF.cl.length g] 39)) := bl_alloc (Below.refl _ _) _
  have hR := hR0 _ hb2 w1.heap.size (Blk.nw _ _ _ _ rfl)
  obtain ⟨W2, hW2⟩ : ∃ W2, (w1.alloc (.cells #[.string dblF.nm, .slice A dblF.sch.length a, .slice B dblF.del.length b, .slice C dblF.psi.length c, .int .i64 dblF.a.k, .int .i64 dblF.a.h, .slice D dblF.a.a.length d, .slice E dblF.phi.length e', .int .i64 dblF.b.k, .int .i64 dblF.b.h, .slice F dblF.b.a.length f, .bool dblF.tot, .slice G dblF.cl.length g] 39)) = W2 := ⟨_, rfl⟩
  have HEV : Hid (∀ (fuel : Int) (rv : Except Int Tm × Int), -9223372036854775808 ≤ fuel → fuel ≤ 9223372036854775807 → evalV [dblF] fuel.toNat 0 [] twoT 0 = rv → ∀ W, Below W2.heap.size W2 W → ∀ M cm, twoT.a.length ≤ cm → Reads (fun _ => False) W M twoT.a →
      Calls Tryz.prog 15 #[.slice (some ⟨w1.heap.size, 0, none⟩) 1 1, .int .i64 0, .slice none 0 0, .agg #[.int .i64 twoT.k, .int .i64 twoT.h, .slice M twoT.a.length cm], .int .i64 fuel] W (RetQ (fun _ => False) rv.1 W)) := Lib.hid (fun fuel rv h1 h2 hrv W hb M cm hcm hM => by
    rw [hW2] at hR
    rw [← hrv]
    exact Eval_calls [dblF] dbl_ok (by decide) (fun _ => False) (some ⟨w1.heap.size, 0, none⟩) 1 0 fuel [] twoT none 0 M cm 1099511627776 W h2 h1 (fun _ q => q.elim) room_0 (hR.step lasts_F (by decide) (fun _ _ _ q => q) (fun q hq _ => hb.block q hq)) (Nat.le_refl _) (.nil _) hcm hM (fun _ => two_b) two_c)
  have HB2 : Hid (Below w.heap.size w W2) := Lib.hid (bl_then hb1 (hW2 ▸ hb2))
  clear hE0 hR0 hR hb2 hb1
  dsimp only
  go_wp2_with fail
  clear hW2
  refine (two_calls _).mono ?_
  rintro e w3 ⟨hb3, M3, c3, rfl, hc3, hr3⟩
  dsimp only
  go_wp2_with fail
  refine (HEV.out 3 _ (by decide) (by decide) eval_ex1 _ hb3 M3 c3 hc3 hr3).mono ?_
  have hn := four_n
  generalize ssT (ssT zC) = u4 at *
  rintro e w4 ⟨hb4, (⟨y2, hyf, hy0, rfl⟩ | ⟨us, B4, c4, hyf, rfl, hc4, hr4⟩)⟩
  · cases hyf
  obtain rfl := Except.ok.inj hyf
  have e4 := Blk.nw w4 #[.int .i64 u4.k, .int .i64 u4.h, .slice B4 u4.a.length c4] 25 _ rfl
  dsimp only
  go_wp2_with fail
  refine (two_calls _).mono ?_
  rintro e w5 ⟨hb5, M5, c5, rfl, hc5, hr5⟩
  have hb45 : Below w4.heap.size w4 w5 := bl_then (bl_alloc (Below.refl _ _) _) hb5
  have e5 := e4.mov hb5
  dsimp only
  go_wp2_with fail
  refine (HEV.out 2 _ (by decide) (by decide) eval_ex2 _ (bl_then (bl_then hb3 hb4) hb45) M5 c5 hc5 hr5).mono ?_
  rintro e w6 ⟨hb6, (⟨y2, hyf, hy0, rfl⟩ | ⟨us, B6, c6, hyf, rfl, hc6, hr6⟩)⟩
  rotate_left
  · cases hyf
  obtain rfl := Except.error.inj hyf
  have e6 := e5.mov hb6
  have z0 := e6.cell 0
  have z1 := e6.cell 1
  have z2 := e6.cell 2
  have l6 := e6.lt
  have hb46 := bl_then hb45 hb6
  dsimp only [zeroTm]
  have HSZ := Lib.hid (fun (W : World) (hb : Below w4.heap.size w4 W) => size_calls u4 B4 c4 W (hr4.mov hb) hc4)
  rw [hn] at HSZ
  have H46 := Lib.hid (And.intro hb3 (And.intro hb4 hb46))
  clear hb3 hb4 hb5 hb6 hb45 hb46 e4 e5 e6 hr3 hr4 hr5 hc3 hc4 hc5 HEV
  go_wp2_with fail
  refine (HSZ.out _ (bl_alloc H46.out.2.2 _)).mono ?_
  rintro e w7 ⟨rfl, hb7⟩
  have hbz := bl_then HB2.out (bl_then H46.out.1 (bl_then H46.out.2.1 (bl_then (bl_alloc H46.out.2.2 _) hb7)))
  have HBZ := Lib.hid hbz
  clear hbz
  dsimp only
  go_wp2_with fail
  go_ret
  exact ⟨rfl, HBZ.out⟩
end Go.Proofs.YtbmmdfehhhgkcaaGreat
namespace Go.Proofs.YtbmmdfehhhgkcaaGreat
open Go.RowKit Go.Shelf
set_option linter.unusedVariables false
set_option linter.unusedSimpArgs false

theorem cntL_in : ∀ {l : List Tm} {t : Tm}, t ∈ l → cnt t ≤ cntL l
  | x :: l, t, h => by
    rw [cntL]
    rcases List.mem_cons.1 h with rfl | h
    · omega
    · have := cntL_in h; omega
theorem len_in : ∀ (l : List Tm), l.length ≤ cntL l
  | [] => Nat.le_refl _
  | ⟨k, h, a⟩ :: l => by
    have := len_in l
    rw [cntL, cnt, List.length_cons]
    omega
theorem lights_in {l : List Tm} {s d : Int} (h : lightsB l s d = true) {t : Tm} (ht : t ∈ l) : lightB t s d = true := by
  unfold lightsB at h
  simp only [Bool.and_eq_true] at h
  exact List.all_eq_true.1 h.2 t ht
theorem lights_len {l : List Tm} {s d : Int} (h : lightsB l s d = true) : l.length ≤ 60 := by
  unfold lightsB at h
  simp only [Bool.and_eq_true, decide_eq_true_eq] at h
  exact h.1
theorem fu_ok {f : Fu} (g : gF 1048576 f) (h : funB f = true) : FuOk f := by
  obtain ⟨g1, ⟨g2, g3⟩, g4, g5, g6, g7, g8, g9⟩ := g
  unfold funB at h
  simp only [Bool.and_eq_true, decide_eq_true_eq] at h
  obtain ⟨h1, h2, h3, h4, h5, h6, h7, h8⟩ := h
  have hcl : ∀ c ∈ f.cl, gK 1048576 c ∧ clauseB c = true := fun c hc => ⟨g8 c hc, List.all_eq_true.1 h8 c hc⟩
  have lt : ∀ {t : Tm}, cnt t ≤ 1048576 → lightB t 300 60 = true → (mayB t = true → hB 1099511627776 t) ∧ cnt t ≤ 300 := fun h1 h2 => ⟨light_hB h2, by have := light_cnt h1 h2; omega⟩
  refine ⟨by have := lights_len h3; omega, by have := lights_len h4; omega, g3, fun x hx => ?_, fun c hc => ?_, fun c hc t ht => ?_, fun c hc => ?_, fun c hc => ?_, fun c hc x hx => ?_⟩
  · have := (g2 x hx).1.2
    have := len_in x.ctx
    omega
  all_goals
    obtain ⟨⟨k1, k1'⟩, k2, k3, ⟨k4, k4'⟩, k5⟩ := (hcl c hc).1
    have hc2 := (hcl c hc).2
    unfold clauseB at hc2
    simp only [Bool.and_eq_true, decide_eq_true_eq] at hc2
    obtain ⟨m1, m2, m3, m4, m5, m6⟩ := hc2
  · exact ⟨⟨(lt k3.2 m3).1, k3.1, k3.2⟩, k1'⟩
  · have e := cntL_in ht
    have := lt (t := t) (by have := k2.2; omega) (lights_in m2 ht)
    exact ⟨this.1, by omega⟩
  · exact k4'
  · exact lt k5.2 m4
  · obtain ⟨q1, q2, q3, q4⟩ := k4 x hx
    have hx2 := List.all_eq_true.1 m6 x hx
    unfold callB at hx2
    simp only [Bool.and_eq_true] at hx2
    obtain ⟨n1, n2, n3⟩ := hx2
    refine ⟨⟨fun t ht => ?_, lt q4.2 n3⟩, by have := lights_len n1; omega, q1⟩
    have e := cntL_in ht
    have := lt (t := t) (by have := q3.2; omega) (lights_in n2 ht)
    exact ⟨this.1, by omega⟩
theorem fus_ok {fs : List Fu} (g : ∀ f ∈ fs, gF 1048576 f) (h : funsB fs = true) : FusOk fs ∧ fs.length ≤ 20 := by
  unfold funsB at h
  simp only [Bool.and_eq_true, decide_eq_true_eq] at h
  exact ⟨fun f hf => fu_ok (g f hf) (List.all_eq_true.1 h.2 f hf), h.1⟩
end Go.Proofs.YtbmmdfehhhgkcaaGreat
