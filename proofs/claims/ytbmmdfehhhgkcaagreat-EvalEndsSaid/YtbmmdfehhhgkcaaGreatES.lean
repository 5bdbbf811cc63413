/- The law EvalEnds. -/
import Derived.Test.YtbmmdfehhhgkcaaGreatE7
namespace Go.Proofs.YtbmmdfehhhgkcaaGreat
open Go.RowKit Go.Shelf
set_option linter.unusedVariables false
set_option linter.unusedSimpArgs false

def selfX : Cl := ⟨0, [], [], uT⟩
def endC (l : List Cl) : Cs := ⟨[⟨[], natT, false⟩], [], uT, l, uT⟩
def endF (l : List Cl) : Fu := ⟨⟨#[]⟩, [], [], [], natT, [], natT, false, [endC l]⟩
theorem m_ut : MatchV [false] [] uT tC 0 [⟨false, ⟨0, 0, []⟩⟩] = .ok [⟨true, tC⟩] := by
  unfold MatchV
  rw [may_u, may_t]
  have hm := may_t
  simp [uT, oddBd, nodeF, nodeL, metaF, lastN, isB, patV, patGo, invV, hm, mayV_nil, renW, renL, headR, boolAt]
theorem ap_t : apF tC ⟨[], 0⟩ = .ok tC := apF_of (.ok (by rw [may_t, su_nil]; rfl) (ev_s (by decide) (ev_s (by decide) (ev_z (by decide) _))) may_t)
theorem find_e (l : List Cl) : findV (endF l) [] tC = .ok (endC l, [tC]) := by
  unfold findV
  simp [endF, endC, natT, fitsV, fitV, paramsV, bd0, m_ut, findL, AllV, sizesV, eachX, sameL, toldV, toldT, List.replicate]
theorem call_e (l : List Cl) {ev : Int → List Tm → Tm → Int → Except Int Tm × Int} (s : Int) : callV [endF l] ev selfX [tC] s = ev 0 [] tC s := by
  have h1 : AllV [] [tC] ((sizesV (endF l).del).map fun n => wrap64 (n + ((([] : List Md).length : Nat) : Int))) = .ok [] := by simp [endF, sizesV, AllV, eachX]
  have h2 : FillV [tC] uT (wrap64 (((([] : List Md).length : Nat) : Int) + ((endF l).psi.length : Int))) = .ok tC := by
    rw [show wrap64 (((([] : List Md).length : Nat) : Int) + ((endF l).psi.length : Int)) = 0 from by simp [endF, wrap64]]
    exact fill_u may_t ap_t
  unfold callV selfX
  simp only [List.length_cons, List.length_nil, Int.toNat_zero, List.getElem?_cons_zero]
  rw [if_neg (by decide)]
  simp only [List.length_nil] at h1 h2
  rw [h1]
  dsimp only
  rw [h2]
theorem eval_end (l : List Cl) : ∀ (k : Nat) (s : Int), s ≤ 2000 → ∃ s', evalV [endF (selfX :: l)] k 0 [] tC s = (.error (if s + k ≤ 2000 then 12 else 4), s')
  | 0, s, hs => ⟨s, by rw [evalV, if_neg (by simp), if_pos (by omega)]⟩
  | k + 1, s, hs => by
    by_cases h : s = 2000
    · exact ⟨s + 1, by rw [evalV, if_neg (by simp), if_pos (by omega), if_neg (by omega)]⟩
    · obtain ⟨s', ih⟩ := eval_end l k (s + 1) (by omega)
      refine ⟨s', ?_⟩
      rw [evalV, if_neg (by simp), if_neg (by omega)]
      simp only [Int.toNat_zero, List.getElem?_cons_zero, find_e]
      rw [show (endC (selfX :: l)).cs = selfX :: l from rfl, callsV, call_e, ih]
      dsimp only
      rw [show s + 1 + (k : Int) = s + ((k + 1 : Nat) : Int) from by omega]
theorem end_ok (l : List Cl) (hn : l.length ≤ 10) (hl : ∀ x ∈ l, x = selfX) : FusOk [endF (selfX :: l)] := by
  intro f hf
  obtain rfl := List.mem_singleton.1 hf
  refine ⟨by simp [endF], by simp [endF], by simp [endF], fun x hx => absurd hx (by simp [endF]), fun c hc => ?_, fun c hc t ht => ?_, fun c hc => ?_, fun c hc => ?_, fun c hc x hx => ?_⟩
  all_goals
    simp only [endF, List.mem_cons, List.not_mem_nil, or_false] at hc
    obtain rfl := hc
  all_goals first
    | (simp [endC] at ht; done)
    | skip
  all_goals try simp [endC, uT, natT, hB, hBL, okT, okL, cnt, cntL, mayN, bindB]
  · omega
  · obtain rfl : x = selfX := by
      rcases List.mem_cons.1 (show x ∈ selfX :: l from hx) with h | h
      · exact h
      · exact hl _ h
    simp [selfX, uT, hB, hBL, cnt, cntL, mayN, bindB]

/-- A row of one function, out of what its clause is. -/
theorem end_row {W : World} {gK gF : Nat} {l : List Cl} {Pm : Option Addr} {pm : Nat} {Pc : Option Addr} {pc : Nat} (hK : Blk W gK #[.slice Pm 1 pm, .slice none 0 0, .int .i64 6, .int .i64 0, .slice none 0 0, .slice Pc l.length pc, .int .i64 6, .int .i64 0, .slice none 0 0] 42)
    (hF : Blk W gF #[.string ⟨#[]⟩, .slice none 0 0, .slice none 0 0, .slice none 0 0, .int .i64 2, .int .i64 0, .slice none 0 0, .slice none 0 0, .int .i64 2, .int .i64 0, .slice none 0 0, .bool false, .slice (some ⟨gK, 0, none⟩) 1 1] 39) (hpm : 1 ≤ pm) (hm : Row eM 5 (fun _ => False) W Pm [⟨[], natT, false⟩]) (hpc : l.length ≤ pc) (hc : Row eC 6 (fun _ => False) W Pc l) : Row eF 13 (fun _ => False) W (some ⟨gF, 0, none⟩) [endF l] :=
  row_one (E := eF) (x := endF l) hF rfl ⟨none, 0, none, 0, none, 0, none, 0, none, 0, none, 0, _, 1, rfl, ⟨Nat.le_refl _, .nil _⟩, ⟨Nat.le_refl _, .nil _⟩, ⟨Nat.le_refl _, .nil _⟩, ⟨Nat.le_refl _, .nil _⟩, ⟨Nat.le_refl _, .nil _⟩, ⟨Nat.le_refl _, .nil _⟩, ⟨Nat.le_refl _,
    row_one (E := eK) (x := endC l) hK rfl ⟨_, pm, none, 0, none, 0, _, pc, none, 0, rfl, ⟨hpm, hm⟩, ⟨Nat.le_refl _, .nil _⟩, ⟨Nat.le_refl _, .nil _⟩, ⟨hpc, hc⟩, ⟨Nat.le_refl _, .nil _⟩⟩⟩⟩
theorem row_pre2 {α : Type} {E : (Nat → Prop) → World → List Value → α → Prop} {W : World} {g sz : Nat} {cs : Array Value} {t : TypeId} {x y : α} {us bs rs : List Value} (h : Blk W g cs t) (hc : cs.toList = us ++ (bs ++ rs)) (ha : us.length = sz) (hb : bs.length = sz) (hx : E (fun _ => False) W us x) (hy : E (fun _ => False) W bs y) : Row E sz (fun _ => False) W (some ⟨g, 0, none⟩) [x, y] :=
  ⟨by simp [lim], fun i hi => by
    have hget : ∀ j, W.cell? ⟨g, j, none⟩ = (us ++ (bs ++ rs))[j]? := fun j => by rw [h.cell, ← hc]; simp
    have : i = 0 ∨ i = 1 := by simp at hi; omega
    rcases this with rfl | rfl
    · exact ⟨⟨g, 0, none⟩, us, rfl, rfl, fun q => q, ha, fun j u hu => by
        have hj : j < us.length := (List.getElem?_eq_some_iff.1 hu).1
        rw [Nat.zero_mul, Nat.zero_add, Nat.zero_add, hget, List.getElem?_append_left hj]; exact hu, hx⟩
    · exact ⟨⟨g, 0, none⟩, bs, rfl, rfl, fun q => q, hb, fun j u hu => by
        have hj : j < bs.length := (List.getElem?_eq_some_iff.1 hu).1
        rw [Nat.one_mul, Nat.zero_add, hget, List.getElem?_append_right (by omega), ha, Nat.add_sub_cancel_left, List.getElem?_append_left hj]; exact hu, hy⟩⟩
theorem selfX_row {W : World} : eC (fun _ => False) W [.int .i64 0, .slice none 0 0, .slice none 0 0, .int .i64 6, .int .i64 0, .slice none 0 0] selfX := ⟨none, 0, none, 0, none, 0, rfl, Nat.le_refl _, .nil _, Nat.le_refl _, .nil _, Nat.le_refl _, .nil _⟩

set_option maxRecDepth 100000 in
set_option maxHeartbeats 16000000 in
theorem EvalEnds_walk (w : World) (fuel : Int) (hf1 : -9223372036854775808 ≤ fuel) (hf2 : fuel ≤ 9223372036854775807) (twice : Bool) :
    Calls Tryz.prog 9 #[.int .i64 fuel, .bool twice] w fun e w' => e = .returned (.bool true) ∧ Below w.heap.size w w' := by
  obtain ⟨EE, hEE⟩ : ∃ EE : Int, (if (0 : Int) + (fuel.toNat : Int) ≤ 2000 then (12 : Int) else 4) = EE := ⟨_, rfl⟩
  cases twice
  all_goals
    go_enter Tryz.func9, Tryz.ntmps9
    go_upto_region 6 with (go_at_call 10; refine (awake21_calls _).mono ?_; rintro e w1 ⟨rfl, hw1⟩)
    go_cut [8] (fun s8 wx => s8 = .pointer (some ⟨(w1.heap.size + 1 + 1 + 1 + 1), 0, none⟩) ∧ Below w1.heap.size w1 wx ∧ Blk wx w1.heap.size #[.int .i64 2, .int .i64 0, .slice none 0 0] 25 ∧ Blk wx (w1.heap.size + 1) #[.int .i64 6, .int .i64 0, .slice none 0 0] 25 ∧ Blk wx (w1.heap.size + 1 + 1) #[.slice none 0 0, .int .i64 2, .int .i64 0, .slice none 0 0, .bool false] 61 ∧ Blk wx (w1.heap.size + 1 + 1 + 1) #[.int .i64 0, .slice none 0 0, .slice none 0 0, .int .i64 6, .int .i64 0, .slice none 0 0] 63 ∧ Blk wx (w1.heap.size + 1 + 1 + 1 + 1) #[.slice (some ⟨w1.heap.size + 1 + 1, 0, none⟩) 1 1, .slice none 0 0, .int .i64 6, .int .i64 0, .slice none 0 0, .slice (some ⟨(w1.heap.size + 1 + 1 + 1), 0, none⟩) 1 1, .int .i64 6, .int .i64 0, .slice none 0 0] 42)
    case first =>
      go_wp2_with fail
      go_meet
      exact ⟨rfl, bl_alloc (bl_alloc (bl_alloc (bl_alloc (bl_alloc (Below.refl _ _) _) _) _) _) _, ((((Blk.nw _ _ _ _ rfl).al _).al _).al _).al _, (((Blk.nw _ _ _ _ (by simp)).al _).al _).al _, ((Blk.nw _ _ _ _ (by simp)).al _).al _, (Blk.nw _ _ _ _ (by simp)).al _, Blk.nw _ _ _ _ (by simp)⟩
  · skip
    obtain ⟨rfl, hx9, b0, b1, b2, b3, b4⟩ := hcut
    go_upto_region 9 with fail
    have HEV : Hid (∀ (W : World) (gF : Nat) (M3 : Option Addr) (c3 : Nat), Row eF 13 (fun _ => False) W (some ⟨gF, 0, none⟩) [endF [selfX]] → twoT.a.length ≤ c3 → Reads (fun _ => False) W M3 twoT.a → Calls Tryz.prog 15 #[.slice (some ⟨gF, 0, none⟩) 1 1, .int .i64 0, .slice none 0 0, .agg #[.int .i64 twoT.k, .int .i64 twoT.h, .slice M3 twoT.a.length c3], .int .i64 fuel] W (RetQ (fun _ => False) (.error EE) W)) := Lib.hid (fun W gF M3 c3 hF hc3 hr3 => by
      obtain ⟨s', hs⟩ := eval_end [] fuel.toNat 0 (by decide)
      have h := Eval_calls [endF [selfX]] (end_ok [] (by simp) (by simp [selfX])) (by decide) (fun _ => False) (some ⟨gF, 0, none⟩) 1 0 fuel [] twoT none 0 M3 c3 1099511627776 W hf2 hf1 (fun _ q => q.elim) room_0 hF (Nat.le_refl _) (.nil _) hc3 hr3 (fun _ => two_b) two_c
      rw [show evalV [endF [selfX]] fuel.toNat 0 [] twoT 0 = _ from hs] at h
      rw [← hEE]
      exact h)
    have HK : Hid (∀ W, Below wc.heap.size wc W → (Below wc.heap.size wc W ∧ W.cell? ⟨w1.heap.size, 0, none⟩ = some (.int .i64 2) ∧ W.cell? ⟨w1.heap.size, 1, none⟩ = some (.int .i64 0) ∧ W.cell? ⟨w1.heap.size, 2, none⟩ = some (.slice none 0 0) ∧ W.cell? ⟨(w1.heap.size + 1 + 1 + 1 + 1), 0, none⟩ = some (.slice (some ⟨w1.heap.size + 1 + 1, 0, none⟩) 1 1) ∧ W.cell? ⟨(w1.heap.size + 1 + 1 + 1 + 1), 1, none⟩ = some (.slice none 0 0) ∧ W.cell? ⟨(w1.heap.size + 1 + 1 + 1 + 1), 2, none⟩ = some (.int .i64 6) ∧ W.cell? ⟨(w1.heap.size + 1 + 1 + 1 + 1), 3, none⟩ = some (.int .i64 0) ∧ W.cell? ⟨(w1.heap.size + 1 + 1 + 1 + 1), 4, none⟩ = some (.slice none 0 0) ∧ W.cell? ⟨(w1.heap.size + 1 + 1 + 1 + 1), 5, none⟩ = some (.slice (some ⟨(w1.heap.size + 1 + 1 + 1), 0, none⟩) 1 1) ∧ W.cell? ⟨(w1.heap.size + 1 + 1 + 1 + 1), 6, none⟩ = some (.int .i64 6) ∧ W.cell? ⟨(w1.heap.size + 1 + 1 + 1 + 1), 7, none⟩ = some (.int .i64 0) ∧ W.cell? ⟨(w1.heap.size + 1 + 1 + 1 + 1), 8, none⟩ = some (.slice none 0 0))) := Lib.hid (fun W hb => ⟨hb, (b0.mov hb).cell 0, (b0.mov hb).cell 1, (b0.mov hb).cell 2, (b4.mov hb).cell 0, (b4.mov hb).cell 1, (b4.mov hb).cell 2, (b4.mov hb).cell 3, (b4.mov hb).cell 4, (b4.mov hb).cell 5, (b4.mov hb).cell 6, (b4.mov hb).cell 7, (b4.mov hb).cell 8⟩)
    have HROW : Hid (∀ W, Below wc.heap.size wc W → ∀ gK gF, Blk W gK #[.slice (some ⟨w1.heap.size + 1 + 1, 0, none⟩) 1 1, .slice none 0 0, .int .i64 6, .int .i64 0, .slice none 0 0, .slice (some ⟨(w1.heap.size + 1 + 1 + 1), 0, none⟩) 1 1, .int .i64 6, .int .i64 0, .slice none 0 0] 42 → Blk W gF #[.string ⟨#[]⟩, .slice none 0 0, .slice none 0 0, .slice none 0 0, .int .i64 2, .int .i64 0, .slice none 0 0, .slice none 0 0, .int .i64 2, .int .i64 0, .slice none 0 0, .bool false, .slice (some ⟨gK, 0, none⟩) 1 1] 39 → Row eF 13 (fun _ => False) W (some ⟨gF, 0, none⟩) [endF [selfX]]) := Lib.hid (fun W hb gK gF hK hF => end_row (l := [selfX]) hK hF (Nat.le_refl _) ((row_one (E := eM) (x := ⟨[], natT, false⟩) b2 rfl ⟨none, 0, none, 0, rfl, Nat.le_refl _, .nil _, Nat.le_refl _, .nil _⟩).mov lasts_M (by decide) hb) (Nat.le_refl _) ((row_one (E := eC) (x := selfX) b3 rfl selfX_row).mov lasts_C (by decide) hb))
    have HX9 := Lib.hid hx9
    have HW1 := Lib.hid hw1
    clear b0 b2 b4 hx9 hw1 b1 b3
    go_cut [10] (fun s10 wx => s10 = .int .i64 EE ∧ Below w.heap.size w wx)
    case first =>
      go_region_held2 (fun W => (Below wc.heap.size wc W ∧ W.cell? ⟨w1.heap.size, 0, none⟩ = some (.int .i64 2) ∧ W.cell? ⟨w1.heap.size, 1, none⟩ = some (.int .i64 0) ∧ W.cell? ⟨w1.heap.size, 2, none⟩ = some (.slice none 0 0) ∧ W.cell? ⟨(w1.heap.size + 1 + 1 + 1 + 1), 0, none⟩ = some (.slice (some ⟨w1.heap.size + 1 + 1, 0, none⟩) 1 1) ∧ W.cell? ⟨(w1.heap.size + 1 + 1 + 1 + 1), 1, none⟩ = some (.slice none 0 0) ∧ W.cell? ⟨(w1.heap.size + 1 + 1 + 1 + 1), 2, none⟩ = some (.int .i64 6) ∧ W.cell? ⟨(w1.heap.size + 1 + 1 + 1 + 1), 3, none⟩ = some (.int .i64 0) ∧ W.cell? ⟨(w1.heap.size + 1 + 1 + 1 + 1), 4, none⟩ = some (.slice none 0 0) ∧ W.cell? ⟨(w1.heap.size + 1 + 1 + 1 + 1), 5, none⟩ = some (.slice (some ⟨(w1.heap.size + 1 + 1 + 1), 0, none⟩) 1 1) ∧ W.cell? ⟨(w1.heap.size + 1 + 1 + 1 + 1), 6, none⟩ = some (.int .i64 6) ∧ W.cell? ⟨(w1.heap.size + 1 + 1 + 1 + 1), 7, none⟩ = some (.int .i64 0) ∧ W.cell? ⟨(w1.heap.size + 1 + 1 + 1 + 1), 8, none⟩ = some (.slice none 0 0)))
        ((refine HK.out _ ?_; (repeat (first | exact hx5 | exact hx3 | exact Below.refl _ _ | refine bl_alloc ?_ _ | refine Below.drew ?_ | refine bl_set3 ?_ (by (have h5 := hx5.size; have h3 := hx3.size; (try simp only [World.size_drew, World.size_alloc]); omega))))))
        (first
          | (go_at_call 28; refine (two_calls _).mono ?_; rintro e w3 ⟨hb3, M3, c3, rfl, hc3, hr3⟩; have hx3 : Below wc.heap.size wc w3 := (by refine bl_then ?_ hb3; repeat (first | exact Below.refl _ _ | refine bl_alloc ?_ _ | refine Below.drew ?_)))
          | (go_at_call 15
             refine (HEV.out _ _ M3 c3 ?hrow hc3 ?hrd).mono ?_
             case hrow => first
               | (refine HROW.out _ ?hb (wc.heap.size) _ ?hK ?hF; (case hF => repeat (first | (with_reducible refine Blk.drew ?_) | (with_reducible refine Blk.mov ?_ hb3) | ((with_reducible refine Blk.nw _ _ _ _ ?_); simp; done) | (with_reducible refine Blk.al ?_ _))); (case hK => repeat (first | (with_reducible refine Blk.drew ?_) | (with_reducible refine Blk.mov ?_ hb3) | ((with_reducible refine Blk.nw _ _ _ _ ?_); simp; done) | (with_reducible refine Blk.al ?_ _))); (case hb => repeat (first | exact hx3 | refine bl_alloc ?_ _)))
               | (refine HROW.out _ ?hb (w3.heap.size) _ ?hK ?hF; (case hF => repeat (first | (with_reducible refine Blk.drew ?_) | (with_reducible refine Blk.mov ?_ hb3) | ((with_reducible refine Blk.nw _ _ _ _ ?_); simp; done) | (with_reducible refine Blk.al ?_ _))); (case hK => repeat (first | (with_reducible refine Blk.drew ?_) | (with_reducible refine Blk.mov ?_ hb3) | ((with_reducible refine Blk.nw _ _ _ _ ?_); simp; done) | (with_reducible refine Blk.al ?_ _))); (case hb => repeat (first | exact hx3 | refine bl_alloc ?_ _)))
               | (refine HROW.out _ ?hb (wc.heap.size + 1) _ ?hK ?hF; (case hF => repeat (first | (with_reducible refine Blk.drew ?_) | (with_reducible refine Blk.mov ?_ hb3) | ((with_reducible refine Blk.nw _ _ _ _ ?_); simp; done) | (with_reducible refine Blk.al ?_ _))); (case hK => repeat (first | (with_reducible refine Blk.drew ?_) | (with_reducible refine Blk.mov ?_ hb3) | ((with_reducible refine Blk.nw _ _ _ _ ?_); simp; done) | (with_reducible refine Blk.al ?_ _))); (case hb => repeat (first | exact hx3 | refine bl_alloc ?_ _)))
               | (refine HROW.out _ ?hb (w3.heap.size + 1) _ ?hK ?hF; (case hF => repeat (first | (with_reducible refine Blk.drew ?_) | (with_reducible refine Blk.mov ?_ hb3) | ((with_reducible refine Blk.nw _ _ _ _ ?_); simp; done) | (with_reducible refine Blk.al ?_ _))); (case hK => repeat (first | (with_reducible refine Blk.drew ?_) | (with_reducible refine Blk.mov ?_ hb3) | ((with_reducible refine Blk.nw _ _ _ _ ?_); simp; done) | (with_reducible refine Blk.al ?_ _))); (case hb => repeat (first | exact hx3 | refine bl_alloc ?_ _)))
             case hrd => repeat (first | exact hr3 | refine Reads.mov ?_ (bl_alloc (Below.refl _ _) _))
             rintro e w5 ⟨hb5, hq⟩
             rcases hq with ⟨y, hy, hy0, rfl⟩ | ⟨us, _, _, hy, _⟩
             rotate_left
             · cases hy
             obtain rfl := Except.error.inj hy
             have hx5 : Below wc.heap.size wc w5 := (by refine bl_then ?_ hb5; repeat (first | exact hx3 | refine bl_alloc ?_ _))
             (first | (refine (fun (zb : Blk w5 (wc.heap.size) #[.int .i64 0, .int .i64 0, .slice none 0 0] 25) => ?_) ?zprf; (case zprf => repeat (first | (with_reducible refine Blk.drew ?_) | (with_reducible refine Blk.mov ?_ hb5) | (with_reducible refine Blk.mov ?_ hb3) | ((with_reducible refine Blk.nw _ _ _ _ ?_); simp; done) | (with_reducible refine Blk.al ?_ _))); have z0 := zb.cell 0; have z1 := zb.cell 1; have z2 := zb.cell 2; have y0 := zb.frozen 0; have y1 := zb.frozen 1; have y2 := zb.frozen 2; have lz := zb.lt) | (refine (fun (zb : Blk w5 (wc.heap.size + 1) #[.int .i64 0, .int .i64 0, .slice none 0 0] 25) => ?_) ?zprf; (case zprf => repeat (first | (with_reducible refine Blk.drew ?_) | (with_reducible refine Blk.mov ?_ hb5) | (with_reducible refine Blk.mov ?_ hb3) | ((with_reducible refine Blk.nw _ _ _ _ ?_); simp; done) | (with_reducible refine Blk.al ?_ _))); have z0 := zb.cell 0; have z1 := zb.cell 1; have z2 := zb.cell 2; have y0 := zb.frozen 0; have y1 := zb.frozen 1; have y2 := zb.frozen 2; have lz := zb.lt) | (refine (fun (zb : Blk w5 (wc.heap.size + 1 + 1) #[.int .i64 0, .int .i64 0, .slice none 0 0] 25) => ?_) ?zprf; (case zprf => repeat (first | (with_reducible refine Blk.drew ?_) | (with_reducible refine Blk.mov ?_ hb5) | (with_reducible refine Blk.mov ?_ hb3) | ((with_reducible refine Blk.nw _ _ _ _ ?_); simp; done) | (with_reducible refine Blk.al ?_ _))); have z0 := zb.cell 0; have z1 := zb.cell 1; have z2 := zb.cell 2; have y0 := zb.frozen 0; have y1 := zb.frozen 1; have y2 := zb.frozen 2; have lz := zb.lt) | (refine (fun (zb : Blk w5 (w3.heap.size) #[.int .i64 0, .int .i64 0, .slice none 0 0] 25) => ?_) ?zprf; (case zprf => repeat (first | (with_reducible refine Blk.drew ?_) | (with_reducible refine Blk.mov ?_ hb5) | (with_reducible refine Blk.mov ?_ hb3) | ((with_reducible refine Blk.nw _ _ _ _ ?_); simp; done) | (with_reducible refine Blk.al ?_ _))); have z0 := zb.cell 0; have z1 := zb.cell 1; have z2 := zb.cell 2; have y0 := zb.frozen 0; have y1 := zb.frozen 1; have y2 := zb.frozen 2; have lz := zb.lt) | (refine (fun (zb : Blk w5 (w3.heap.size + 1) #[.int .i64 0, .int .i64 0, .slice none 0 0] 25) => ?_) ?zprf; (case zprf => repeat (first | (with_reducible refine Blk.drew ?_) | (with_reducible refine Blk.mov ?_ hb5) | (with_reducible refine Blk.mov ?_ hb3) | ((with_reducible refine Blk.nw _ _ _ _ ?_); simp; done) | (with_reducible refine Blk.al ?_ _))); have z0 := zb.cell 0; have z1 := zb.cell 1; have z2 := zb.cell 2; have y0 := zb.frozen 0; have y1 := zb.frozen 1; have y2 := zb.frozen 2; have lz := zb.lt) | (refine (fun (zb : Blk w5 (w3.heap.size + 1 + 1) #[.int .i64 0, .int .i64 0, .slice none 0 0] 25) => ?_) ?zprf; (case zprf => repeat (first | (with_reducible refine Blk.drew ?_) | (with_reducible refine Blk.mov ?_ hb5) | (with_reducible refine Blk.mov ?_ hb3) | ((with_reducible refine Blk.nw _ _ _ _ ?_); simp; done) | (with_reducible refine Blk.al ?_ _))); have z0 := zb.cell 0; have z1 := zb.cell 1; have z2 := zb.cell 2; have y0 := zb.frozen 0; have y1 := zb.frozen 1; have y2 := zb.frozen 2; have lz := zb.lt) | skip)
             clear hy hy0
             dsimp only [zeroTm]))
      all_goals
        go_wp2_with fail
        go_meet
        refine ⟨rfl, bl_then HW1.out (bl_then HX9.out ?_)⟩
        repeat (first | exact hx5 | refine bl_alloc ?_ _ | refine Below.drew ?_ | refine bl_set3 ?_ (by (have h5 := hx5.size; have h3 := hx3.size; (try simp only [World.size_drew, World.size_alloc]); omega)))
    case rest =>
      obtain ⟨rfl, hwx⟩ := hcut
      clear HK HROW HX9 HW1 HEV
      by_cases h2 : fuel ≤ 2000
      · have d0 : decide (fuel ≤ 2000) = true := decide_eq_true h2
        obtain rfl : EE = 12 := by rw [← hEE, if_pos (by omega)]
        clear hEE
        go_wp2_with fail
        go_ret
        exact ⟨rfl, hwx⟩
      · have d0 : decide (fuel ≤ 2000) = false := decide_eq_false h2
        obtain rfl : EE = 4 := by rw [← hEE, if_neg (by omega)]
        clear hEE
        go_wp2_with fail
        go_ret
        exact ⟨rfl, hwx⟩
  · skip
    obtain ⟨rfl, hx8, b0, b1, b2, b3, b4⟩ := hcut
    have u0 := b1.cell 0
    have u1 := b1.cell 1
    have u2 := b1.cell 2
    have x0 := b3.cell 0
    have x1 := b3.cell 1
    have x2 := b3.cell 2
    have x3 := b3.cell 3
    have x4 := b3.cell 4
    have x5 := b3.cell 5
    have k5 := b4.cell 5
    have f5 := b4.frozen 5
    have lk := b4.lt
    have lx := b3.lt
    have lu := b1.lt
    go_upto_region 8 with fail
    go_cut [8] (fun s8 wx => ∃ gC cc, s8 = .pointer (some ⟨(w1.heap.size + 1 + 1 + 1 + 1), 0, none⟩) ∧ Below w1.heap.size w1 wx ∧ Blk wx w1.heap.size #[.int .i64 2, .int .i64 0, .slice none 0 0] 25 ∧ Blk wx (w1.heap.size + 1 + 1) #[.slice none 0 0, .int .i64 2, .int .i64 0, .slice none 0 0, .bool false] 61 ∧ Blk wx (w1.heap.size + 1 + 1 + 1 + 1) #[.slice (some ⟨w1.heap.size + 1 + 1, 0, none⟩) 1 1, .slice none 0 0, .int .i64 6, .int .i64 0, .slice none 0 0, .slice (some ⟨gC, 0, none⟩) 2 cc, .int .i64 6, .int .i64 0, .slice none 0 0] 42 ∧ 2 ≤ cc ∧ Row eC 6 (fun _ => False) wx (some ⟨gC, 0, none⟩) [selfX, selfX])
    case first =>
      go_wp2_with fail
      go_meet
      exact ⟨wc.heap.size + 1, (Question.appendCap 2 1 63).cut (wc.tape wc.drawn (Question.appendCap 2 1 63)), rfl, (bl_alloc (bl_alloc (bl_set hx8 (p := ⟨(w1.heap.size + 1 + 1 + 1 + 1), 5, none⟩) (by simp only; omega) _) _) _).drew, Blk.drew (((b0.far (by simp only; omega) _).al _).al _), Blk.drew (((b2.far (by simp only; omega) _).al _).al _), Blk.drew (((b4.set 5 _).al _).al _), Nat.le_add_right 2 _,
        row_pre2 (Blk.drew (Blk.nw _ _ _ _ (by simp))) (by rw [Array.toList_append, Array.toList_append]) rfl rfl selfX_row selfX_row⟩
    case rest =>
      clear hx8 b0 b1 b2 b3 b4 u0 u1 u2 x0 x1 x2 x3 x4 x5 k5 f5 lk lx lu
      obtain ⟨gC, cc, rfl, hx9, b0, b2, b4, hcc, hrow⟩ := hcut
      go_upto_region 9 with fail
      have HEV : Hid (∀ (W : World) (gF : Nat) (M3 : Option Addr) (c3 : Nat), Row eF 13 (fun _ => False) W (some ⟨gF, 0, none⟩) [endF [selfX, selfX]] → twoT.a.length ≤ c3 → Reads (fun _ => False) W M3 twoT.a → Calls Tryz.prog 15 #[.slice (some ⟨gF, 0, none⟩) 1 1, .int .i64 0, .slice none 0 0, .agg #[.int .i64 twoT.k, .int .i64 twoT.h, .slice M3 twoT.a.length c3], .int .i64 fuel] W (RetQ (fun _ => False) (.error EE) W)) := Lib.hid (fun W gF M3 c3 hF hc3 hr3 => by
        obtain ⟨s', hs⟩ := eval_end [selfX] fuel.toNat 0 (by decide)
        have h := Eval_calls [endF [selfX, selfX]] (end_ok [selfX] (by simp) (by simp [selfX])) (by decide) (fun _ => False) (some ⟨gF, 0, none⟩) 1 0 fuel [] twoT none 0 M3 c3 1099511627776 W hf2 hf1 (fun _ q => q.elim) room_0 hF (Nat.le_refl _) (.nil _) hc3 hr3 (fun _ => two_b) two_c
        rw [show evalV [endF [selfX, selfX]] fuel.toNat 0 [] twoT 0 = _ from hs] at h
        rw [← hEE]
        exact h)
      have HK : Hid (∀ W, Below wc.heap.size wc W → (Below wc.heap.size wc W ∧ W.cell? ⟨w1.heap.size, 0, none⟩ = some (.int .i64 2) ∧ W.cell? ⟨w1.heap.size, 1, none⟩ = some (.int .i64 0) ∧ W.cell? ⟨w1.heap.size, 2, none⟩ = some (.slice none 0 0) ∧ W.cell? ⟨(w1.heap.size + 1 + 1 + 1 + 1), 0, none⟩ = some (.slice (some ⟨w1.heap.size + 1 + 1, 0, none⟩) 1 1) ∧ W.cell? ⟨(w1.heap.size + 1 + 1 + 1 + 1), 1, none⟩ = some (.slice none 0 0) ∧ W.cell? ⟨(w1.heap.size + 1 + 1 + 1 + 1), 2, none⟩ = some (.int .i64 6) ∧ W.cell? ⟨(w1.heap.size + 1 + 1 + 1 + 1), 3, none⟩ = some (.int .i64 0) ∧ W.cell? ⟨(w1.heap.size + 1 + 1 + 1 + 1), 4, none⟩ = some (.slice none 0 0) ∧ W.cell? ⟨(w1.heap.size + 1 + 1 + 1 + 1), 5, none⟩ = some (.slice (some ⟨gC, 0, none⟩) 2 cc) ∧ W.cell? ⟨(w1.heap.size + 1 + 1 + 1 + 1), 6, none⟩ = some (.int .i64 6) ∧ W.cell? ⟨(w1.heap.size + 1 + 1 + 1 + 1), 7, none⟩ = some (.int .i64 0) ∧ W.cell? ⟨(w1.heap.size + 1 + 1 + 1 + 1), 8, none⟩ = some (.slice none 0 0))) := Lib.hid (fun W hb => ⟨hb, (b0.mov hb).cell 0, (b0.mov hb).cell 1, (b0.mov hb).cell 2, (b4.mov hb).cell 0, (b4.mov hb).cell 1, (b4.mov hb).cell 2, (b4.mov hb).cell 3, (b4.mov hb).cell 4, (b4.mov hb).cell 5, (b4.mov hb).cell 6, (b4.mov hb).cell 7, (b4.mov hb).cell 8⟩)
      have HROW : Hid (∀ W, Below wc.heap.size wc W → ∀ gK gF, Blk W gK #[.slice (some ⟨w1.heap.size + 1 + 1, 0, none⟩) 1 1, .slice none 0 0, .int .i64 6, .int .i64 0, .slice none 0 0, .slice (some ⟨gC, 0, none⟩) 2 cc, .int .i64 6, .int .i64 0, .slice none 0 0] 42 → Blk W gF #[.string ⟨#[]⟩, .slice none 0 0, .slice none 0 0, .slice none 0 0, .int .i64 2, .int .i64 0, .slice none 0 0, .slice none 0 0, .int .i64 2, .int .i64 0, .slice none 0 0, .bool false, .slice (some ⟨gK, 0, none⟩) 1 1] 39 → Row eF 13 (fun _ => False) W (some ⟨gF, 0, none⟩) [endF [selfX, selfX]]) := Lib.hid (fun W hb gK gF hK hF => end_row (l := [selfX, selfX]) hK hF (Nat.le_refl _) ((row_one (E := eM) (x := ⟨[], natT, false⟩) b2 rfl ⟨none, 0, none, 0, rfl, Nat.le_refl _, .nil _, Nat.le_refl _, .nil _⟩).mov lasts_M (by decide) hb) hcc ((hrow).mov lasts_C (by decide) hb))
      have HX9 := Lib.hid hx9
      have HW1 := Lib.hid hw1
      clear b0 b2 b4 hx9 hw1 
      go_cut [10] (fun s10 wx => s10 = .int .i64 EE ∧ Below w.heap.size w wx)
      case first =>
        go_region_held2 (fun W => (Below wc.heap.size wc W ∧ W.cell? ⟨w1.heap.size, 0, none⟩ = some (.int .i64 2) ∧ W.cell? ⟨w1.heap.size, 1, none⟩ = some (.int .i64 0) ∧ W.cell? ⟨w1.heap.size, 2, none⟩ = some (.slice none 0 0) ∧ W.cell? ⟨(w1.heap.size + 1 + 1 + 1 + 1), 0, none⟩ = some (.slice (some ⟨w1.heap.size + 1 + 1, 0, none⟩) 1 1) ∧ W.cell? ⟨(w1.heap.size + 1 + 1 + 1 + 1), 1, none⟩ = some (.slice none 0 0) ∧ W.cell? ⟨(w1.heap.size + 1 + 1 + 1 + 1), 2, none⟩ = some (.int .i64 6) ∧ W.cell? ⟨(w1.heap.size + 1 + 1 + 1 + 1), 3, none⟩ = some (.int .i64 0) ∧ W.cell? ⟨(w1.heap.size + 1 + 1 + 1 + 1), 4, none⟩ = some (.slice none 0 0) ∧ W.cell? ⟨(w1.heap.size + 1 + 1 + 1 + 1), 5, none⟩ = some (.slice (some ⟨gC, 0, none⟩) 2 cc) ∧ W.cell? ⟨(w1.heap.size + 1 + 1 + 1 + 1), 6, none⟩ = some (.int .i64 6) ∧ W.cell? ⟨(w1.heap.size + 1 + 1 + 1 + 1), 7, none⟩ = some (.int .i64 0) ∧ W.cell? ⟨(w1.heap.size + 1 + 1 + 1 + 1), 8, none⟩ = some (.slice none 0 0)))
          ((refine HK.out _ ?_; (repeat (first | exact hx5 | exact hx3 | exact Below.refl _ _ | refine bl_alloc ?_ _ | refine Below.drew ?_ | refine bl_set3 ?_ (by (have h5 := hx5.size; have h3 := hx3.size; (try simp only [World.size_drew, World.size_alloc]); omega))))))
          (first
            | (go_at_call 28; refine (two_calls _).mono ?_; rintro e w3 ⟨hb3, M3, c3, rfl, hc3, hr3⟩; have hx3 : Below wc.heap.size wc w3 := (by refine bl_then ?_ hb3; repeat (first | exact Below.refl _ _ | refine bl_alloc ?_ _ | refine Below.drew ?_)))
            | (go_at_call 15
               refine (HEV.out _ _ M3 c3 ?hrow hc3 ?hrd).mono ?_
               case hrow => first
                 | (refine HROW.out _ ?hb (wc.heap.size) _ ?hK ?hF; (case hF => repeat (first | (with_reducible refine Blk.drew ?_) | (with_reducible refine Blk.mov ?_ hb3) | ((with_reducible refine Blk.nw _ _ _ _ ?_); simp; done) | (with_reducible refine Blk.al ?_ _))); (case hK => repeat (first | (with_reducible refine Blk.drew ?_) | (with_reducible refine Blk.mov ?_ hb3) | ((with_reducible refine Blk.nw _ _ _ _ ?_); simp; done) | (with_reducible refine Blk.al ?_ _))); (case hb => repeat (first | exact hx3 | refine bl_alloc ?_ _)))
                 | (refine HROW.out _ ?hb (w3.heap.size) _ ?hK ?hF; (case hF => repeat (first | (with_reducible refine Blk.drew ?_) | (with_reducible refine Blk.mov ?_ hb3) | ((with_reducible refine Blk.nw _ _ _ _ ?_); simp; done) | (with_reducible refine Blk.al ?_ _))); (case hK => repeat (first | (with_reducible refine Blk.drew ?_) | (with_reducible refine Blk.mov ?_ hb3) | ((with_reducible refine Blk.nw _ _ _ _ ?_); simp; done) | (with_reducible refine Blk.al ?_ _))); (case hb => repeat (first | exact hx3 | refine bl_alloc ?_ _)))
                 | (refine HROW.out _ ?hb (wc.heap.size + 1) _ ?hK ?hF; (case hF => repeat (first | (with_reducible refine Blk.drew ?_) | (with_reducible refine Blk.mov ?_ hb3) | ((with_reducible refine Blk.nw _ _ _ _ ?_); simp; done) | (with_reducible refine Blk.al ?_ _))); (case hK => repeat (first | (with_reducible refine Blk.drew ?_) | (with_reducible refine Blk.mov ?_ hb3) | ((with_reducible refine Blk.nw _ _ _ _ ?_); simp; done) | (with_reducible refine Blk.al ?_ _))); (case hb => repeat (first | exact hx3 | refine bl_alloc ?_ _)))
                 | (refine HROW.out _ ?hb (w3.heap.size + 1) _ ?hK ?hF; (case hF => repeat (first | (with_reducible refine Blk.drew ?_) | (with_reducible refine Blk.mov ?_ hb3) | ((with_reducible refine Blk.nw _ _ _ _ ?_); simp; done) | (with_reducible refine Blk.al ?_ _))); (case hK => repeat (first | (with_reducible refine Blk.drew ?_) | (with_reducible refine Blk.mov ?_ hb3) | ((with_reducible refine Blk.nw _ _ _ _ ?_); simp; done) | (with_reducible refine Blk.al ?_ _))); (case hb => repeat (first | exact hx3 | refine bl_alloc ?_ _)))
               case hrd => repeat (first | exact hr3 | refine Reads.mov ?_ (bl_alloc (Below.refl _ _) _))
               rintro e w5 ⟨hb5, hq⟩
               rcases hq with ⟨y, hy, hy0, rfl⟩ | ⟨us, _, _, hy, _⟩
               rotate_left
               · cases hy
               obtain rfl := Except.error.inj hy
               have hx5 : Below wc.heap.size wc w5 := (by refine bl_then ?_ hb5; repeat (first | exact hx3 | refine bl_alloc ?_ _))
               (first | (refine (fun (zb : Blk w5 (wc.heap.size) #[.int .i64 0, .int .i64 0, .slice none 0 0] 25) => ?_) ?zprf; (case zprf => repeat (first | (with_reducible refine Blk.drew ?_) | (with_reducible refine Blk.mov ?_ hb5) | (with_reducible refine Blk.mov ?_ hb3) | ((with_reducible refine Blk.nw _ _ _ _ ?_); simp; done) | (with_reducible refine Blk.al ?_ _))); have z0 := zb.cell 0; have z1 := zb.cell 1; have z2 := zb.cell 2; have y0 := zb.frozen 0; have y1 := zb.frozen 1; have y2 := zb.frozen 2; have lz := zb.lt) | (refine (fun (zb : Blk w5 (wc.heap.size + 1) #[.int .i64 0, .int .i64 0, .slice none 0 0] 25) => ?_) ?zprf; (case zprf => repeat (first | (with_reducible refine Blk.drew ?_) | (with_reducible refine Blk.mov ?_ hb5) | (with_reducible refine Blk.mov ?_ hb3) | ((with_reducible refine Blk.nw _ _ _ _ ?_); simp; done) | (with_reducible refine Blk.al ?_ _))); have z0 := zb.cell 0; have z1 := zb.cell 1; have z2 := zb.cell 2; have y0 := zb.frozen 0; have y1 := zb.frozen 1; have y2 := zb.frozen 2; have lz := zb.lt) | (refine (fun (zb : Blk w5 (wc.heap.size + 1 + 1) #[.int .i64 0, .int .i64 0, .slice none 0 0] 25) => ?_) ?zprf; (case zprf => repeat (first | (with_reducible refine Blk.drew ?_) | (with_reducible refine Blk.mov ?_ hb5) | (with_reducible refine Blk.mov ?_ hb3) | ((with_reducible refine Blk.nw _ _ _ _ ?_); simp; done) | (with_reducible refine Blk.al ?_ _))); have z0 := zb.cell 0; have z1 := zb.cell 1; have z2 := zb.cell 2; have y0 := zb.frozen 0; have y1 := zb.frozen 1; have y2 := zb.frozen 2; have lz := zb.lt) | (refine (fun (zb : Blk w5 (w3.heap.size) #[.int .i64 0, .int .i64 0, .slice none 0 0] 25) => ?_) ?zprf; (case zprf => repeat (first | (with_reducible refine Blk.drew ?_) | (with_reducible refine Blk.mov ?_ hb5) | (with_reducible refine Blk.mov ?_ hb3) | ((with_reducible refine Blk.nw _ _ _ _ ?_); simp; done) | (with_reducible refine Blk.al ?_ _))); have z0 := zb.cell 0; have z1 := zb.cell 1; have z2 := zb.cell 2; have y0 := zb.frozen 0; have y1 := zb.frozen 1; have y2 := zb.frozen 2; have lz := zb.lt) | (refine (fun (zb : Blk w5 (w3.heap.size + 1) #[.int .i64 0, .int .i64 0, .slice none 0 0] 25) => ?_) ?zprf; (case zprf => repeat (first | (with_reducible refine Blk.drew ?_) | (with_reducible refine Blk.mov ?_ hb5) | (with_reducible refine Blk.mov ?_ hb3) | ((with_reducible refine Blk.nw _ _ _ _ ?_); simp; done) | (with_reducible refine Blk.al ?_ _))); have z0 := zb.cell 0; have z1 := zb.cell 1; have z2 := zb.cell 2; have y0 := zb.frozen 0; have y1 := zb.frozen 1; have y2 := zb.frozen 2; have lz := zb.lt) | (refine (fun (zb : Blk w5 (w3.heap.size + 1 + 1) #[.int .i64 0, .int .i64 0, .slice none 0 0] 25) => ?_) ?zprf; (case zprf => repeat (first | (with_reducible refine Blk.drew ?_) | (with_reducible refine Blk.mov ?_ hb5) | (with_reducible refine Blk.mov ?_ hb3) | ((with_reducible refine Blk.nw _ _ _ _ ?_); simp; done) | (with_reducible refine Blk.al ?_ _))); have z0 := zb.cell 0; have z1 := zb.cell 1; have z2 := zb.cell 2; have y0 := zb.frozen 0; have y1 := zb.frozen 1; have y2 := zb.frozen 2; have lz := zb.lt) | skip)
               clear hy hy0
               dsimp only [zeroTm]))
        all_goals
          go_wp2_with fail
          go_meet
          refine ⟨rfl, bl_then HW1.out (bl_then HX9.out ?_)⟩
          repeat (first | exact hx5 | refine bl_alloc ?_ _ | refine Below.drew ?_ | refine bl_set3 ?_ (by (have h5 := hx5.size; have h3 := hx3.size; (try simp only [World.size_drew, World.size_alloc]); omega)))
      case rest =>
        obtain ⟨rfl, hwx⟩ := hcut
        clear HK HROW HX9 HW1 HEV
        by_cases h2 : fuel ≤ 2000
        · have d0 : decide (fuel ≤ 2000) = true := decide_eq_true h2
          obtain rfl : EE = 12 := by rw [← hEE, if_pos (by omega)]
          clear hEE
          go_wp2_with fail
          go_ret
          exact ⟨rfl, hwx⟩
        · have d0 : decide (fuel ≤ 2000) = false := decide_eq_false h2
          obtain rfl : EE = 4 := by rw [← hEE, if_neg (by omega)]
          clear hEE
          go_wp2_with fail
          go_ret
          exact ⟨rfl, hwx⟩
theorem EvalEnds_row (w : World) (fuel : Int) (hf : -9223372036854775808 ≤ fuel ∧ fuel ≤ 9223372036854775807) (twice : Bool) :
    Calls Tryz.prog 9 #[.int .i64 fuel, .bool twice] w fun e w' => e = .returned (.bool true) ∧ Below w.heap.size w w' := EvalEnds_walk w fuel hf.1 hf.2 twice
end Go.Proofs.YtbmmdfehhhgkcaaGreat
