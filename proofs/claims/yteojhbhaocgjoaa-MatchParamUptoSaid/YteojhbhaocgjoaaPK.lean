/- The plain laws of a meta of variables alone: filled, it comes to what was inverted; what it comes to inverts to what it was filled with. -/
import Derived.Test.YteojhbhaocgjoaaPJ
import Derived.Test.YteojhbhaocgjoaaME
namespace Go.Proofs.Yteojhbhaocgjoaa
open Go.RowKit Go.Shelf
set_option linter.unusedVariables false
set_option linter.unusedSimpArgs false

theorem fill_vars (th : List Tm) (n : Int) : ∀ (b : Bool) (xs : List Int), fillL th b (varsT xs) n = .ok (varsT xs) := by
  intro b xs
  induction xs with
  | nil => rw [varsT, List.map_nil, fillL]
  | cons x xs ih =>
    rw [varsT, List.map_cons, fillL, fillF, fillL]
    simp only [show ((4 : Int) = 6) = False from by simp, if_false]
    rw [show (List.map (fun h => (⟨4, h, []⟩ : Tm)) xs) = varsT xs from rfl, ih]
theorem may_var {h : Int} (h0 : 0 ≤ h) : mayB ⟨4, h, []⟩ = true := by
  rw [mayB_eq]
  simp [depthW, depthL, sizeR, sizeRL, nodesOk, nodesOkL, mayN, h0, wrap64]
theorem vars_may {xs : List Int} (h : ∀ x ∈ xs, 0 ≤ x) : ((varsT xs).any fun t => !mayB t) = false := by
  rw [List.any_eq_false]
  intro e he
  unfold varsT at he
  obtain ⟨x, hxm, rfl⟩ := List.mem_map.1 he
  simp [may_var (h x hxm)]
theorem meta_may {xs : List Int} (h : ∀ x ∈ xs, 0 ≤ x) (hl : xs.length ≤ 200) : mayB ⟨6, 0, varsT xs⟩ = true := by
  have hc : ∀ l : List Int, cntL (varsT l) = l.length := by
    intro l
    induction l with
    | nil => rfl
    | cons x l ih => rw [varsT, List.map_cons, cntL, show (List.map (fun h => (⟨4, h, []⟩ : Tm)) l) = varsT l from rfl, ih, cnt, cntL, List.length_cons]; omega
  have hd : ∀ (l : List Int) (m : Int), 0 ≤ m → m ≤ 1 → 0 ≤ depthL m (varsT l) ∧ depthL m (varsT l) ≤ 1 := by
    intro l
    induction l with
    | nil => intro m h0 h1; rw [varsT, List.map_nil, depthL]; omega
    | cons x l ih =>
      intro m h0 h1
      rw [varsT, List.map_cons, depthL, show (List.map (fun h => (⟨4, h, []⟩ : Tm)) l) = varsT l from rfl]
      refine ih _ ?_ ?_
      all_goals
        rw [depthW, depthL]
        unfold mx wrap64
        split <;> omega
  have ho : ∀ l : List Int, (∀ x ∈ l, 0 ≤ x) → nodesOkL (varsT l) = true := by
    intro l
    induction l with
    | nil => intro _; rfl
    | cons x l ih =>
      intro hx
      rw [varsT, List.map_cons, nodesOkL, show (List.map (fun h => (⟨4, h, []⟩ : Tm)) l) = varsT l from rfl, ih (fun y hy => hx y (by simp [hy])), nodesOk, nodesOkL]
      simp [mayN, hx x (by simp)]
  rw [mayB_eq, sizeR_eq, nodesOk, ho xs h, cnt, hc]
  simp only [Bool.and_eq_true, decide_eq_true_eq]
  refine ⟨?_, ?_, by simp [mayN], trivial⟩
  · have := hd xs 0 (by omega) (by omega)
    rw [depthW]
    unfold wrap64
    omega
  · unfold wrap64; omega
theorem fill_meta {xs : List Int} {x t : Tm} {n : Int} {m : Nat} (hx : ∀ x ∈ xs, 0 ≤ x) (hl : xs.length ≤ 200) (hn : 0 ≤ n ∧ n ≤ 1000) (hm : (mayB x && maySu ⟨varsT xs, n⟩) = true) (hev : Ev (.app 0 x ⟨varsT xs, n⟩) (.one t m)) (ht : mayB t = true) : FillV [x] ⟨6, 0, varsT xs⟩ n = .ok t := by
  have hmx := (Bool.and_eq_true _ _ ▸ hm).1
  have hf : fillF [x] ⟨6, 0, varsT xs⟩ n = .ok t := by
    rw [fillF, fill_vars]
    simp only [if_true, List.length_cons, List.length_nil, vars_may hx]
    rw [if_neg (by omega), if_neg (by simp)]
    exact apF_of (.ok hm hev ht)
  unfold FillV
  rw [meta_may hx hl, hf]
  simp [hn.1, hn.2, hmx, ht]

/-- The name that a variable gets under these. -/
def fwH (xs : List Int) (n h : Int) (d : Nat) : Int := if h < d then h else if h - d < xs.length then (xs[((xs.length : Int) - 1 - (h - d)).toNat]?).getD 0 + d else h - xs.length + n
mutual
def fwT (xs : List Int) (n : Int) : Tm → Nat → Tm
  | ⟨k, h, a⟩, d => ⟨k, if k = 4 then fwH xs n h d else h, fwL xs n (isB k) a d⟩
def fwL (xs : List Int) (n : Int) : Bool → List Tm → Nat → List Tm
  | _, [], _ => []
  | b, t :: l, d => fwT xs n t (if (b && l.isEmpty) = true then d + 1 else d) :: fwL xs n b l d
end
theorem fwL_empty {xs : List Int} {n : Int} {b : Bool} {l : List Tm} {d : Nat} : (fwL xs n b l d).isEmpty = l.isEmpty := by cases l <;> simp [fwL]
theorem fwL_len {xs : List Int} {n : Int} {b : Bool} : ∀ {l : List Tm} {d : Nat}, (fwL xs n b l d).length = l.length
  | [], d => by simp [fwL]
  | t :: l, d => by simp [fwL, fwL_len (l := l)]
theorem idx_own {xs : List Int} {n : Int} (hm : MayV xs n) {j : Nat} (hj : j < xs.length) : idxFrom xs[j] 0 xs = (j : Int) := by
  rcases idxFrom_neg (v := xs[j]) xs 0 with ⟨_, hq⟩ | ⟨i, hi, _, hil, _⟩
  · exact absurd (List.getElem_mem hj) hq
  obtain ⟨q, hq1, hq2⟩ := idx_at xs 0 i hi
  obtain rfl : i = q := by omega
  rw [hi]
  obtain ⟨hil2, hq3⟩ := List.getElem?_eq_some_iff.1 hq2
  rcases Nat.lt_trichotomy i j with h | h | h
  · exfalso
    refine (hm.2.2 j hj).2.2 ?_
    rw [← hq3]
    exact List.mem_take_iff_getElem.2 ⟨i, by omega, rfl⟩
  · rw [h]
  · exfalso
    refine (hm.2.2 i hil2).2.2 ?_
    rw [hq3]
    exact List.mem_take_iff_getElem.2 ⟨j, by omega, rfl⟩
theorem fwH_ren {xs : List Int} {n : Int} (hm : MayV xs n) {d : Nat} (hd : d ≤ 1000000) {h : Int} (h0 : 0 ≤ h) (h1 : h ≤ 1099511627776) : headR (rnV xs n) 4 (fwH xs n h d) d = some h ∧ 0 ≤ fwH xs n h d ∧ fwH xs n h d ≤ 1099511627776 + 1001000 := by
  have hlen := MayV.len hm
  have hm' := hm
  obtain ⟨hn0, hn1, hx⟩ := hm
  unfold headR fwH
  by_cases c1 : h < d
  · rw [if_pos c1, if_neg (by omega)]
    exact ⟨rfl, h0, by omega⟩
  rw [if_neg c1]
  by_cases c2 : h - d < xs.length
  · rw [if_pos c2]
    have hj : ((xs.length : Int) - 1 - (h - d)).toNat < xs.length := by omega
    obtain ⟨j, hjj⟩ : ∃ j, ((xs.length : Int) - 1 - (h - d)).toNat = j := ⟨_, rfl⟩
    rw [hjj] at hj ⊢
    have hg : xs[j]? = some xs[j] := List.getElem?_eq_getElem hj
    obtain ⟨q0, q1, _⟩ := hx j hj
    rw [hg, Option.getD_some, if_pos ⟨rfl, by omega⟩]
    have e1 : wrap64 (xs[j] + d - d) = xs[j] := by unfold wrap64; omega
    rw [e1]
    unfold rnV
    rw [if_neg (by omega), if_pos (List.getElem_mem hj), idx_own hm' hj, Option.map_some]
    refine ⟨?_, by omega, by omega⟩
    congr 1
    unfold wrap64
    omega
  · rw [if_neg c2, if_pos ⟨rfl, by omega⟩]
    have e1 : wrap64 (h - xs.length + n - d) = h - xs.length + n - d := by unfold wrap64; omega
    rw [e1]
    unfold rnV
    rw [if_pos (by omega), Option.map_some]
    refine ⟨?_, by omega, by omega⟩
    congr 1
    unfold wrap64
    omega
mutual
theorem fw_ren {xs : List Int} {n : Int} (hm : MayV xs n) : ∀ (x : Tm) (d : Nat), hB 1099511627776 x → d + cnt x ≤ 1000000 → renW (rnV xs n) (fwT xs n x d) d = some x ∧ hB 2199023255552 (fwT xs n x d) ∧ cnt (fwT xs n x d) = cnt x ∧ depthW (fwT xs n x d) = depthW x
  | ⟨k, h, a⟩, d, hb, hd => by
    rw [hB] at hb
    have h0 := mayN_head hb.1
    rw [cnt] at hd
    obtain ⟨q1, q2, q3, q4⟩ := fw_renL hm (isB k) a d hb.2.2 (by omega)
    rw [fwT, renW, q1, hB, cnt, cnt, q3, depthW, depthW, q4, fwL_len]
    by_cases hk : k = 4
    · subst hk
      obtain ⟨p1, p2, p3⟩ := fwH_ren hm (by omega : d ≤ 1000000) h0 hb.2.1
      rw [if_pos rfl, p1]
      exact ⟨rfl, ⟨mayN_var p2, by omega, q2⟩, rfl, rfl⟩
    · rw [if_neg hk]
      have : headR (rnV xs n) k h d = some h := by unfold headR; rw [if_neg (fun q => hk q.1)]
      rw [this]
      exact ⟨rfl, ⟨hb.1, by omega, q2⟩, rfl, rfl⟩
theorem fw_renL {xs : List Int} {n : Int} (hm : MayV xs n) : ∀ (b : Bool) (l : List Tm) (d : Nat), hBL 1099511627776 l → d + cntL l + 1 ≤ 1000000 → renL (rnV xs n) b (fwL xs n b l d) d = some l ∧ hBL 2199023255552 (fwL xs n b l d) ∧ cntL (fwL xs n b l d) = cntL l ∧ ∀ m, depthL m (fwL xs n b l d) = depthL m l
  | b, [], d, hb, hd => by rw [fwL, renL]; exact ⟨rfl, trivial, rfl, fun _ => rfl⟩
  | b, t :: l, d, hb, hd => by
    rw [hBL] at hb
    rw [cntL] at hd
    obtain ⟨q1, q2, q3, q4⟩ := fw_renL hm b l d hb.2 (by omega)
    rw [fwL, renL, hBL, cntL, cntL, q3]
    have hl : lastN b (fwL xs n b l d) (d : Int) = (((if (b && l.isEmpty) = true then d + 1 else d) : Nat) : Int) := by
      unfold lastN
      rw [fwL_empty]
      split
      · unfold wrap64; omega
      · rfl
    rw [hl, q1]
    obtain ⟨p1, p2, p3, p4⟩ := fw_ren hm t (if (b && l.isEmpty) = true then d + 1 else d) hb.1 (by split <;> omega)
    rw [p1]
    exact ⟨rfl, ⟨p2, q2⟩, by omega, fun m => by rw [depthL, depthL, p4, q4]⟩
end
end Go.Proofs.Yteojhbhaocgjoaa
