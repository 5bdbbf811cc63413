/- The plain laws of a meta of variables alone: filled, it comes to what was inverted; what it comes to inverts to what it was filled with. Renaming tells nothing just where a free variable has no other name. A meta of variables alone, filled by one term: the walk's part; what patterns say of names. -/
import Derived.Test.YteojhbhaocgjoaaPJ
import Derived.Test.YteojhbhaocgjoaaME
import Derived.Test.YteojhbhaocgjoaaI1
import Derived.Test.YteojhbhaocgjoaaO5
import Derived.Test.YteojhbhaocgjoaaFW
import Derived.Test.YteojhbhaocgjoaaMO
import Derived.Test.YteojhbhaocgjoaaO1
namespace Go.Proofs.Yteojhbhaocgjoaa
open Go.RowKit Go.Shelf
set_option linter.unusedVariables false
set_option linter.unusedSimpArgs false

theorem fill_vars (th : List Tm) (n : Int) : ∀ (b : Bool) (xs : List Int), fillL th b (varsT xs) n = .ok (varsT xs) := by
  intro b xs
  induction xs with
  | nil => rw [varsT, List.map_nil, fillL]
  | cons x xs ih =>
    rw [varsT, List.map_cons, fillL, fillF, fillL]
    simp only [show ((4 : Int) = 6) = False from by simp, if_false]
    rw [show (List.map (fun h => (⟨4, h, []⟩ : Tm)) xs) = varsT xs from rfl, ih]
theorem may_var {h : Int} (h0 : 0 ≤ h) : mayB ⟨4, h, []⟩ = true := by
  rw [mayB_eq]
  simp [depthW, depthL, sizeR, sizeRL, nodesOk, nodesOkL, mayN, h0, wrap64]
theorem vars_may {xs : List Int} (h : ∀ x ∈ xs, 0 ≤ x) : ((varsT xs).any fun t => !mayB t) = false := by
  rw [List.any_eq_false]
  intro e he
  unfold varsT at he
  obtain ⟨x, hxm, rfl⟩ := List.mem_map.1 he
  simp [may_var (h x hxm)]
theorem meta_may {xs : List Int} (h : ∀ x ∈ xs, 0 ≤ x) (hl : xs.length ≤ 200) : mayB ⟨6, 0, varsT xs⟩ = true := by
  have hc : ∀ l : List Int, cntL (varsT l) = l.length := by
    intro l
    induction l with
    | nil => rfl
    | cons x l ih => rw [varsT, List.map_cons, cntL, show (List.map (fun h => (⟨4, h, []⟩ : Tm)) l) = varsT l from rfl, ih, cnt, cntL, List.length_cons]; omega
  have hd : ∀ (l : List Int) (m : Int), 0 ≤ m → m ≤ 1 → 0 ≤ depthL m (varsT l) ∧ depthL m (varsT l) ≤ 1 := by
    intro l
    induction l with
    | nil => intro m h0 h1; rw [varsT, List.map_nil, depthL]; omega
    | cons x l ih =>
      intro m h0 h1
      rw [varsT, List.map_cons, depthL, show (List.map (fun h => (⟨4, h, []⟩ : Tm)) l) = varsT l from rfl]
      refine ih _ ?_ ?_
      all_goals
        rw [depthW, depthL]
        unfold mx wrap64
        split <;> omega
  have ho : ∀ l : List Int, (∀ x ∈ l, 0 ≤ x) → nodesOkL (varsT l) = true := by
    intro l
    induction l with
    | nil => intro _; rfl
    | cons x l ih =>
      intro hx
      rw [varsT, List.map_cons, nodesOkL, show (List.map (fun h => (⟨4, h, []⟩ : Tm)) l) = varsT l from rfl, ih (fun y hy => hx y (by simp [hy])), nodesOk, nodesOkL]
      simp [mayN, hx x (by simp)]
  rw [mayB_eq, sizeR_eq, nodesOk, ho xs h, cnt, hc]
  simp only [Bool.and_eq_true, decide_eq_true_eq]
  refine ⟨?_, ?_, by simp [mayN], trivial⟩
  · have := hd xs 0 (by omega) (by omega)
    rw [depthW]
    unfold wrap64
    omega
  · unfold wrap64; omega
theorem fill_meta {xs : List Int} {x t : Tm} {n : Int} {m : Nat} (hx : ∀ x ∈ xs, 0 ≤ x) (hl : xs.length ≤ 200) (hn : 0 ≤ n ∧ n ≤ 1000) (hm : (mayB x && maySu ⟨varsT xs, n⟩) = true) (hev : Ev (.app 0 x ⟨varsT xs, n⟩) (.one t m)) (ht : mayB t = true) : FillV [x] ⟨6, 0, varsT xs⟩ n = .ok t := by
  have hmx := (Bool.and_eq_true _ _ ▸ hm).1
  have hf : fillF [x] ⟨6, 0, varsT xs⟩ n = .ok t := by
    rw [fillF, fill_vars]
    simp only [if_true, List.length_cons, List.length_nil, vars_may hx]
    rw [if_neg (by omega), if_neg (by simp)]
    exact apF_of (.ok hm hev ht)
  unfold FillV
  rw [meta_may hx hl, hf]
  simp [hn.1, hn.2, hmx, ht]

/-- The name that a variable gets under these. -/
def fwH (xs : List Int) (n h : Int) (d : Nat) : Int := if h < d then h else if h - d < xs.length then (xs[((xs.length : Int) - 1 - (h - d)).toNat]?).getD 0 + d else h - xs.length + n
mutual
def fwT (xs : List Int) (n : Int) : Tm → Nat → Tm
  | ⟨k, h, a⟩, d => ⟨k, if k = 4 then fwH xs n h d else h, fwL xs n (isB k) a d⟩
def fwL (xs : List Int) (n : Int) : Bool → List Tm → Nat → List Tm
  | _, [], _ => []
  | b, t :: l, d => fwT xs n t (if (b && l.isEmpty) = true then d + 1 else d) :: fwL xs n b l d
end
theorem fwL_empty {xs : List Int} {n : Int} {b : Bool} {l : List Tm} {d : Nat} : (fwL xs n b l d).isEmpty = l.isEmpty := by cases l <;> simp [fwL]
theorem fwL_len {xs : List Int} {n : Int} {b : Bool} : ∀ {l : List Tm} {d : Nat}, (fwL xs n b l d).length = l.length
  | [], d => by simp [fwL]
  | t :: l, d => by simp [fwL, fwL_len (l := l)]
theorem idx_own {xs : List Int} {n : Int} (hm : MayV xs n) {j : Nat} (hj : j < xs.length) : idxFrom xs[j] 0 xs = (j : Int) := by
  rcases idxFrom_neg (v := xs[j]) xs 0 with ⟨_, hq⟩ | ⟨i, hi, _, hil, _⟩
  · exact absurd (List.getElem_mem hj) hq
  obtain ⟨q, hq1, hq2⟩ := idx_at xs 0 i hi
  obtain rfl : i = q := by omega
  rw [hi]
  obtain ⟨hil2, hq3⟩ := List.getElem?_eq_some_iff.1 hq2
  rcases Nat.lt_trichotomy i j with h | h | h
  · exfalso
    refine (hm.2.2 j hj).2.2 ?_
    rw [← hq3]
    exact List.mem_take_iff_getElem.2 ⟨i, by omega, rfl⟩
  · rw [h]
  · exfalso
    refine (hm.2.2 i hil2).2.2 ?_
    rw [hq3]
    exact List.mem_take_iff_getElem.2 ⟨j, by omega, rfl⟩
theorem fwH_ren {xs : List Int} {n : Int} (hm : MayV xs n) {d : Nat} (hd : d ≤ 1000000) {h : Int} (h0 : 0 ≤ h) (h1 : h ≤ 1099511627776) : headR (rnV xs n) 4 (fwH xs n h d) d = some h ∧ 0 ≤ fwH xs n h d ∧ fwH xs n h d ≤ 1099511627776 + 1001000 := by
  have hlen := MayV.len hm
  have hm' := hm
  obtain ⟨hn0, hn1, hx⟩ := hm
  unfold headR fwH
  by_cases c1 : h < d
  · rw [if_pos c1, if_neg (by omega)]
    exact ⟨rfl, h0, by omega⟩
  rw [if_neg c1]
  by_cases c2 : h - d < xs.length
  · rw [if_pos c2]
    have hj : ((xs.length : Int) - 1 - (h - d)).toNat < xs.length := by omega
    obtain ⟨j, hjj⟩ : ∃ j, ((xs.length : Int) - 1 - (h - d)).toNat = j := ⟨_, rfl⟩
    rw [hjj] at hj ⊢
    have hg : xs[j]? = some xs[j] := List.getElem?_eq_getElem hj
    obtain ⟨q0, q1, _⟩ := hx j hj
    rw [hg, Option.getD_some, if_pos ⟨rfl, by omega⟩]
    have e1 : wrap64 (xs[j] + d - d) = xs[j] := by unfold wrap64; omega
    rw [e1]
    unfold rnV
    rw [if_neg (by omega), if_pos (List.getElem_mem hj), idx_own hm' hj, Option.map_some]
    refine ⟨?_, by omega, by omega⟩
    congr 1
    unfold wrap64
    omega
  · rw [if_neg c2, if_pos ⟨rfl, by omega⟩]
    have e1 : wrap64 (h - xs.length + n - d) = h - xs.length + n - d := by unfold wrap64; omega
    rw [e1]
    unfold rnV
    rw [if_pos (by omega), Option.map_some]
    refine ⟨?_, by omega, by omega⟩
    congr 1
    unfold wrap64
    omega
mutual
theorem fw_ren {xs : List Int} {n : Int} (hm : MayV xs n) : ∀ (x : Tm) (d : Nat), hB 1099511627776 x → d + cnt x ≤ 1000000 → renW (rnV xs n) (fwT xs n x d) d = some x ∧ hB 2199023255552 (fwT xs n x d) ∧ cnt (fwT xs n x d) = cnt x ∧ depthW (fwT xs n x d) = depthW x
  | ⟨k, h, a⟩, d, hb, hd => by
    rw [hB] at hb
    have h0 := mayN_head hb.1
    rw [cnt] at hd
    obtain ⟨q1, q2, q3, q4⟩ := fw_renL hm (isB k) a d hb.2.2 (by omega)
    rw [fwT, renW, q1, hB, cnt, cnt, q3, depthW, depthW, q4, fwL_len]
    by_cases hk : k = 4
    · subst hk
      obtain ⟨p1, p2, p3⟩ := fwH_ren hm (by omega : d ≤ 1000000) h0 hb.2.1
      rw [if_pos rfl, p1]
      exact ⟨rfl, ⟨mayN_var p2, by omega, q2⟩, rfl, rfl⟩
    · rw [if_neg hk]
      have : headR (rnV xs n) k h d = some h := by unfold headR; rw [if_neg (fun q => hk q.1)]
      rw [this]
      exact ⟨rfl, ⟨hb.1, by omega, q2⟩, rfl, rfl⟩
theorem fw_renL {xs : List Int} {n : Int} (hm : MayV xs n) : ∀ (b : Bool) (l : List Tm) (d : Nat), hBL 1099511627776 l → d + cntL l + 1 ≤ 1000000 → renL (rnV xs n) b (fwL xs n b l d) d = some l ∧ hBL 2199023255552 (fwL xs n b l d) ∧ cntL (fwL xs n b l d) = cntL l ∧ ∀ m, depthL m (fwL xs n b l d) = depthL m l
  | b, [], d, hb, hd => by rw [fwL, renL]; exact ⟨rfl, trivial, rfl, fun _ => rfl⟩
  | b, t :: l, d, hb, hd => by
    rw [hBL] at hb
    rw [cntL] at hd
    obtain ⟨q1, q2, q3, q4⟩ := fw_renL hm b l d hb.2 (by omega)
    rw [fwL, renL, hBL, cntL, cntL, q3]
    have hl : lastN b (fwL xs n b l d) (d : Int) = (((if (b && l.isEmpty) = true then d + 1 else d) : Nat) : Int) := by
      unfold lastN
      rw [fwL_empty]
      split
      · unfold wrap64; omega
      · rfl
    rw [hl, q1]
    obtain ⟨p1, p2, p3, p4⟩ := fw_ren hm t (if (b && l.isEmpty) = true then d + 1 else d) hb.1 (by split <;> omega)
    rw [p1]
    exact ⟨rfl, ⟨p2, q2⟩, by omega, fun m => by rw [depthL, depthL, p4, q4]⟩
end
end Go.Proofs.Yteojhbhaocgjoaa
namespace Go.Proofs.Yteojhbhaocgjoaa
open Go.RowKit Go.Shelf
set_option linter.unusedVariables false
set_option linter.unusedSimpArgs false

theorem varsOf_app (a b : List (Int × Tm)) : varsOf (a ++ b) = varsOf a ++ varsOf b := by unfold varsOf; rw [List.filterMap_append]
mutual
theorem ren_none (rn : Int → Option Int) : ∀ (t : Tm) (d : Int), renW rn t d = none ↔ ∃ v ∈ varsOf (nodesW t d), rn v = none
  | ⟨k, h, a⟩, d => by
    have ih := ren_noneL rn (isB k) a d
    rw [renW, nodesW, show ((d, (⟨k, h, a⟩ : Tm)) :: nodesL (isB k) a d) = [(d, (⟨k, h, a⟩ : Tm))] ++ nodesL (isB k) a d from rfl, varsOf_app]
    have hh : headR rn k h d = none ↔ ∃ v ∈ varsOf [(d, (⟨k, h, a⟩ : Tm))], rn v = none := by
      unfold headR varsOf
      by_cases hk : k = 4 ∧ d ≤ h
      · simp only [hk, and_self, if_true, List.filterMap_cons, List.filterMap_nil]
        simp
      · rw [if_neg hk]
        simp [hk]
    constructor
    · intro q
      rw [Option.bind_eq_none_iff] at q
      cases hq : headR rn k h d with
      | none =>
        obtain ⟨v, h1, h2⟩ := hh.1 hq
        exact ⟨v, List.mem_append_left _ h1, h2⟩
      | some h' =>
        have := q h' hq
        rw [Option.map_eq_none_iff] at this
        obtain ⟨v, h1, h2⟩ := ih.1 this
        exact ⟨v, List.mem_append_right _ h1, h2⟩
    · rintro ⟨v, h1, h2⟩
      rcases List.mem_append.1 h1 with h1 | h1
      · rw [hh.2 ⟨v, h1, h2⟩]; rfl
      · rw [ih.2 ⟨v, h1, h2⟩]
        cases headR rn k h d <;> rfl
theorem ren_noneL (rn : Int → Option Int) : ∀ (b : Bool) (l : List Tm) (d : Int), renL rn b l d = none ↔ ∃ v ∈ varsOf (nodesL b l d), rn v = none
  | b, [], d => by rw [renL, nodesL]; simp [varsOf]
  | b, t :: l, d => by
    have i1 := ren_none rn t (lastN b l d)
    have i2 := ren_noneL rn b l d
    rw [renL, nodesL, varsOf_app]
    constructor
    · intro q
      rw [Option.bind_eq_none_iff] at q
      cases hq : renW rn t (lastN b l d) with
      | none =>
        obtain ⟨v, h1, h2⟩ := i1.1 hq
        exact ⟨v, List.mem_append_left _ h1, h2⟩
      | some h' =>
        have := q h' hq
        rw [Option.map_eq_none_iff] at this
        obtain ⟨v, h1, h2⟩ := i2.1 this
        exact ⟨v, List.mem_append_right _ h1, h2⟩
    · rintro ⟨v, h1, h2⟩
      rcases List.mem_append.1 h1 with h1 | h1
      · rw [i1.2 ⟨v, h1, h2⟩]; rfl
      · rw [i2.2 ⟨v, h1, h2⟩]
        cases renW rn t (lastN b l d) <;> rfl
end
theorem rnV_none {xs : List Int} {n v : Int} : rnV xs n v = none ↔ ¬ n ≤ v ∧ v ∉ xs := by
  unfold rnV
  split
  · simp [*]
  · split <;> simp [*]
/-- Is a free variable missing? -/
def missV (l xs : List Int) (n : Int) : Bool := l.any fun v => !(decide (n ≤ v) || xs.contains v)
theorem miss_ren {xs : List Int} {n : Int} {t : Tm} {l : List Int} (hl : ∀ x, x ∈ l ↔ x ∈ varsOf (nodesW t 0)) : missV l xs n = (renW (rnV xs n) t 0).isNone := by
  rw [Bool.eq_iff_iff, Option.isNone_iff_eq_none, ren_none]
  unfold missV
  rw [List.any_eq_true]
  constructor
  · rintro ⟨v, h1, h2⟩
    exact ⟨v, (hl v).1 h1, rnV_none.2 (by simpa using h2)⟩
  · rintro ⟨v, h1, h2⟩
    exact ⟨v, (hl v).2 h1, by simpa using rnV_none.1 h2⟩
end Go.Proofs.Yteojhbhaocgjoaa
namespace Go.Proofs.Yteojhbhaocgjoaa
open Go.RowKit Go.Shelf
set_option linter.unusedVariables false
set_option linter.unusedSimpArgs false

theorem patGo_vars {n : Int} : ∀ {l vs r : List Int}, patGo n vs (varsT l) = some r → ∀ i, (hi : i < l.length) → 0 ≤ l[i] ∧ l[i] < n ∧ l[i] ∉ vs ++ l.take i
  | [], vs, r, q, i, hi => absurd hi (Nat.not_lt_zero _)
  | x :: l, vs, r, q, i, hi => by
    rw [varsT, List.map_cons, patGo] at q
    split at q
    · rename_i hc
      have ih := patGo_vars (l := l) q
      cases i with
      | zero => exact ⟨hc.2.2.1, hc.2.2.2.1, by simpa using hc.2.2.2.2⟩
      | succ i =>
        have h1 := ih i (by simpa using hi)
        refine ⟨h1.1, h1.2.1, ?_⟩
        simpa using h1.2.2
    · cases q
theorem pat_may {xs r : List Int} {n : Int} (h0 : 0 ≤ n) (h1 : n ≤ 1000) (q : patV (varsT xs) n = some r) : MayV xs n :=
  ⟨h0, h1, fun i hi => by
    have := patGo_vars (vs := []) q i hi
    simpa using this⟩
theorem vars_su {xs : List Int} {n : Int} (hm : MayV xs n) (hx : xs.length ≤ 20) : maySu ⟨varsT xs, n⟩ = true := by
  obtain ⟨h0, h1, h2⟩ := hm
  have h3 := vars_may (xs := xs) (fun x hx => by
    obtain ⟨i, hi, rfl⟩ := List.getElem_of_mem hx
    exact (h2 i hi).1)
  unfold maySu
  simp only [h3, varsT_len, Bool.not_false, Bool.and_true, Bool.and_eq_true, decide_eq_true_eq]
  omega
theorem may_le {xs : List Int} {n : Int} (hm : MayV xs n) : ∀ x ∈ xs, 0 ≤ x ∧ x ≤ 1000 := fun x hx => by
  obtain ⟨i, hi, rfl⟩ := List.getElem_of_mem hx
  have h1 := hm.2.2 i hi
  have h2 := hm.2.1
  omega
/-- What a meta of variables comes to, filled. -/
theorem only_pure {x : Tm} {xs : List Int} {n : Int} (hcn : cnt x ≤ 1048576) (hl : lightB x 1000 60 = true) (hmb : mayB x = true) (hx : xs.length ≤ 20) (hm : MayV xs n) :
    FillV [x] ⟨6, 0, varsT xs⟩ n = .ok (fwT xs n x 0) ∧ invV (fwT xs n x 0) xs n = (some x, 0) ∧ hB 1099511627776 x ∧ cnt x ≤ 1000 := by
  unfold lightB at hl
  simp only [Bool.and_eq_true, decide_eq_true_eq] at hl
  obtain ⟨hlow, hsz, hdp⟩ := hl
  have hc : cnt x ≤ 1000 := by
    rw [sizeR_eq] at hsz
    unfold wrap64 at hsz
    omega
  have hmb' := hmb
  rw [mayB_eq] at hmb'
  simp only [Bool.and_eq_true, decide_eq_true_eq] at hmb'
  have hb := hB_of hmb'.2.2 hlow
  obtain ⟨q1, q2, q3, q4⟩ := fw_ren hm x 0 hb (by omega)
  have hmt : mayB (fwT xs n x 0) = true := by
    rw [mayB_eq, q4, sizeR_eq, q3, may_of_hB q2, ← sizeR_eq]
    simp only [Bool.and_eq_true, decide_eq_true_eq]
    exact ⟨hdp, by omega, trivial⟩
  have hev := ev_back hm (fwT xs n x 0) x 0 0 q1 q2 (by omega) (by omega)
  rw [sg_zero] at hev
  refine ⟨fill_meta (fun y hy => (may_le hm y hy).1) (by omega) ⟨hm.1, hm.2.1⟩ (by rw [hmb, vars_su hm hx]; rfl) hev hmt, ?_, hb, hc⟩
  unfold invV
  rw [hmt, mayV_true hm]
  have q1' : renW (rnV xs n) (fwT xs n x 0) 0 = some x := q1
  rw [q1']
  rfl
/-- What was inverted, filled. -/
theorem back_pure {t u : Tm} {xs : List Int} {n : Int} (hcn : cnt t ≤ 1048576) (hl : lightB t 1000 60 = true) (hmb : mayB t = true) (hx : xs.length ≤ 20) (hv : invV t xs n = (some u, 0)) :
    FillV [u] ⟨6, 0, varsT xs⟩ n = .ok t ∧ MayV xs n ∧ renW (rnV xs n) t 0 = some u ∧ hB 4398046511104 u ∧ cnt u ≤ 1000 ∧ cnt u = cnt t := by
  obtain ⟨h1, h2, h3⟩ := apply_pure hcn hl hmb hx hv
  have hmay : MayV xs n := by
    rcases hq : mayV xs n with _ | _
    · unfold invV at hv
      rw [hmb, hq] at hv
      simp at hv
    · exact mayV_prop hq
  have hren : renW (rnV xs n) t 0 = some u := by
    unfold invV at hv
    rw [hmb, mayV_true hmay] at hv
    simp only [Bool.and_self, if_true] at hv
    cases hr : renW (rnV xs n) t 0 with
    | none => rw [hr] at hv; simp at hv
    | some z => rw [hr] at hv; simp at hv; rw [hv]
  unfold lightB at hl
  simp only [Bool.and_eq_true, decide_eq_true_eq] at hl
  obtain ⟨hlow, hsz, hdp⟩ := hl
  have hc : cnt t ≤ 1000 := by
    rw [sizeR_eq] at hsz
    unfold wrap64 at hsz
    omega
  have hmb' := hmb
  rw [mayB_eq] at hmb'
  simp only [Bool.and_eq_true, decide_eq_true_eq] at hmb'
  obtain ⟨q1, q2, q3⟩ := ren_may hmay t u 0 hren ((hB_of hmb'.2.2 hlow).mono (by decide)) (by omega)
  exact ⟨fill_meta (fun y hy => (may_le hmay y hy).1) (by omega) ⟨hmay.1, hmay.2.1⟩ h1 h3 hmb, hmay, hren, q1, by omega, q2⟩
/-- What Invert tells of a term that may be. -/
theorem inv3 {t : Tm} {xs : List Int} {n : Int} (hmb : mayB t = true) : (∃ u, invV t xs n = (some u, 0) ∧ renW (rnV xs n) t 0 = some u) ∨ invV t xs n = (none, 1) ∨ (invV t xs n = (none, 7) ∧ renW (rnV xs n) t 0 = none) := by
  unfold invV
  rw [hmb]
  cases mayV xs n
  · exact .inr (.inl rfl)
  · simp only [Bool.and_self, if_true]
    cases renW (rnV xs n) t 0 with
    | none => exact .inr (.inr ⟨rfl, rfl⟩)
    | some u => exact .inl ⟨u, rfl, rfl⟩

/-- What is not the row's, nor the list's. -/
def FS (a m r b : Nat) (gs : Nat) : Nat → Prop := fun k => a ≤ k ∧ k < b ∧ k ≠ gs ∧ ¬ (m ≤ k ∧ k < r)
theorem vars_hB {xs : List Int} {B : Int} (hB0 : 1000 ≤ B) (h : ∀ x ∈ xs, 0 ≤ x ∧ x ≤ 1000) : hB B ⟨6, 0, varsT xs⟩ := by
  rw [hB]
  refine ⟨by simp [mayN], by omega, hBL_iff.2 fun e he => ?_⟩
  unfold varsT at he
  obtain ⟨x, hxm, rfl⟩ := List.mem_map.1 he
  rw [hB]
  exact ⟨mayN_var (h x hxm).1, by have := (h x hxm).2; omega, trivial⟩
theorem vars_cnt (l : List Int) : cntL (varsT l) = l.length := by
  induction l with
  | nil => rfl
  | cons x l ih => rw [varsT, List.map_cons, cntL, show (List.map (fun h => (⟨4, h, []⟩ : Tm)) l) = varsT l from rfl, ih, cnt, cntL, List.length_cons]; omega
theorem fillVars_calls (x t : Tm) (A : Option Addr) (c : Nat) (xs : List Int) (n : Int) (W0 Wm W5 W : World) (B5 : Option Addr) (c5 gs : Nat)
    (hr : Reads (fun _ => False) W0 A x.a) (hc : x.a.length ≤ c) (h1 : Below W0.heap.size W0 Wm) (h2 : Below Wm.heap.size Wm W5) (h3 : Below W5.heap.size W5 W) (hr5 : Reads (fun k => k < Wm.heap.size) W5 B5 (varsT xs)) (hc5 : (varsT xs).length ≤ c5)
    (hs : Blk W gs #[.int .i64 x.k, .int .i64 x.h, .slice A x.a.length c] 24) (hg : W0.heap.size ≤ gs)
    (hF : FillV [x] ⟨6, 0, varsT xs⟩ n = .ok t) (hBx : hB 4398046511104 x) (hcx : cnt x ≤ 1000) (hv : ∀ y ∈ xs, 0 ≤ y ∧ y ≤ 1000) (hxl : xs.length ≤ 20) :
    Calls Try.prog 17 #[.agg #[.int .i64 6, .int .i64 0, .slice B5 (varsT xs).length c5], .slice (some ⟨gs, 0, none⟩) 1 1, .int .i64 n] W fun e w' => Below W.heap.size W w' ∧ ∃ B6 c6, e = .returned (.tuple #[.agg #[.int .i64 t.k, .int .i64 t.h, .slice B6 t.a.length c6], .int .i64 0]) ∧ t.a.length ≤ c6 ∧ Reads (FS W0.heap.size Wm.heap.size W5.heap.size W.heap.size gs) w' B6 t.a := by
  have hrx : Reads (FS W0.heap.size Wm.heap.size W5.heap.size W.heap.size gs) W A x.a := hr.step (fun k hk _ q => by have := q.1; omega) (fun k hk _ => (bl_then h1 (bl_then h2 h3)).block k hk)
  have hrv : Reads (FS W0.heap.size Wm.heap.size W5.heap.size W.heap.size gs) W B5 (varsT xs) := hr5.step (fun k hk hn q => q.2.2.2 ⟨by omega, hk⟩) (fun k hk _ => h3.block k hk)
  refine (Fill_calls _ [x] (some ⟨gs, 0, none⟩) 1 (Nat.le_refl _) 4398046511104 (by decide) (by decide) ⟨6, 0, varsT xs⟩ B5 c5 n W (fun k q => q.2.1) hrv hc5 (reads_one hs (fun q => q.2.2.1 rfl) hrx hc) (fun _ => vars_hB (by decide) hv) (by rw [cnt, vars_cnt]; omega) (fun y hy => ?_)).mono fun e w' q => ?_
  · simp at hy
    subst hy
    exact ⟨fun _ => hBx, by omega⟩
  · rw [hF] at q
    obtain ⟨hb, q⟩ := q
    rcases q with ⟨_, q, _⟩ | ⟨u, B6, c6, q, rfl, hc6, hr6⟩
    · cases q
    · cases q
      exact ⟨hb, B6, c6, rfl, hc6, hr6⟩
end Go.Proofs.Yteojhbhaocgjoaa
