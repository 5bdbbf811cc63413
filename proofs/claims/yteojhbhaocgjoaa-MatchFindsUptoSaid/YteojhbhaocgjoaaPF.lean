/- The plain law MatchSelf: a pattern without metas matches itself alone. The plain laws of matching: what it keeps, what it fills, what it finds. The plain laws MatchFinds and MatchParam: a pattern, filled, is matched by that; a meta that stands for a variable alone. -/
import Derived.Test.YteojhbhaocgjoaaMN
import Derived.Test.YteojhbhaocgjoaaO5
import Derived.Test.YteojhbhaocgjoaaMA
import Derived.Test.YteojhbhaocgjoaaPV
import Derived.Test.YteojhbhaocgjoaaI6
namespace Go.Proofs.Yteojhbhaocgjoaa
open Go.RowKit Go.Shelf
set_option linter.unusedVariables false
set_option linter.unusedSimpArgs false

mutual
theorem node_same {σ : Type} (MF : Tm → Tm → Int → σ → Except Int σ) : ∀ (p t : Tm) (n m : Int) (s : σ), metasOf (nodesW p m) = [] → nodeF MF p t n s = if sameB p t = true then .ok s else .error 6
  | ⟨k, h, a⟩, ⟨k', h', a'⟩, n, m, s, q => by
    rw [nodesW, metasOf, List.filterMap_cons] at q
    have hk : k ≠ 6 := by
      intro hk
      subst hk
      simp at q
    have qa : metasOf (nodesL (isB k) a m) = [] := by
      simpa [hk, metasOf] using q
    rw [nodeF, if_neg hk, sameB]
    by_cases he : k = k' ∧ h = h' ∧ a.length = a'.length
    · rw [if_pos he]
      obtain ⟨rfl, rfl, hl⟩ := he
      rw [node_sameL MF (isB k) a a' n m s hl qa]
      simp
    · rw [if_neg he]
      rw [if_neg]
      intro h1
      simp at h1
      obtain ⟨e1, e2, e3⟩ := h1
      exact he ⟨e1, e2, Classical.byContradiction fun hne => by rw [sameL_ne hne] at e3; cases e3⟩
theorem node_sameL {σ : Type} (MF : Tm → Tm → Int → σ → Except Int σ) : ∀ (b : Bool) (l l' : List Tm) (n m : Int) (s : σ), l.length = l'.length → metasOf (nodesL b l m) = [] → nodeL MF b l l' n s = if sameL l l' = true then .ok s else .error 6
  | b, [], l', n, m, s, hl, q => by
    obtain rfl : l' = [] := List.eq_nil_of_length_eq_zero hl.symm
    rw [nodeL, sameL]
    rfl
  | b, p :: l, [], n, m, s, hl, q => by simp at hl
  | b, p :: l, t :: l', n, m, s, hl, q => by
    rw [nodesL, metasOf, List.filterMap_append, List.append_eq_nil_iff] at q
    rw [nodeL, node_same MF p t (lastN b l n) (lastN b l m) s q.1, sameL]
    have hl' : l.length = l'.length := by simpa using hl
    cases hp : sameB p t with
    | true =>
      simp only [if_true]
      rw [node_sameL MF b l l' n m s hl' q.2]
      simp
    | false => simp
end
end Go.Proofs.Yteojhbhaocgjoaa
namespace Go.Proofs.Yteojhbhaocgjoaa
open Go.RowKit Go.Shelf
set_option linter.unusedVariables false
set_option linter.unusedSimpArgs false

theorem patGo_eq {n : Int} : ∀ {l : List Tm} {vs r : List Int}, patGo n vs l = some r → ∃ xs, l = varsT xs ∧ r = vs ++ xs
  | [], vs, r, q => ⟨[], rfl, by rw [patGo] at q; cases q; simp⟩
  | ⟨k, h, a⟩ :: l, vs, r, q => by
    rw [patGo] at q
    split at q
    · rename_i hc
      obtain ⟨h1, h2, -⟩ := hc
      dsimp only at h1 h2 q
      subst h1
      obtain rfl := List.eq_nil_of_length_eq_zero h2
      obtain ⟨xs, e1, e2⟩ := patGo_eq q
      exact ⟨h :: xs, by rw [e1]; rfl, by rw [e2]; simp⟩
    · cases q
theorem patV_eq {a : List Tm} {n : Int} {xs : List Int} (q : patV a n = some xs) : a = varsT xs := by
  obtain ⟨ys, e1, e2⟩ := patGo_eq (vs := []) q
  rw [e1, e2]
  rfl
mutual
theorem same_eq : ∀ {a b : Tm}, sameB a b = true → a = b
  | ⟨k, h, a⟩, ⟨k', h', b⟩, q => by
    rw [sameB] at q
    simp only [Bool.and_eq_true, beq_iff_eq] at q
    rw [q.1, q.2.1, sameL_eq q.2.2]
theorem sameL_eq : ∀ {a b : List Tm}, sameL a b = true → a = b
  | [], [], q => rfl
  | [], _ :: _, q => by simp [sameL] at q
  | _ :: _, [], q => by simp [sameL] at q
  | x :: a, y :: b, q => by
    rw [sameL, Bool.and_eq_true] at q
    rw [same_eq q.1, sameL_eq q.2]
end

/-- What was something is so. -/
def Ext (s s' : List Bd) : Prop := s.length = s'.length ∧ ∀ (i : Nat) (x : Bd), s[i]? = some x → x.is = true → s'[i]? = some x
theorem Ext.refl (s : List Bd) : Ext s s := ⟨rfl, fun _ _ h _ => h⟩
theorem Ext.trans {a b c : List Bd} (h : Ext a b) (k : Ext b c) : Ext a c := ⟨h.1.trans k.1, fun i x hx hi => k.2 i x (h.2 i x hx hi) hi⟩
theorem Ext.set {s : List Bd} {j : Nat} (h : ¬ ((s[j]?).map Bd.is).getD false = true) (y : Bd) : Ext s (s.set j y) := ⟨by simp, fun i x hx hi => by
  by_cases e : j = i
  · subst e
    rw [hx] at h
    simp [hi] at h
  · rw [List.getElem?_set_ne e]
    exact hx⟩
mutual
theorem nodeF_rel {σ : Type} {MF : Tm → Tm → Int → σ → Except Int σ} {R : σ → σ → Prop} (r0 : ∀ s, R s s) (rt : ∀ a b c, R a b → R b c → R a c) (hM : ∀ p t n s s', MF p t n s = .ok s' → R s s') : ∀ (p t : Tm) (n : Int) (s s' : σ), nodeF MF p t n s = .ok s' → R s s'
  | ⟨k, h, a⟩, t, n, s, s', q => by
    rw [nodeF] at q
    split at q
    · exact hM _ _ _ _ _ q
    · split at q
      · exact nodeL_rel r0 rt hM _ _ _ _ _ _ q
      · cases q
theorem nodeL_rel {σ : Type} {MF : Tm → Tm → Int → σ → Except Int σ} {R : σ → σ → Prop} (r0 : ∀ s, R s s) (rt : ∀ a b c, R a b → R b c → R a c) (hM : ∀ p t n s s', MF p t n s = .ok s' → R s s') : ∀ (b : Bool) (l l' : List Tm) (n : Int) (s s' : σ), nodeL MF b l l' n s = .ok s' → R s s'
  | b, [], l', n, s, s', q => by rw [nodeL] at q; cases q; exact r0 _
  | b, _ :: _, [], n, s, s', q => by rw [nodeL] at q; cases q; exact r0 _
  | b, p :: l, t :: l', n, s, s', q => by
    rw [nodeL] at q
    split at q
    · cases q
    · rename_i s2 h2
      exact rt _ _ _ (nodeF_rel r0 rt hM _ _ _ _ _ h2) (nodeL_rel r0 rt hM _ _ _ _ _ _ q)
end
theorem metaF_ext {params rigid : List Bool} {p t : Tm} {n : Int} {s s' : List Bd} (q : metaF params rigid p t n s = .ok s') : Ext s s' := by
  unfold metaF at q
  split at q
  · cases q
  · split at q
    · split at q
      · cases q; exact Ext.refl _
      · cases q
    · rename_i hn
      split at q
      · cases q
      · split at q
        · cases q
        · split at q
          · cases q
          · cases q
            exact Ext.set hn _
theorem match_ext {params rigid : List Bool} {p t : Tm} {n : Int} {s s' : List Bd} (q : MatchV params rigid p t n s = .ok s') : Ext s s' := by
  unfold MatchV at q
  split at q
  · exact nodeF_rel Ext.refl (fun _ _ _ => Ext.trans) (fun _ _ _ _ _ => metaF_ext) _ _ _ _ _ q
  · cases q
theorem match_keeps {params rigid : List Bool} {p t : Tm} {n : Int} {s s' : List Bd} (q : MatchV params rigid p t n s = .ok s') : s.length = s'.length ∧ ∀ i, (hi : i < s.length) → (hj : i < s'.length) → s[i].is = true → s'[i] = s[i] := by
  obtain ⟨h1, h2⟩ := match_ext q
  refine ⟨h1, fun i hi hj his => ?_⟩
  have := h2 i s[i] (List.getElem?_eq_getElem hi) his
  rw [List.getElem?_eq_getElem hj] at this
  exact Option.some.inj this

mutual
/-- How deep a term is. -/
def dpT : Tm → Nat
  | ⟨_, _, a⟩ => dpL a + 1
def dpL : List Tm → Nat
  | [] => 0
  | t :: l => max (dpT t) (dpL l)
end
mutual
theorem dp_eq : ∀ t : Tm, cnt t ≤ 1000000 → depthW t = (dpT t : Int) ∧ dpT t ≤ cnt t
  | ⟨k, h, a⟩, hc => by
    rw [cnt] at hc
    obtain ⟨h1, h2⟩ := dpL_eq a 0 (by omega) (by omega)
    have e : depthL 0 a = ((max 0 (dpL a) : Nat) : Int) := h1
    rw [depthW, dpT, cnt, e]
    refine ⟨?_, by omega⟩
    unfold wrap64
    omega
theorem dpL_eq : ∀ (l : List Tm) (m : Nat), cntL l ≤ 1000000 → m ≤ 1000000 → depthL (m : Int) l = ((max m (dpL l) : Nat) : Int) ∧ dpL l ≤ cntL l
  | [], m, _, _ => by rw [depthL, dpL]; exact ⟨by simp, Nat.zero_le _⟩
  | t :: l, m, hc, hm => by
    rw [cntL] at hc
    obtain ⟨h1, h2⟩ := dp_eq t (by omega)
    have e : mx (m : Int) (dpT t : Int) = ((max m (dpT t) : Nat) : Int) := by unfold mx; split <;> omega
    obtain ⟨h3, h4⟩ := dpL_eq l (max m (dpT t)) (by omega) (by omega)
    rw [depthL, h1, e, h3, dpL, cntL]
    exact ⟨by congr 1; omega, by omega⟩
end
theorem lastN_le {b : Bool} {l : List Tm} {n : Int} (h0 : 0 ≤ n) (h1 : n ≤ 1000000) : 0 ≤ lastN b l n ∧ lastN b l n ≤ n + 1 := by
  unfold lastN
  split
  · unfold wrap64; omega
  · omega

theorem vars_su2 {xs : List Int} {n : Int} (hm : MayV xs n) (hx : xs.length ≤ 200) : maySu ⟨varsT xs, n⟩ = true := by
  obtain ⟨h0, h1, h2⟩ := hm
  have h3 := vars_may (xs := xs) (fun x hx => by
    obtain ⟨i, hi, rfl⟩ := List.getElem_of_mem hx
    exact (h2 i hi).1)
  unfold maySu
  simp only [h3, varsT_len, Bool.not_false, Bool.and_true, Bool.and_eq_true, decide_eq_true_eq]
  omega
/-- What was renamed, under these variables. -/
theorem ap_back {t u : Tm} {xs : List Int} {n : Int} (hm : MayV xs n) (hx : xs.length ≤ 200) (hmb : mayB t = true) (hb : hB 2199023255552 t) (hc : cnt t ≤ 4000) (hr : renW (rnV xs n) t 0 = some u) : apF u ⟨varsT xs, n⟩ = .ok t ∧ mayB u = true ∧ hB 4398046511104 u ∧ cnt u = cnt t := by
  obtain ⟨q1, q2, q3⟩ := ren_may hm t u 0 hr hb (by omega)
  have hev := ev_back hm t u 0 0 hr hb (by omega) (by omega)
  rw [sg_zero] at hev
  have hmu : mayB u = true := by
    have hmb' := hmb
    rw [mayB_eq] at hmb'
    simp only [Bool.and_eq_true, decide_eq_true_eq] at hmb'
    rw [mayB_eq, q3, sizeR_eq, q2, may_of_hB q1, ← sizeR_eq]
    simp only [Bool.and_eq_true, decide_eq_true_eq]
    exact ⟨hmb'.1, hmb'.2.1, trivial⟩
  exact ⟨apF_of (.ok (by rw [hmu, vars_su2 hm hx]; rfl) hev hmb), hmu, q1, q2⟩
theorem fillF_vars (th : List Tm) (j : Int) (xs : List Int) (n : Int) (hv : ∀ y ∈ xs, 0 ≤ y) : fillF th ⟨6, j, varsT xs⟩ n = if (th.length : Int) ≤ j then .error 2 else apF ((th[j.toNat]?).getD ⟨0, 0, []⟩) ⟨varsT xs, n⟩ := by
  rw [fillF, fill_vars]
  simp [vars_may hv]
theorem meta_may2 {xs : List Int} {j : Int} (hj : 0 ≤ j) (h : ∀ x ∈ xs, 0 ≤ x) (hl : xs.length ≤ 200) : mayB ⟨6, j, varsT xs⟩ = true := by
  have h1 := meta_may h hl
  rw [mayB_eq, depthW, sizeR, nodesOk] at h1 ⊢
  simp only [Bool.and_eq_true, decide_eq_true_eq] at h1 ⊢
  refine ⟨h1.1, h1.2.1, ?_, h1.2.2.2⟩
  simp [mayN, hj]
theorem zero_may : mayB (⟨0, 0, []⟩ : Tm) = true := by rw [mayB_eq]; simp [depthW, depthL, sizeR, sizeRL, nodesOk, nodesOkL, mayN, wrap64]
theorem told_may {s : List Bd} (h : ∀ x ∈ s, x.is = true → mayB x.t = true) : ((toldV s).any fun t => !mayB t) = false := by
  rw [List.any_eq_false]
  intro e he
  unfold toldV at he
  obtain ⟨x, hx, rfl⟩ := List.mem_map.1 he
  unfold toldT
  cases hi : x.is with
  | true => simp [h x hx hi]
  | false => simp [zero_may]
theorem odd_none {s : List Bd} (h : ∀ x ∈ s, x.is = true → mayB x.t = true) : s.any oddBd = false := by
  rw [List.any_eq_false]
  intro x hx
  unfold oddBd
  cases hi : x.is with
  | true => simp [h x hx hi]
  | false => simp
theorem vars_no (xs : List Int) (q : Int → Bool) : ((varsT xs).any fun a => (metasOf (nodesW a 0)).any q) = false := by
  rw [List.any_eq_false]
  intro e he
  unfold varsT at he
  obtain ⟨x, hx, rfl⟩ := List.mem_map.1 he
  simp [nodesW, nodesL, metasOf]
theorem told_at {s : List Bd} {j : Nat} {x : Bd} (hx : s[j]? = some x) (hi : x.is = true) : (toldV s)[j]? = some x.t := by
  unfold toldV
  rw [List.getElem?_map, hx]
  simp [toldT, hi]
theorem known_ok {s : List Bd} {j : Nat} {x : Bd} {xs : List Int} {n : Int} {t : Tm} (hx : s[j]? = some x) (hi : x.is = true) (hap : apF x.t ⟨varsT xs, n⟩ = .ok t) (ht : mayB t = true) (hm : MayV xs n) (hl : xs.length ≤ 200) (hs : s.length ≤ 200) (hms : ∀ x ∈ s, x.is = true → mayB x.t = true) :
    fillF (toldV s) ⟨6, j, varsT xs⟩ n = .ok t ∧ ∀ params rigid, metaF params rigid ⟨6, j, varsT xs⟩ t n s = .ok s := by
  have hv : ∀ y ∈ xs, 0 ≤ y := fun y hy => (may_le hm y hy).1
  have hjl : j < s.length := (List.getElem?_eq_some_iff.1 hx).1
  have hf : fillF (toldV s) ⟨6, j, varsT xs⟩ n = .ok t := by
    rw [fillF_vars _ _ _ _ hv, toldV_len, if_neg (by omega), Int.toNat_natCast, told_at hx hi]
    exact hap
  refine ⟨hf, fun params rigid => ?_⟩
  have hk : knownV s ⟨6, j, varsT xs⟩ t n = 0 := by
    unfold knownV
    rw [vars_no, if_neg (by decide)]
    have hF : FillV (toldV s) ⟨6, j, varsT xs⟩ n = .ok t := by
      unfold FillV
      rw [meta_may2 (by omega) hv hl, hf, told_may hms, toldV_len]
      have h0 := hm.1
      have h1 := hm.2.1
      simp [h0, h1, ht]
      omega
    rw [hF]
    simp [sameB_refl]
  unfold metaF
  rw [if_neg (by simp only; omega)]
  simp only [Int.toNat_natCast]
  rw [hx, Option.map_some, hi]
  simp [hk]
theorem known_fill {s : List Bd} {p t : Tm} {n : Int} (h : knownV s p t n = 0) : fillF (toldV s) p n = .ok t ∧ mayB t = true := by
  unfold knownV at h
  split at h
  · cases h
  · split at h
    · rename_i e he
      exfalso
      subst h
      unfold FillV at he
      split at he
      · split at he
        · rename_i e' h2
          cases he
          exact fillF_ne h2 rfl
        · split at he
          · cases he
          · cases he
      · cases he
    · rename_i u hu
      split at h
      · rename_i hs
        obtain rfl := same_eq hs
        unfold FillV at hu
        split at hu
        · split at hu
          · cases hu
          · split at hu
            · rename_i h2 h3
              cases hu
              exact ⟨h2, h3⟩
            · cases hu
        · cases hu
      · cases h

theorem pats_node {k h : Int} {a : List Tm} {n : Int} : patsB ⟨k, h, a⟩ n = ((!(k == 6) || (patV a n).isSome) && (nodesL (isB k) a n).all fun x => patP x.1 x.2) := by
  unfold patsB
  rw [nodesW, List.all_cons]
  rfl
/-- The metas of these are something. -/
def Told (s : List Bd) (l : List Int) : Prop := ∀ h ∈ l, ∃ x, s[h.toNat]? = some x ∧ x.is = true
theorem Told.ext {s s' : List Bd} {l : List Int} (h : Told s l) (k : Ext s s') : Told s' l := fun j hj => by
  obtain ⟨x, h1, h2⟩ := h j hj
  exact ⟨x, k.2 _ x h1 h2, h2⟩
theorem vars_metas (b : Bool) (xs : List Int) (m : Int) : metasOf (nodesL b (varsT xs) m) = [] := by
  induction xs with
  | nil => rfl
  | cons x xs ih =>
    rw [varsT, List.map_cons, nodesL, metasOf, List.filterMap_append, show (List.map (fun h => (⟨4, h, []⟩ : Tm)) xs) = varsT xs from rfl]
    have := ih
    unfold metasOf at this
    rw [this]
    simp [nodesW, nodesL]

def MayS (s : List Bd) : Prop := ∀ x ∈ s, x.is = true → mayB x.t = true ∧ hB 4398046511104 x.t ∧ cnt x.t ≤ 4000
theorem MayS.may {s : List Bd} (h : MayS s) : ∀ x ∈ s, x.is = true → mayB x.t = true := fun x hx hi => (h x hx hi).1
mutual
theorem fills_node {params rigid : List Bool} : ∀ (p t : Tm) (n : Int) (s s' : List Bd), nodeF (metaF params rigid) p t n s = .ok s' → patsB p n = true → 0 ≤ n → n + dpT p ≤ 200 → hB 4398046511104 p → hB 2199023255552 t → cnt t ≤ 4000 → s.length ≤ 200 → MayS s →
    Ext s s' ∧ MayS s' ∧ (∀ m, Told s' (metasOf (nodesW p m))) ∧ ∀ s2, Ext s' s2 → MayS s2 → fillF (toldV s2) p n = .ok t ∧ nodeF (metaF params rigid) p t n s2 = .ok s2
  | ⟨k, h, a⟩, t, n, s, s', q, hp, h0, h1, hbp, hbt, hct, hsl, hms => by
    rw [pats_node, Bool.and_eq_true] at hp
    rw [dpT] at h1
    rw [hB] at hbp
    by_cases hk : k = 6
    · subst hk
      have hpv := hp.1
      simp at hpv
      obtain ⟨xs, hxs⟩ := Option.isSome_iff_exists.1 hpv
      obtain rfl := patV_eq hxs
      have hm : MayV xs n := pat_may h0 (by omega) hxs
      have hxl : xs.length ≤ 200 := by have := MayV.len hm; omega
      have hh0 : 0 ≤ h := mayN_head hbp.1
      obtain ⟨j, rfl⟩ := Int.eq_ofNat_of_zero_le hh0
      have hv : ∀ y ∈ xs, 0 ≤ y := fun y hy => (may_le hm y hy).1
      have hmet : ∀ m, metasOf (nodesW ⟨6, (j : Int), varsT xs⟩ m) = [(j : Int)] := fun m => by
        rw [nodesW, metasOf, List.filterMap_cons]
        have := vars_metas (isB 6) xs m
        unfold metasOf at this
        simp [this]
      rw [nodeF, if_pos rfl] at q
      have hext := metaF_ext q
      unfold metaF at q
      simp only [Int.toNat_natCast] at q
      split at q
      · cases q
      · rename_i hjl
        split at q
        · rename_i his
          split at q
          · rename_i hkn
            cases q
            obtain ⟨hf, htm⟩ := known_fill hkn
            cases hx : s[j]? with
            | none => rw [hx] at his; simp at his
            | some x =>
              rw [hx] at his
              simp at his
              have hap : apF x.t ⟨varsT xs, n⟩ = .ok t := by
                rw [fillF_vars _ _ _ _ hv, toldV_len, if_neg (by omega), Int.toNat_natCast, told_at hx his] at hf
                exact hf
              refine ⟨hext, hms, fun m i hi => ?_, fun s2 he hm2 => ?_⟩
              · rw [hmet] at hi
                simp at hi
                subst hi
                exact ⟨x, by simpa using hx, his⟩
              · obtain ⟨w1, w2⟩ := known_ok (he.2 j x hx his) his hap htm hm hxl (by have := he.1; omega) hm2.may
                exact ⟨w1, by rw [nodeF, if_pos rfl]; exact w2 params rigid⟩
          · cases q
        · rename_i hnis
          rw [hxs] at q
          simp only at q
          split at q
          · cases q
          · rename_i u hu
            split at q
            · cases q
            · cases q
              have hmt : mayB t = true := by
                cases hmt : mayB t with
                | true => rfl
                | false => unfold invV at hu; rw [hmt] at hu; simp at hu
              have hr : renW (rnV xs n) t 0 = some u := by
                unfold invV at hu
                rw [hmt, mayV_true hm] at hu
                simp only [Bool.and_self, if_true] at hu
                cases hr : renW (rnV xs n) t 0 with
                | none => rw [hr] at hu; simp at hu
                | some z => rw [hr] at hu; simp at hu; rw [hu]
              obtain ⟨hap, hmu, hub, huc⟩ := ap_back hm hxl hmt hbt hct hr
              have hjs : j < s.length := by omega
              have hat : (s.set j ⟨true, u⟩)[j]? = some ⟨true, u⟩ := by simp [hjs]
              have hms' : MayS (s.set j ⟨true, u⟩) := fun x hx hi => by
                rcases List.mem_or_eq_of_mem_set hx with hx | rfl
                · exact hms x hx hi
                · exact ⟨hmu, hub, by simp only; omega⟩
              refine ⟨hext, hms', fun m i hi => ?_, fun s2 he hm2 => ?_⟩
              · rw [hmet] at hi
                simp at hi
                subst hi
                exact ⟨_, by simpa using hat, rfl⟩
              · obtain ⟨w1, w2⟩ := known_ok (he.2 j _ hat rfl) rfl hap hmt hm hxl (by have := he.1; simp at this; omega) hm2.may
                exact ⟨w1, by rw [nodeF, if_pos rfl]; exact w2 params rigid⟩
    · rw [nodeF, if_neg hk] at q
      split at q
      · rename_i he
        obtain ⟨k', h', a'⟩ := t
        dsimp only at he q
        obtain ⟨rfl, rfl, hl⟩ := he
        rw [hB] at hbt
        rw [cnt] at hct
        obtain ⟨r1, r2, r3, r4⟩ := fills_list (isB k) a a' n s s' hl q hp.2 h0 (by omega) hbp.2.2 hbt.2.2 (by omega) hsl hms
        refine ⟨r1, r2, fun m => ?_, fun s2 e2 m2 => ?_⟩
        · have : metasOf (nodesW ⟨k, h, a⟩ m) = metasOf (nodesL (isB k) a m) := by
            rw [nodesW, metasOf, List.filterMap_cons]
            simp [hk, metasOf]
          rw [this]
          exact r3 m
        · obtain ⟨w1, w2⟩ := r4 s2 e2 m2
          refine ⟨?_, ?_⟩
          · rw [fillF, w1]
            simp [hk]
          · rw [nodeF, if_neg hk, if_pos ⟨rfl, rfl, hl⟩]
            exact w2
      · cases q
theorem fills_list {params rigid : List Bool} : ∀ (b : Bool) (l l' : List Tm) (n : Int) (s s' : List Bd), l.length = l'.length → nodeL (metaF params rigid) b l l' n s = .ok s' → ((nodesL b l n).all fun x => patP x.1 x.2) = true → 0 ≤ n → n + 1 + dpL l ≤ 200 → hBL 4398046511104 l → hBL 2199023255552 l' → cntL l' ≤ 4000 → s.length ≤ 200 → MayS s →
    Ext s s' ∧ MayS s' ∧ (∀ m, Told s' (metasOf (nodesL b l m))) ∧ ∀ s2, Ext s' s2 → MayS s2 → fillL (toldV s2) b l n = .ok l' ∧ nodeL (metaF params rigid) b l l' n s2 = .ok s2
  | b, [], l', n, s, s', hl, q, hp, h0, h1, hbp, hbt, hct, hsl, hms => by
    obtain rfl : l' = [] := List.eq_nil_of_length_eq_zero hl.symm
    rw [nodeL] at q
    cases q
    exact ⟨Ext.refl _, hms, (fun m i hi => by rw [nodesL] at hi; cases hi), fun s2 _ _ => ⟨by rw [fillL], by rw [nodeL]⟩⟩
  | b, p :: l, [], n, s, s', hl, q, hp, h0, h1, hbp, hbt, hct, hsl, hms => by simp at hl
  | b, p :: l, t :: l', n, s, s', hl, q, hp, h0, h1, hbp, hbt, hct, hsl, hms => by
    have hl' : l.length = l'.length := by simpa using hl
    rw [nodesL, List.all_append, Bool.and_eq_true] at hp
    rw [dpL] at h1
    rw [hBL] at hbp hbt
    rw [cntL] at hct
    rw [nodeL] at q
    split at q
    · cases q
    · rename_i sm hq
      have hle := lastN_le (b := b) (l := l) h0 (by omega)
      obtain ⟨r1, r2, r3, r4⟩ := fills_node p t (lastN b l n) s sm hq hp.1 hle.1 (by omega) hbp.1 hbt.1 (by omega) hsl hms
      obtain ⟨z1, z2, z3, z4⟩ := fills_list b l l' n sm s' hl' q hp.2 h0 (by omega) hbp.2 hbt.2 (by omega) (by have := r1.1; omega) r2
      refine ⟨r1.trans z1, z2, fun m i hi => ?_, fun s2 e2 m2 => ?_⟩
      · rw [nodesL, metasOf, List.filterMap_append] at hi
        rcases List.mem_append.1 hi with hi | hi
        · exact (r3 _).ext z1 i hi
        · exact z3 m i hi
      · obtain ⟨w1, w2⟩ := r4 s2 (z1.trans e2) m2
        obtain ⟨w3, w4⟩ := z4 s2 e2 m2
        refine ⟨by rw [fillL, w1]; simp only; rw [w3], by rw [nodeL, w2]; exact w4⟩
end
end Go.Proofs.Yteojhbhaocgjoaa
namespace Go.Proofs.Yteojhbhaocgjoaa
open Go.RowKit Go.Shelf
set_option linter.unusedVariables false
set_option linter.unusedSimpArgs false

/-- What a meta with these variables becomes, filled. -/
theorem fw_fill {xs : List Int} {n : Int} (hm : MayV xs n) (hl : xs.length ≤ 200) {x : Tm} (hx : mayB x = true) (hb : hB 1099511627776 x) (hc : cnt x ≤ 1000) :
    apF x ⟨varsT xs, n⟩ = .ok (fwT xs n x 0) ∧ mayB (fwT xs n x 0) = true ∧ hB 2199023255552 (fwT xs n x 0) ∧ cnt (fwT xs n x 0) = cnt x ∧ renW (rnV xs n) (fwT xs n x 0) 0 = some x := by
  obtain ⟨q1, q2, q3, q4⟩ := fw_ren hm x 0 hb (by omega)
  have hmt : mayB (fwT xs n x 0) = true := by
    have hx' := hx
    rw [mayB_eq] at hx'
    simp only [Bool.and_eq_true, decide_eq_true_eq] at hx'
    rw [mayB_eq, q4, sizeR_eq, q3, may_of_hB q2, ← sizeR_eq]
    simp only [Bool.and_eq_true, decide_eq_true_eq]
    exact ⟨hx'.1, hx'.2.1, trivial⟩
  have q1' : renW (rnV xs n) (fwT xs n x 0) 0 = some x := q1
  obtain ⟨hap, -, -, -⟩ := ap_back hm hl hmt q2 (by omega) q1'
  exact ⟨hap, hmt, q2, q3, q1'⟩
/-- What is something is what it is filled with. -/
def Agree (s : List Bd) (th : List Tm) : Prop := ∀ (i : Nat) (x : Bd), s[i]? = some x → x.is = true → th[i]? = some x.t
def GoodTh (th : List Tm) : Prop := th.length ≤ 200 ∧ ∀ x ∈ th, mayB x = true ∧ hB 1099511627776 x ∧ cnt x ≤ 1000
theorem Agree.may {s : List Bd} {th : List Tm} (h : Agree s th) (g : GoodTh th) : MayS s := fun x hx hi => by
  obtain ⟨i, hi', rfl⟩ := List.getElem_of_mem hx
  obtain ⟨g1, g2, g3⟩ := g.2 _ (List.mem_of_getElem? (h i _ (List.getElem?_eq_getElem hi') hi))
  exact ⟨g1, g2.mono (by decide), by omega⟩

/-- A meta of variables, filled by what may be. -/
theorem meta_fill {th : List Tm} (g : GoodTh th) {j : Nat} {xs : List Int} {n : Int} {r : Except Int Tm} (hm : MayV xs n) (hl : xs.length ≤ 200) (q : fillF th ⟨6, j, varsT xs⟩ n = r) :
    (th.length ≤ j ∧ r = .error 2) ∨ ∃ x, th[j]? = some x ∧ x ∈ th ∧ r = .ok (fwT xs n x 0) := by
  have hv : ∀ y ∈ xs, 0 ≤ y := fun y hy => (may_le hm y hy).1
  rw [fillF_vars _ _ _ _ hv] at q
  by_cases hj : th.length ≤ j
  · rw [if_pos (by omega)] at q
    exact .inl ⟨hj, q.symm⟩
  · have hjl : j < th.length := by omega
    rw [if_neg (by omega), Int.toNat_natCast, List.getElem?_eq_getElem hjl, Option.getD_some] at q
    have hmem := List.getElem_mem hjl
    obtain ⟨g1, g2, g3⟩ := g.2 _ hmem
    rw [(fw_fill hm hl g1 g2 g3).1] at q
    exact .inr ⟨th[j], List.getElem?_eq_getElem hjl, hmem, q.symm⟩
theorem node_metas {k h : Int} {a : List Tm} (hk : k ≠ 6) (m : Int) : metasOf (nodesW ⟨k, h, a⟩ m) = metasOf (nodesL (isB k) a m) := by
  rw [nodesW, metasOf, List.filterMap_cons]
  simp [hk, metasOf]
theorem meta_metas (j : Int) (xs : List Int) (m : Int) : metasOf (nodesW ⟨6, j, varsT xs⟩ m) = [j] := by
  rw [nodesW, metasOf, List.filterMap_cons]
  have := vars_metas (isB 6) xs m
  unfold metasOf at this
  simp [this]
theorem pats_meta {h : Int} {a : List Tm} {n : Int} (hp : patsB ⟨6, h, a⟩ n = true) (h0 : 0 ≤ n) (h1 : n ≤ 200) : ∃ xs, patV a n = some xs ∧ a = varsT xs ∧ MayV xs n ∧ xs.length ≤ 200 := by
  rw [pats_node, Bool.and_eq_true] at hp
  have hpv := hp.1
  simp at hpv
  obtain ⟨xs, hxs⟩ := Option.isSome_iff_exists.1 hpv
  obtain rfl := patV_eq hxs
  have hm : MayV xs n := pat_may h0 (by omega) hxs
  exact ⟨xs, hxs, rfl, hm, by have := MayV.len hm; omega⟩
theorem pats_args {k h : Int} {a : List Tm} {n : Int} (hp : patsB ⟨k, h, a⟩ n = true) : ((nodesL (isB k) a n).all fun x => patP x.1 x.2) = true := by
  rw [pats_node, Bool.and_eq_true] at hp
  exact hp.2

mutual
theorem finds_node {params rigid : List Bool} (hnp : ∀ h, boolAt params h = false) {th : List Tm} (g : GoodTh th) : ∀ (p t : Tm) (n : Int) (s : List Bd), fillF th p n = .ok t → patsB p n = true → 0 ≤ n → n + dpT p ≤ 200 → hB 4398046511104 p → s.length = th.length → Agree s th →
    ∃ s', nodeF (metaF params rigid) p t n s = .ok s' ∧ Agree s' th ∧ Ext s s' ∧ ∀ m, Told s' (metasOf (nodesW p m))
  | ⟨k, h, a⟩, t, n, s, q, hp, h0, h1, hbp, hsl, hag => by
    rw [dpT] at h1
    rw [hB] at hbp
    by_cases hk : k = 6
    · subst hk
      obtain ⟨xs, hxs, rfl, hm, hxl⟩ := pats_meta hp h0 (by omega)
      have hh0 : 0 ≤ h := mayN_head hbp.1
      obtain ⟨j, rfl⟩ := Int.eq_ofNat_of_zero_le hh0
      rcases meta_fill g hm hxl q with ⟨_, hq⟩ | ⟨x, hx, hmem, hq⟩
      · cases hq
      obtain rfl := Except.ok.inj hq
      obtain ⟨g1, g2, g3⟩ := g.2 _ hmem
      obtain ⟨f1, f2, f3, f4, f5⟩ := fw_fill hm hxl g1 g2 g3
      have hjl : j < s.length := by rw [hsl]; exact (List.getElem?_eq_some_iff.1 hx).1
      have hy : s[j]? = some s[j] := List.getElem?_eq_getElem hjl
      rw [nodeF, if_pos rfl]
      cases hi : s[j].is with
      | true =>
        have e := hag j _ hy hi
        rw [hx] at e
        have e := Option.some.inj e
        obtain ⟨w1, w2⟩ := known_ok hy hi (by rw [← e]; exact f1) f2 hm hxl (by rw [hsl]; exact g.1) (hag.may g).may
        refine ⟨s, w2 params rigid, hag, Ext.refl _, fun m i hi' => ?_⟩
        rw [meta_metas] at hi'
        simp at hi'
        subst hi'
        exact ⟨_, by simp, hi⟩
      | false =>
        have hinv : invV (fwT xs n x 0) xs n = (some x, 0) := by
          unfold invV
          rw [f2, mayV_true hm, f5]
          rfl
        have hF : metaF params rigid ⟨6, (j : Int), varsT xs⟩ (fwT xs n x 0) n s = .ok (s.set j ⟨true, x⟩) := by
          unfold metaF
          rw [if_neg (by simp only; omega)]
          simp only [Int.toNat_natCast]
          rw [hy, Option.map_some, hi, hxs]
          simp only [Option.getD_some, Bool.false_eq_true, if_false]
          rw [hinv, hnp]
          simp
        refine ⟨_, hF, fun i y hiy his => ?_, metaF_ext hF, fun m i hi' => ?_⟩
        · by_cases e : j = i
          · subst e
            rw [List.getElem?_set_self hjl] at hiy
            obtain rfl := Option.some.inj hiy
            exact hx
          · rw [List.getElem?_set_ne e] at hiy
            exact hag i y hiy his
        · rw [meta_metas] at hi'
          simp at hi'
          subst hi'
          exact ⟨⟨true, x⟩, by simp [hjl], rfl⟩
    · rw [fillF] at q
      split at q
      · cases q
      · rename_i l hl
        rw [if_neg hk] at q
        obtain rfl := Except.ok.inj q
        obtain ⟨s', w1, w2, w3, w4, w5⟩ := finds_list hnp g (isB k) a l n s hl (pats_args hp) h0 (by omega) hbp.2.2 hsl hag
        refine ⟨s', ?_, w2, w3, fun m => by rw [node_metas hk]; exact w4 m⟩
        rw [nodeF, if_neg hk, if_pos ⟨rfl, rfl, w5⟩]
        exact w1
theorem finds_list {params rigid : List Bool} (hnp : ∀ h, boolAt params h = false) {th : List Tm} (g : GoodTh th) : ∀ (b : Bool) (l l' : List Tm) (n : Int) (s : List Bd), fillL th b l n = .ok l' → ((nodesL b l n).all fun x => patP x.1 x.2) = true → 0 ≤ n → n + 1 + dpL l ≤ 200 → hBL 4398046511104 l → s.length = th.length → Agree s th →
    ∃ s', nodeL (metaF params rigid) b l l' n s = .ok s' ∧ Agree s' th ∧ Ext s s' ∧ (∀ m, Told s' (metasOf (nodesL b l m))) ∧ l.length = l'.length
  | b, [], l', n, s, q, hp, h0, h1, hbp, hsl, hag => by
    rw [fillL] at q
    obtain rfl := Except.ok.inj q
    refine ⟨s, by rw [nodeL], hag, Ext.refl _, fun m i hi => ?_, rfl⟩
    rw [nodesL] at hi
    cases hi
  | b, p :: l, l', n, s, q, hp, h0, h1, hbp, hsl, hag => by
    rw [nodesL, List.all_append, Bool.and_eq_true] at hp
    rw [dpL] at h1
    rw [hBL] at hbp
    rw [fillL] at q
    split at q
    · cases q
    · rename_i u hu
      split at q
      · cases q
      · rename_i us hus
        obtain rfl := Except.ok.inj q
        have hle := lastN_le (b := b) (l := l) h0 (by omega)
        obtain ⟨s1, r1, r2, r3, r4⟩ := finds_node hnp g p u (lastN b l n) s hu hp.1 hle.1 (by omega) hbp.1 hsl hag
        obtain ⟨s2, z1, z2, z3, z4, z5⟩ := finds_list hnp g b l us n s1 hus hp.2 h0 (by omega) hbp.2 (by have := r3.1; omega) r2
        refine ⟨s2, by rw [nodeL, r1]; exact z1, z2, r3.trans z3, fun m i hi => ?_, by simp [z5]⟩
        rw [nodesL, metasOf, List.filterMap_append] at hi
        rcases List.mem_append.1 hi with hi | hi
        · exact (r4 _).ext z3 i hi
        · exact z4 m i hi
end

mutual
theorem fillb_node {th : List Tm} (g : GoodTh th) : ∀ (p : Tm) (n : Int) (r : Except Int Tm), fillF th p n = r → patsB p n = true → 0 ≤ n → n + dpT p ≤ 200 → hB 1099511627776 p → r = .error 2 ∨ ∃ t, r = .ok t ∧ hB 2199023255552 t ∧ cnt t ≤ 1000 * cnt p
  | ⟨k, h, a⟩, n, r, q, hp, h0, h1, hbp => by
    rw [dpT] at h1
    rw [hB] at hbp
    by_cases hk : k = 6
    · subst hk
      obtain ⟨xs, hxs, rfl, hm, hxl⟩ := pats_meta hp h0 (by omega)
      have hh0 : 0 ≤ h := mayN_head hbp.1
      obtain ⟨j, rfl⟩ := Int.eq_ofNat_of_zero_le hh0
      rcases meta_fill g hm hxl q with ⟨_, hq⟩ | ⟨x, hx, hmem, hq⟩
      · exact .inl hq
      · obtain ⟨g1, g2, g3⟩ := g.2 _ hmem
        obtain ⟨f1, f2, f3, f4, f5⟩ := fw_fill hm hxl g1 g2 g3
        exact .inr ⟨_, hq, f3, by rw [f4, cnt]; omega⟩
    · rw [fillF] at q
      rcases fillb_list g (isB k) a n _ rfl (pats_args hp) h0 (by omega) hbp.2.2 with e | ⟨l, e, e1, e2, e3⟩
      · rw [e] at q
        exact .inl q.symm
      · rw [e] at q
        simp only [hk, if_false] at q
        refine .inr ⟨_, q.symm, ?_, ?_⟩
        · rw [hB]
          exact ⟨by rw [e3]; exact hbp.1, by omega, e1⟩
        · rw [cnt, cnt]; omega
theorem fillb_list {th : List Tm} (g : GoodTh th) : ∀ (b : Bool) (l : List Tm) (n : Int) (r : Except Int (List Tm)), fillL th b l n = r → ((nodesL b l n).all fun x => patP x.1 x.2) = true → 0 ≤ n → n + 1 + dpL l ≤ 200 → hBL 1099511627776 l → r = .error 2 ∨ ∃ l', r = .ok l' ∧ hBL 2199023255552 l' ∧ cntL l' ≤ 1000 * cntL l ∧ l'.length = l.length
  | b, [], n, r, q, hp, h0, h1, hbp => by
    rw [fillL] at q
    exact .inr ⟨[], q.symm, trivial, by simp [cntL], rfl⟩
  | b, p :: l, n, r, q, hp, h0, h1, hbp => by
    rw [nodesL, List.all_append, Bool.and_eq_true] at hp
    rw [dpL] at h1
    rw [hBL] at hbp
    rw [fillL] at q
    have hle := lastN_le (b := b) (l := l) h0 (by omega)
    rcases fillb_node g p (lastN b l n) _ rfl hp.1 hle.1 (by omega) hbp.1 with e | ⟨t, e, e1, e2⟩
    · rw [e] at q
      exact .inl q.symm
    · rw [e] at q
      rcases fillb_list g b l n _ rfl hp.2 h0 (by omega) hbp.2 with f | ⟨l', f, f1, f2, f3⟩
      · rw [f] at q
        exact .inl q.symm
      · rw [f] at q
        refine .inr ⟨_, q.symm, ?_, ?_, by simp [f3]⟩
        · rw [hBL]; exact ⟨e1, f1⟩
        · rw [cntL, cntL]; omega
end
end Go.Proofs.Yteojhbhaocgjoaa
namespace Go.Proofs.Yteojhbhaocgjoaa
open Go.RowKit Go.Shelf
set_option linter.unusedVariables false
theorem bd0_may (n : Nat) : MayS (bd0 n) := fun x hx hi => by
  simp [bd0] at hx
  rw [hx.2] at hi
  cases hi
theorem bo_at (n : Nat) (h : Int) : boolAt (List.replicate n false) h = false := by
  unfold boolAt
  rw [List.getElem?_replicate]
  split <;> rfl
theorem match_ok {params rigid : List Bool} {p t : Tm} {n : Int} {s : List Bd} (h1 : mayB p = true) (h2 : mayB t = true) (hn : 0 ≤ n ∧ n ≤ 100) (hl : s.length ≤ 200) (hp : s.length = params.length) (hs : MayS s) : MatchV params rigid p t n s = nodeF (metaF params rigid) p t n s := by
  unfold MatchV
  rw [h1, h2, odd_none hs.may]
  have e1 : ¬ n < 0 := by omega
  have e2 : ¬ 1000 < n := by omega
  have e3 : ¬ (200 : Int) < (s.length : Int) := by omega
  have e4 : decide (s.length = params.length) = true := decide_eq_true hp
  simp only [e1, e2, e3, e4, decide_false, Bool.not_false, Bool.and_self, if_true]
theorem may_dp {p : Tm} (hm : mayB p = true) (hc : cnt p ≤ 4000) : dpT p ≤ 60 := by
  rw [mayB_eq] at hm
  simp only [Bool.and_eq_true, decide_eq_true_eq] at hm
  have := (dp_eq p (by omega)).1
  omega
/-- What is told of a pattern that becomes a term. -/
theorem fills_law {p t : Tm} {n : Int} {N : Nat} (hp : mayB p = true) (ht : mayB t = true) (hbp : hB 1099511627776 p) (hbt : hB 1099511627776 t) (hcp : cnt p ≤ 4000) (hct : cnt t ≤ 4000) (hn : 0 ≤ n ∧ n ≤ 100) (hN : N ≤ 60) (hpat : patsB p n = true) {s : List Bd} (q : MatchV (List.replicate N false) [] p t n (bd0 N) = .ok s) :
    s.length = N ∧ MayS s ∧ Told s (metasOf (nodesW p 0)) ∧ FillV (toldV s) p n = .ok t ∧ MatchV (List.replicate N false) [] p t n s = .ok s := by
  have hd := may_dp hp hcp
  rw [match_ok hp ht hn (by rw [bd0_len]; omega) (by rw [bd0_len]; simp) (bd0_may N)] at q
  obtain ⟨r1, r2, r3, r4⟩ := fills_node p t n (bd0 N) s q hpat hn.1 (by omega) (hbp.mono (by decide)) (hbt.mono (by decide)) hct (by rw [bd0_len]; omega) (bd0_may N)
  have hsl : s.length = N := by have := r1.1; rw [bd0_len] at this; omega
  obtain ⟨w1, w2⟩ := r4 s (Ext.refl s) r2
  refine ⟨hsl, r2, r3 0, ?_, ?_⟩
  · unfold FillV
    rw [hp, w1, told_may r2.may, toldV_len, hsl]
    have e1 : ¬ n < 0 := by omega
    have e2 : ¬ 1000 < n := by omega
    have e3 : ¬ (200 : Int) < (N : Int) := by omega
    simp only [e1, e2, e3, decide_false, Bool.not_false, Bool.and_self, if_true, ht]
  · rw [match_ok hp ht hn (by omega) (by rw [hsl]; simp) r2]
    exact w2
/-- What a pattern becomes, filled, and what is told of it then. -/
theorem finds_law {p : Tm} {th : List Tm} {n : Int} (hp : mayB p = true) (hbp : hB 1099511627776 p) (hcp : cnt p ≤ 4000) (hn : 0 ≤ n ∧ n ≤ 100) (hl : th.length ≤ 60) (hth : ∀ x ∈ th, mayB x = true ∧ hB 1099511627776 x ∧ cnt x ≤ 1000) (hpat : patsB p n = true) :
    (FillV th p n = .error 2 ∨ FillV th p n = .error 4) ∨ ∃ t s, FillV th p n = .ok t ∧ mayB t = true ∧ hB 2199023255552 t ∧ cnt t ≤ 4000 ∧ MatchV (List.replicate th.length false) [] p t n (bd0 th.length) = .ok s ∧ s.length = th.length ∧
      ∀ h ∈ metasOf (nodesW p 0), ∃ x, s[h.toNat]? = some x ∧ x.is = true ∧ th[h.toNat]? = some x.t := by
  have hd := may_dp hp hcp
  have g : GoodTh th := ⟨by omega, hth⟩
  have e1 : ¬ n < 0 := by omega
  have e2 : ¬ 1000 < n := by omega
  have e3 : ¬ (200 : Int) < (th.length : Int) := by omega
  have hany : (th.any fun t => !mayB t) = false := by
    rw [List.any_eq_false]
    intro x hx
    simp [(hth x hx).1]
  have hF : FillV th p n = match fillF th p n with
    | .error e => .error e
    | .ok u => if mayB u = true then .ok u else .error 4 := by
    unfold FillV
    rw [hp, hany]
    simp only [e1, e2, e3, decide_false, Bool.not_false, Bool.and_self, if_true]
    rfl
  rcases fillb_node g p n _ rfl hpat hn.1 (by omega) hbp with e | ⟨t, e, e4, e5⟩
  · rw [hF, e]
    exact .inl (.inl rfl)
  · rw [hF, e]
    cases hm : mayB t with
    | false => exact .inl (.inr (by simp [hm]))
    | true =>
      have hct : cnt t ≤ 4000 := may_cnt hm (by omega)
      have hag : Agree (bd0 th.length) th := fun i x hx hi => by
        have := List.mem_of_getElem? hx
        simp [bd0] at this
        rw [this.2] at hi
        cases hi
      obtain ⟨s, r1, r2, r3, r4⟩ := finds_node (rigid := []) (bo_at th.length) g p t n (bd0 th.length) e hpat hn.1 (by omega) (hbp.mono (by decide)) (bd0_len _) hag
      refine .inr ⟨t, s, by simp [hm], hm, e4, hct, ?_, ?_, fun h hh => ?_⟩
      · rw [match_ok hp hm hn (by rw [bd0_len]; omega) (by rw [bd0_len]; simp) (bd0_may _)]
        exact r1
      · have := r3.1
        rw [bd0_len] at this
        omega
      · obtain ⟨x, h1, h2⟩ := r4 0 h hh
        exact ⟨x, h1, h2, r2 _ x h1 h2⟩
end Go.Proofs.Yteojhbhaocgjoaa
