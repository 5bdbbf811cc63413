/- The plain law InvertApply: what Invert tells, under these variables, comes to the term. The plain law InvertApply: what is asked of substitution holds. -/
import Derived.Test.YtbmmdfehhhgkcaaGreatSC
import Derived.Test.YtbmmdfehhhgkcaaGreatI3
import Derived.Test.YtbmmdfehhhgkcaaGreatMO
import Derived.Test.YtbmmdfehhhgkcaaGreatU9
import Derived.Test.YtbmmdfehhhgkcaaGreatI5
namespace Go.Proofs.YtbmmdfehhhgkcaaGreat
open Go.RowKit Go.Shelf
set_option linter.unusedVariables false
set_option linter.unusedSimpArgs false

/-- These variables, under so many binders. -/
def sgL (xs : List Int) (d : Nat) : List Tm := (xs.map fun h => (⟨4, h + (d : Int), []⟩ : Tm)) ++ (List.range d).map fun (q : Nat) => (⟨4, (d : Int) - 1 - (q : Int), []⟩ : Tm)
def sg (xs : List Int) (n : Int) (d : Nat) : Su := ⟨sgL xs d, n + (d : Int)⟩
theorem sgL_len (xs : List Int) (d : Nat) : (sgL xs d).length = xs.length + d := by simp [sgL]
theorem sg_zero (xs : List Int) (n : Int) : sg xs n 0 = ⟨varsT xs, n⟩ := by simp [sg, sgL, varsT]
theorem upT_var {h : Int} (h0 : 0 ≤ h) (h1 : h ≤ 4611686018427387904) : upT ⟨4, h, []⟩ 1 0 = ⟨4, h + 1, []⟩ := by
  have hw : wrap64 (h + 1) = h + 1 := by unfold wrap64; omega
  unfold upT
  split
  · rw [upW, upL]
    simp only [if_true]
    unfold upH
    rw [show wrap64 (0 + 0) = 0 from by unfold wrap64; omega, if_pos h0, hw]
  · rename_i hm
    exfalso
    apply hm
    have hy : mayB ⟨4, h, []⟩ = true := by
      rw [mayB_eq]
      simp [depthW, depthL, sizeR, sizeRL, nodesOk, nodesOkL, mayN, h0, wrap64]
    simp [mayS, hy]
theorem under_sg {xs : List Int} {n : Int} {d : Nat} (hx : ∀ x ∈ xs, 0 ≤ x ∧ x ≤ 1000) (hn : 0 ≤ n ∧ n ≤ 1000) (hd : d ≤ 1000000) : underS (sg xs n d) = sg xs n (d + 1) := by
  have hw : wrap64 (n + (d : Int) + 1) = n + ((d + 1 : Nat) : Int) := by unfold wrap64; omega
  unfold underS sg
  dsimp only
  rw [hw]
  congr 1
  unfold sgL
  rw [List.map_append, List.map_map, List.map_map, List.range_succ, List.map_append]
  simp only [List.append_assoc]
  congr 1
  · refine List.map_congr_left fun x hxm => ?_
    obtain ⟨h1, h2⟩ := hx x hxm
    simp only [Function.comp_apply]
    rw [upT_var (by omega) (by omega)]
    simp
    omega
  · congr 1
    · refine List.map_congr_left fun q hq => ?_
      have hq' := List.mem_range.1 hq
      simp only [Function.comp_apply]
      rw [upT_var (by omega) (by omega)]
      simp
      omega
    · simp

theorem idx_at {v : Int} : ∀ (l : List Int) (i j : Nat), idxFrom v i l = (j : Int) → ∃ (q : Nat), j = i + q ∧ l[q]? = some v
  | [], i, j, h => by rw [idxFrom] at h; omega
  | x :: l, i, j, h => by
    rw [idxFrom] at h
    by_cases hv : v = x
    · rw [if_pos hv] at h
      exact ⟨0, by omega, by simp [hv]⟩
    · rw [if_neg hv] at h
      obtain ⟨q, h1, h2⟩ := idx_at l (i + 1) j h
      exact ⟨q + 1, by omega, by simpa using h2⟩
/-- Each name comes back. -/
theorem of_sg {xs : List Int} {n : Int} (hm : MayV xs n) {d : Nat} (hd : d ≤ 1000000) {h h' : Int} (h0 : 0 ≤ h) (h1 : h ≤ 288230376151711744) (hh : headR (rnV xs n) 4 h d = some h') : 0 ≤ h' ∧ ofS (sg xs n d) h' = ⟨4, h, []⟩ := by
  obtain ⟨hn0, hn1, hx⟩ := hm
  have hlen := MayV.len ⟨hn0, hn1, hx⟩
  unfold headR at hh
  by_cases hdh : (d : Int) ≤ h
  · rw [if_pos ⟨rfl, hdh⟩] at hh
    have e1 : wrap64 (h - d) = h - d := by unfold wrap64; omega
    rw [e1] at hh
    unfold rnV at hh
    by_cases hni : n ≤ h - d
    · rw [if_pos hni] at hh
      have e2 : wrap64 (h - d - n) = h - d - n := by unfold wrap64; omega
      have e3 : wrap64 (h - d - n + xs.length) = h - d - n + xs.length := by unfold wrap64; omega
      have e4 : wrap64 (h - d - n + xs.length + d) = h - d - n + xs.length + d := by unfold wrap64; omega
      rw [e2, e3, Option.map_some, e4] at hh
      obtain rfl := Option.some.inj hh
      refine ⟨by omega, ?_⟩
      unfold ofS sg
      dsimp only
      rw [sgL_len]
      push_cast
      rw [if_neg (by omega)]
      have e5 : wrap64 (h - d - n + xs.length + d - (xs.length + d)) = h - d - n := by unfold wrap64; omega
      have e6 : wrap64 (h - d - n + (n + d)) = h := by unfold wrap64; omega
      rw [e5, e6]
    · rw [if_neg hni] at hh
      by_cases hmem : (h - d) ∈ xs
      · rw [if_pos hmem] at hh
        rcases idxFrom_neg (v := h - d) xs 0 with ⟨_, hq⟩ | ⟨j, hj, _, hjl, _⟩
        · exact absurd hmem hq
        obtain ⟨q, hq1, hq2⟩ := idx_at xs 0 j hj
        obtain rfl : j = q := by omega
        rw [hj, Option.map_some] at hh
        have e2 : wrap64 ((xs.length : Int) - 1 - j + d) = (xs.length : Int) - 1 - j + d := by unfold wrap64; omega
        rw [e2] at hh
        obtain rfl := Option.some.inj hh
        refine ⟨by omega, ?_⟩
        unfold ofS sg
        dsimp only
        rw [sgL_len]
        push_cast
        rw [if_pos (by omega)]
        have e3 : ((xs.length : Int) + d - 1 - ((xs.length : Int) - 1 - j + d)).toNat = j := by omega
        rw [e3]
        unfold sgL
        rw [List.getElem?_append_left (by simp; omega), List.getElem?_map, hq2]
        simp
      · rw [if_neg hmem] at hh
        simp at hh
  · rw [if_neg (fun q => hdh q.2)] at hh
    obtain rfl := Option.some.inj hh
    refine ⟨h0, ?_⟩
    unfold ofS sg
    dsimp only
    rw [sgL_len]
    push_cast
    rw [if_pos (by omega)]
    have e3 : ((xs.length : Int) + d - 1 - h).toNat = xs.length + (d - 1 - h.toNat) := by omega
    rw [e3]
    unfold sgL
    rw [List.getElem?_append_right (by simp)]
    simp only [List.length_map, Nat.add_sub_cancel_left]
    rw [List.getElem?_map, List.getElem?_range (by omega)]
    simp
    omega

mutual
theorem ev_back {xs : List Int} {n : Int} (hm : MayV xs n) : ∀ (t u : Tm) (d n0 : Nat), renW (rnV xs n) t d = some u → hB 288230376151711744 t → d + cnt t ≤ 1000000 → n0 + cnt t ≤ 40000 → Ev (.app n0 u (sg xs n d)) (.one t (n0 + cnt t))
  | ⟨k, h, a⟩, u, d, n0, hr, hb, hd, hn => by
    rw [hB] at hb
    have h0 := mayN_head hb.1
    rw [cnt] at hd hn
    rw [renW, Option.bind_eq_some_iff] at hr
    obtain ⟨h', hh, hr⟩ := hr
    rw [Option.map_eq_some_iff] at hr
    obtain ⟨us, hus, rfl⟩ := hr
    obtain ⟨ih, hl⟩ := ev_backL hm (isB k) a us d (n0 + 1) hus hb.2.2 (by omega) (by omega)
    rw [cnt, show n0 + (1 + cntL a) = n0 + 1 + cntL a from by omega]
    by_cases hk : k = 4
    · subst hk
      obtain ⟨p1, p2⟩ := of_sg hm (by omega) h0 hb.2.1 hh
      refine .var (by omega) ih ?_
      rw [p2]
      cases a with
      | nil => exact .done
      | cons y l => exact .head (by simp)
    · have e : h' = h := by
        unfold headR at hh
        rw [if_neg (fun q => hk q.1)] at hh
        exact (Option.some.inj hh).symm
      subst e
      exact .node (by omega) ih hk
theorem ev_backL {xs : List Int} {n : Int} (hm : MayV xs n) : ∀ (b : Bool) (l us : List Tm) (d n0 : Nat), renL (rnV xs n) b l d = some us → hBL 288230376151711744 l → d + cntL l + 1 ≤ 1000000 → n0 + cntL l ≤ 40000 → Ev (.apps b n0 us (sg xs n d)) (.many l (n0 + cntL l)) ∧ us.length = l.length
  | b, [], us, d, n0, hr, hb, hd, hn => by
    rw [renL] at hr
    obtain rfl := Option.some.inj hr
    exact ⟨.nil, rfl⟩
  | b, t :: l, us, d, n0, hr, hb, hd, hn => by
    rw [hBL] at hb
    rw [cntL] at hd hn
    rw [renL, Option.bind_eq_some_iff] at hr
    obtain ⟨t', ht, hr⟩ := hr
    rw [Option.map_eq_some_iff] at hr
    obtain ⟨us', hus, rfl⟩ := hr
    obtain ⟨ih, hl⟩ := ev_backL hm b l us' d (n0 + cnt t) hus hb.2 (by omega) (by omega)
    have he : us'.isEmpty = l.isEmpty := by
      cases us' <;> cases l <;> simp at hl ⊢
    rw [cntL, show n0 + (cnt t + cntL l) = n0 + cnt t + cntL l from by omega]
    refine ⟨.cons ?_ ih, by simp [hl]⟩
    rw [he]
    unfold lastN at ht
    by_cases hq : (b && l.isEmpty) = true
    · rw [if_pos hq] at ht ⊢
      rw [under_sg (fun x hx => by
        obtain ⟨i, hi, rfl⟩ := List.getElem_of_mem hx
        have := hm.2.2 i hi
        have := hm.2.1
        omega) ⟨hm.1, hm.2.1⟩ (by omega)]
      have e1 : wrap64 ((d : Int) + 1) = ((d + 1 : Nat) : Int) := by unfold wrap64; omega
      rw [e1] at ht
      exact ev_back hm t t' (d + 1) n0 ht hb.1 (by omega) (by omega)
    · rw [if_neg hq] at ht ⊢
      exact ev_back hm t t' d n0 ht hb.1 (by omega) (by omega)
end
end Go.Proofs.YtbmmdfehhhgkcaaGreat
namespace Go.Proofs.YtbmmdfehhhgkcaaGreat
open Go.RowKit Go.Shelf
set_option linter.unusedVariables false
set_option linter.unusedSimpArgs false

mutual
theorem hB_of : ∀ {t : Tm}, nodesOk t = true → lowB t = true → hB 1099511627776 t
  | ⟨k, h, a⟩, h1, h2 => by
    rw [nodesOk, Bool.and_eq_true] at h1
    rw [lowB] at h2
    simp only [Bool.and_eq_true, decide_eq_true_eq] at h2
    rw [hB]
    exact ⟨h1.1, by simpa using h2.1, hBL_of h1.2 h2.2⟩
theorem hBL_of : ∀ {l : List Tm}, nodesOkL l = true → lowL l = true → hBL 1099511627776 l
  | [], _, _ => trivial
  | t :: l, h1, h2 => by
    rw [nodesOkL, Bool.and_eq_true] at h1
    rw [lowL, Bool.and_eq_true] at h2
    rw [hBL]
    exact ⟨hB_of h1.1 h2.1, hBL_of h1.2 h2.2⟩
end
theorem head_le {xs : List Int} {n : Int} (hm : MayV xs n) {d : Nat} (hd : d ≤ 1000000) {k h h' : Int} (h0 : 0 ≤ h) (h1 : h ≤ 288230376151711744) (hh : headR (rnV xs n) k h d = some h') : h' ≤ h + 1000 ∧ (k = 4 → 0 ≤ h') ∧ (k ≠ 4 → h' = h) := by
  by_cases hk : k = 4
  · subst hk
    refine ⟨?_, fun _ => (of_sg hm hd h0 h1 hh).1, fun q => absurd rfl q⟩
    have hlen := MayV.len hm
    obtain ⟨hn0, hn1, hx⟩ := hm
    unfold headR at hh
    by_cases hdh : (d : Int) ≤ h
    · rw [if_pos ⟨rfl, hdh⟩] at hh
      have e1 : wrap64 (h - d) = h - d := by unfold wrap64; omega
      rw [e1] at hh
      unfold rnV at hh
      by_cases hni : n ≤ h - d
      · rw [if_pos hni, Option.map_some] at hh
        obtain rfl := Option.some.inj hh
        unfold wrap64
        omega
      · rw [if_neg hni] at hh
        by_cases hmem : (h - d) ∈ xs
        · rw [if_pos hmem, Option.map_some] at hh
          obtain rfl := Option.some.inj hh
          rcases idxFrom_neg (v := h - d) xs 0 with ⟨_, hq⟩ | ⟨j, hj, _, hjl, _⟩
          · exact absurd hmem hq
          rw [hj]
          unfold wrap64
          omega
        · rw [if_neg hmem] at hh
          simp at hh
    · rw [if_neg (fun q => hdh q.2)] at hh
      obtain rfl := Option.some.inj hh
      omega
  · unfold headR at hh
    rw [if_neg (fun q => hk q.1)] at hh
    obtain rfl := Option.some.inj hh
    exact ⟨by omega, fun q => absurd q hk, fun _ => rfl⟩
mutual
/-- What is renamed is as great, and its nodes may be. -/
theorem ren_mayG {B : Int} (hBB : B ≤ 288230376151711744) {xs : List Int} {n : Int} (hm : MayV xs n) : ∀ (t u : Tm) (d : Nat), renW (rnV xs n) t d = some u → hB B t → d + cnt t ≤ 1000000 → hB (B + 1000) u ∧ cnt u = cnt t ∧ depthW u = depthW t
  | ⟨k, h, a⟩, u, d, hr, hb, hd => by
    rw [hB] at hb
    have h0 := mayN_head hb.1
    rw [cnt] at hd
    rw [renW, Option.bind_eq_some_iff] at hr
    obtain ⟨h', hh, hr⟩ := hr
    rw [Option.map_eq_some_iff] at hr
    obtain ⟨us, hus, rfl⟩ := hr
    obtain ⟨q1, q2, q3, q4⟩ := ren_mayGL hBB hm (isB k) a us d hus hb.2.2 (by omega)
    obtain ⟨p1, p2, p3⟩ := head_le hm (by omega) h0 (by omega) hh
    refine ⟨?_, by rw [cnt, cnt, q2], by rw [depthW, depthW, q3]⟩
    rw [hB, q4]
    refine ⟨?_, by omega, q1⟩
    by_cases hk : k = 4
    · subst hk; exact mayN_var (p2 rfl)
    · rw [p3 hk]; exact hb.1
theorem ren_mayGL {B : Int} (hBB : B ≤ 288230376151711744) {xs : List Int} {n : Int} (hm : MayV xs n) : ∀ (b : Bool) (l us : List Tm) (d : Nat), renL (rnV xs n) b l d = some us → hBL B l → d + cntL l + 1 ≤ 1000000 → hBL (B + 1000) us ∧ cntL us = cntL l ∧ (∀ m, depthL m us = depthL m l) ∧ us.length = l.length
  | b, [], us, d, hr, hb, hd => by
    rw [renL] at hr
    obtain rfl := Option.some.inj hr
    exact ⟨trivial, rfl, fun _ => rfl, rfl⟩
  | b, t :: l, us, d, hr, hb, hd => by
    rw [hBL] at hb
    rw [cntL] at hd
    rw [renL, Option.bind_eq_some_iff] at hr
    obtain ⟨t', ht, hr⟩ := hr
    rw [Option.map_eq_some_iff] at hr
    obtain ⟨us', hus, rfl⟩ := hr
    obtain ⟨q1, q2, q3, q4⟩ := ren_mayGL hBB hm b l us' d hus hb.2 (by omega)
    have hp : hB (B + 1000) t' ∧ cnt t' = cnt t ∧ depthW t' = depthW t := by
      unfold lastN at ht
      by_cases hq : (b && l.isEmpty) = true
      · rw [if_pos hq] at ht
        have e1 : wrap64 ((d : Int) + 1) = ((d + 1 : Nat) : Int) := by unfold wrap64; omega
        rw [e1] at ht
        exact ren_mayG hBB hm t t' (d + 1) ht hb.1 (by omega)
      · rw [if_neg hq] at ht
        exact ren_mayG hBB hm t t' d ht hb.1 (by omega)
    refine ⟨by rw [hBL]; exact ⟨hp.1, q1⟩, by rw [cntL, cntL, hp.2.1, q2], fun m => ?_, by simp [q4]⟩
    rw [depthL, depthL, hp.2.2, q3]
end

/-- The same, with bounds that are told. -/
theorem ren_may {xs : List Int} {n : Int} (hm : MayV xs n) (t u : Tm) (d : Nat) (hr : renW (rnV xs n) t d = some u) (hb : hB 288230376151711744 t) (hd : d + cnt t ≤ 1000000) : hB 576460752303423488 u ∧ cnt u = cnt t ∧ depthW u = depthW t := by
  obtain ⟨h1, h2, h3⟩ := ren_mayG (Int.le_refl _) hm t u d hr hb hd
  exact ⟨h1.mono (by decide), h2, h3⟩
theorem may_of_hB {b : Int} : ∀ {t : Tm}, hB b t → nodesOk t = true := by
  intro t
  induction t using Tm.ind with
  | h t ih =>
    obtain ⟨k, h, a⟩ := t
    intro q
    rw [hB] at q
    rw [nodesOk, q.1, Bool.true_and]
    have h2 := hBL_iff.1 q.2.2
    have : ∀ l : List Tm, (∀ t ∈ l, nodesOk t = true) → nodesOkL l = true := by
      intro l
      induction l with
      | nil => intro _; rfl
      | cons t l ihl => intro hl; rw [nodesOkL, hl t (by simp), ihl (fun t ht => hl t (by simp [ht]))]; rfl
    exact this a (fun t ht => ih t ht (h2 t ht))
theorem apply_pure {t u : Tm} {xs : List Int} {n : Int} (hcn : cnt t ≤ 1048576) (hl : lightB t 1000 60 = true) (hmb : mayB t = true) (hx : xs.length ≤ 20) (hv : invV t xs n = (some u, 0)) :
    (mayB u && maySu ⟨varsT xs, n⟩) = true ∧ Fit (.app 0 u ⟨varsT xs, n⟩) ∧ Ev (.app 0 u ⟨varsT xs, n⟩) (.one t (0 + cnt t)) := by
  have hmay : MayV xs n := by
    rcases hq : mayV xs n with _ | _
    · unfold invV at hv
      rw [hmb, hq] at hv
      simp at hv
    · exact mayV_prop hq
  have hren : renW (rnV xs n) t 0 = some u := by
    unfold invV at hv
    rw [hmb, mayV_true hmay] at hv
    simp only [Bool.and_self, if_true] at hv
    cases hr : renW (rnV xs n) t 0 with
    | none => rw [hr] at hv; simp at hv
    | some z => rw [hr] at hv; simp at hv; rw [hv]
  unfold lightB at hl
  simp only [Bool.and_eq_true, decide_eq_true_eq] at hl
  obtain ⟨hlow, hsz, hdp⟩ := hl
  have hc : cnt t ≤ 1000 := by
    rw [sizeR_eq] at hsz
    unfold wrap64 at hsz
    omega
  have hmb' := hmb
  rw [mayB_eq] at hmb'
  simp only [Bool.and_eq_true, decide_eq_true_eq] at hmb'
  have hb := (hB_of hmb'.2.2 hlow).mono (c := 288230376151711744) (by decide)
  obtain ⟨q1, q2, q3⟩ := ren_may hmay t u 0 hren hb (by omega)
  have hev := ev_back hmay t u 0 0 hren hb (by omega) (by omega)
  rw [sg_zero] at hev
  have hvm : ∀ e ∈ varsT xs, ∃ x, 0 ≤ x ∧ x ≤ 1000 ∧ e = ⟨4, x, []⟩ := fun e he => by
    unfold varsT at he
    obtain ⟨x, hxm, rfl⟩ := List.mem_map.1 he
    obtain ⟨i, hi, rfl⟩ := List.getElem_of_mem hxm
    have h1 := hmay.2.2 i hi
    have h2 := hmay.2.1
    exact ⟨xs[i], h1.1, by omega, rfl⟩
  refine ⟨?_, ⟨by omega, q1.mono (by unfold bndG baseB; omega), ?_⟩, hev⟩
  · have hmu : mayB u = true := by
      rw [mayB_eq, q3, sizeR_eq, q2, may_of_hB q1, ← sizeR_eq]
      simp only [Bool.and_eq_true, decide_eq_true_eq]
      exact ⟨hdp, by omega, trivial⟩
    rw [hmu, Bool.true_and]
    unfold maySu
    have h3 : ((varsT xs).any fun t => !mayB t) = false := by
      rw [List.any_eq_false]
      intro e he
      obtain ⟨x, hx0, _, rfl⟩ := hvm e he
      have hy : mayB ⟨4, x, []⟩ = true := by
        rw [mayB_eq]
        simp [depthW, depthL, sizeR, sizeRL, nodesOk, nodesOkL, mayN, hx0, wrap64]
      simp [hy]
    have h4 := hmay.1
    have h5 := hmay.2.1
    simp only [h3, varsT_len, Bool.not_false, Bool.and_true, Bool.and_eq_true, decide_eq_true_eq]
    omega
  · have h4 := hmay.1
    have h5 := hmay.2.1
    refine ⟨by simp only [varsT_len]; omega, h4, by simp only; omega, fun e he => ?_⟩
    obtain ⟨x, hx0, hx1, rfl⟩ := hvm e he
    refine ⟨?_, by simp [cnt, cntL]⟩
    rw [hB]
    exact ⟨mayN_var hx0, by unfold bndG baseB; omega, trivial⟩
theorem inv_err {t : Tm} {xs : List Int} {n : Int} : (∃ u, invV t xs n = (some u, 0)) ∨ ∃ e, invV t xs n = (none, e) ∧ e ≠ 0 := by
  unfold invV
  split
  · split
    · exact .inl ⟨_, rfl⟩
    · exact .inr ⟨7, rfl, by decide⟩
  · exact .inr ⟨1, rfl, by decide⟩
end Go.Proofs.YtbmmdfehhhgkcaaGreat
