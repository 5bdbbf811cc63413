/- The plain law InvertApply: what Invert tells, under these variables, comes to the term. -/
import Derived.Test.YtaliphgdahpagaaSC
import Derived.Test.YtaliphgdahpagaaI3
import Derived.Test.YtaliphgdahpagaaMO
namespace Go.Proofs.Ytaliphgdahpagaa
open Go.RowKit Go.Shelf
set_option linter.unusedVariables false
set_option linter.unusedSimpArgs false

/-- These variables, under so many binders. -/
def sgL (xs : List Int) (d : Nat) : List Tm := (xs.map fun h => (⟨4, h + (d : Int), []⟩ : Tm)) ++ (List.range d).map fun (q : Nat) => (⟨4, (d : Int) - 1 - (q : Int), []⟩ : Tm)
def sg (xs : List Int) (n : Int) (d : Nat) : Su := ⟨sgL xs d, n + (d : Int)⟩
theorem sgL_len (xs : List Int) (d : Nat) : (sgL xs d).length = xs.length + d := by simp [sgL]
theorem sg_zero (xs : List Int) (n : Int) : sg xs n 0 = ⟨varsT xs, n⟩ := by simp [sg, sgL, varsT]
theorem upT_var {h : Int} (h0 : 0 ≤ h) (h1 : h ≤ 4611686018427387904) : upT ⟨4, h, []⟩ 1 0 = ⟨4, h + 1, []⟩ := by
  have hw : wrap64 (h + 1) = h + 1 := by unfold wrap64; omega
  unfold upT
  split
  · rw [upW, upL]
    simp only [if_true]
    unfold upH
    rw [show wrap64 (0 + 0) = 0 from by unfold wrap64; omega, if_pos h0, hw]
  · rename_i hm
    exfalso
    apply hm
    have hy : mayB ⟨4, h, []⟩ = true := by
      rw [mayB_eq]
      simp [depthW, depthL, sizeR, sizeRL, nodesOk, nodesOkL, mayN, h0, wrap64]
    simp [mayS, hy]
theorem under_sg {xs : List Int} {n : Int} {d : Nat} (hx : ∀ x ∈ xs, 0 ≤ x ∧ x ≤ 1000) (hn : 0 ≤ n ∧ n ≤ 1000) (hd : d ≤ 1000000) : underS (sg xs n d) = sg xs n (d + 1) := by
  have hw : wrap64 (n + (d : Int) + 1) = n + ((d + 1 : Nat) : Int) := by unfold wrap64; omega
  unfold underS sg
  dsimp only
  rw [hw]
  congr 1
  unfold sgL
  rw [List.map_append, List.map_map, List.map_map, List.range_succ, List.map_append]
  simp only [List.append_assoc]
  congr 1
  · refine List.map_congr_left fun x hxm => ?_
    obtain ⟨h1, h2⟩ := hx x hxm
    simp only [Function.comp_apply]
    rw [upT_var (by omega) (by omega)]
    simp
    omega
  · congr 1
    · refine List.map_congr_left fun q hq => ?_
      have hq' := List.mem_range.1 hq
      simp only [Function.comp_apply]
      rw [upT_var (by omega) (by omega)]
      simp
      omega
    · simp

theorem idx_at {v : Int} : ∀ (l : List Int) (i j : Nat), idxFrom v i l = (j : Int) → ∃ (q : Nat), j = i + q ∧ l[q]? = some v
  | [], i, j, h => by rw [idxFrom] at h; omega
  | x :: l, i, j, h => by
    rw [idxFrom] at h
    by_cases hv : v = x
    · rw [if_pos hv] at h
      exact ⟨0, by omega, by simp [hv]⟩
    · rw [if_neg hv] at h
      obtain ⟨q, h1, h2⟩ := idx_at l (i + 1) j h
      exact ⟨q + 1, by omega, by simpa using h2⟩
/-- Each name comes back. -/
theorem of_sg {xs : List Int} {n : Int} (hm : MayV xs n) {d : Nat} (hd : d ≤ 1000000) {h h' : Int} (h0 : 0 ≤ h) (h1 : h ≤ 1099511627776) (hh : headR (rnV xs n) 4 h d = some h') : 0 ≤ h' ∧ ofS (sg xs n d) h' = ⟨4, h, []⟩ := by
  obtain ⟨hn0, hn1, hx⟩ := hm
  have hlen := MayV.len ⟨hn0, hn1, hx⟩
  unfold headR at hh
  by_cases hdh : (d : Int) ≤ h
  · rw [if_pos ⟨rfl, hdh⟩] at hh
    have e1 : wrap64 (h - d) = h - d := by unfold wrap64; omega
    rw [e1] at hh
    unfold rnV at hh
    by_cases hni : n ≤ h - d
    · rw [if_pos hni] at hh
      have e2 : wrap64 (h - d - n) = h - d - n := by unfold wrap64; omega
      have e3 : wrap64 (h - d - n + xs.length) = h - d - n + xs.length := by unfold wrap64; omega
      have e4 : wrap64 (h - d - n + xs.length + d) = h - d - n + xs.length + d := by unfold wrap64; omega
      rw [e2, e3, Option.map_some, e4] at hh
      obtain rfl := Option.some.inj hh
      refine ⟨by omega, ?_⟩
      unfold ofS sg
      dsimp only
      rw [sgL_len]
      push_cast
      rw [if_neg (by omega)]
      have e5 : wrap64 (h - d - n + xs.length + d - (xs.length + d)) = h - d - n := by unfold wrap64; omega
      have e6 : wrap64 (h - d - n + (n + d)) = h := by unfold wrap64; omega
      rw [e5, e6]
    · rw [if_neg hni] at hh
      by_cases hmem : (h - d) ∈ xs
      · rw [if_pos hmem] at hh
        rcases idxFrom_neg (v := h - d) xs 0 with ⟨_, hq⟩ | ⟨j, hj, _, hjl, _⟩
        · exact absurd hmem hq
        obtain ⟨q, hq1, hq2⟩ := idx_at xs 0 j hj
        obtain rfl : j = q := by omega
        rw [hj, Option.map_some] at hh
        have e2 : wrap64 ((xs.length : Int) - 1 - j + d) = (xs.length : Int) - 1 - j + d := by unfold wrap64; omega
        rw [e2] at hh
        obtain rfl := Option.some.inj hh
        refine ⟨by omega, ?_⟩
        unfold ofS sg
        dsimp only
        rw [sgL_len]
        push_cast
        rw [if_pos (by omega)]
        have e3 : ((xs.length : Int) + d - 1 - ((xs.length : Int) - 1 - j + d)).toNat = j := by omega
        rw [e3]
        unfold sgL
        rw [List.getElem?_append_left (by simp; omega), List.getElem?_map, hq2]
        simp
      · rw [if_neg hmem] at hh
        simp at hh
  · rw [if_neg (fun q => hdh q.2)] at hh
    obtain rfl := Option.some.inj hh
    refine ⟨h0, ?_⟩
    unfold ofS sg
    dsimp only
    rw [sgL_len]
    push_cast
    rw [if_pos (by omega)]
    have e3 : ((xs.length : Int) + d - 1 - h).toNat = xs.length + (d - 1 - h.toNat) := by omega
    rw [e3]
    unfold sgL
    rw [List.getElem?_append_right (by simp)]
    simp only [List.length_map, Nat.add_sub_cancel_left]
    rw [List.getElem?_map, List.getElem?_range (by omega)]
    simp
    omega

mutual
theorem ev_back {xs : List Int} {n : Int} (hm : MayV xs n) : ∀ (t u : Tm) (d n0 : Nat), renW (rnV xs n) t d = some u → hB 1099511627776 t → d + cnt t ≤ 1000000 → n0 + cnt t ≤ 40000 → Ev (.app n0 u (sg xs n d)) (.one t (n0 + cnt t))
  | ⟨k, h, a⟩, u, d, n0, hr, hb, hd, hn => by
    rw [hB] at hb
    have h0 := mayN_head hb.1
    rw [cnt] at hd hn
    rw [renW, Option.bind_eq_some_iff] at hr
    obtain ⟨h', hh, hr⟩ := hr
    rw [Option.map_eq_some_iff] at hr
    obtain ⟨us, hus, rfl⟩ := hr
    obtain ⟨ih, hl⟩ := ev_backL hm (isB k) a us d (n0 + 1) hus hb.2.2 (by omega) (by omega)
    rw [cnt, show n0 + (1 + cntL a) = n0 + 1 + cntL a from by omega]
    by_cases hk : k = 4
    · subst hk
      obtain ⟨p1, p2⟩ := of_sg hm (by omega) h0 hb.2.1 hh
      refine .var (by omega) ih ?_
      rw [p2]
      cases a with
      | nil => exact .done
      | cons y l => exact .head (by simp)
    · have e : h' = h := by
        unfold headR at hh
        rw [if_neg (fun q => hk q.1)] at hh
        exact (Option.some.inj hh).symm
      subst e
      exact .node (by omega) ih hk
theorem ev_backL {xs : List Int} {n : Int} (hm : MayV xs n) : ∀ (b : Bool) (l us : List Tm) (d n0 : Nat), renL (rnV xs n) b l d = some us → hBL 1099511627776 l → d + cntL l + 1 ≤ 1000000 → n0 + cntL l ≤ 40000 → Ev (.apps b n0 us (sg xs n d)) (.many l (n0 + cntL l)) ∧ us.length = l.length
  | b, [], us, d, n0, hr, hb, hd, hn => by
    rw [renL] at hr
    obtain rfl := Option.some.inj hr
    exact ⟨.nil, rfl⟩
  | b, t :: l, us, d, n0, hr, hb, hd, hn => by
    rw [hBL] at hb
    rw [cntL] at hd hn
    rw [renL, Option.bind_eq_some_iff] at hr
    obtain ⟨t', ht, hr⟩ := hr
    rw [Option.map_eq_some_iff] at hr
    obtain ⟨us', hus, rfl⟩ := hr
    obtain ⟨ih, hl⟩ := ev_backL hm b l us' d (n0 + cnt t) hus hb.2 (by omega) (by omega)
    have he : us'.isEmpty = l.isEmpty := by
      cases us' <;> cases l <;> simp at hl ⊢
    rw [cntL, show n0 + (cnt t + cntL l) = n0 + cnt t + cntL l from by omega]
    refine ⟨.cons ?_ ih, by simp [hl]⟩
    rw [he]
    unfold lastN at ht
    by_cases hq : (b && l.isEmpty) = true
    · rw [if_pos hq] at ht ⊢
      rw [under_sg (fun x hx => by
        obtain ⟨i, hi, rfl⟩ := List.getElem_of_mem hx
        have := hm.2.2 i hi
        have := hm.2.1
        omega) ⟨hm.1, hm.2.1⟩ (by omega)]
      have e1 : wrap64 ((d : Int) + 1) = ((d + 1 : Nat) : Int) := by unfold wrap64; omega
      rw [e1] at ht
      exact ev_back hm t t' (d + 1) n0 ht hb.1 (by omega) (by omega)
    · rw [if_neg hq] at ht ⊢
      exact ev_back hm t t' d n0 ht hb.1 (by omega) (by omega)
end
end Go.Proofs.Ytaliphgdahpagaa
