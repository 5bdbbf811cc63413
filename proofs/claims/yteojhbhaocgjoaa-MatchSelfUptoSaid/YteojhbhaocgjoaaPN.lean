/- The plain law MatchSelf: a pattern without metas matches itself alone. -/
import Derived.Test.YteojhbhaocgjoaaMN
import Derived.Test.YteojhbhaocgjoaaO5
namespace Go.Proofs.Yteojhbhaocgjoaa
open Go.RowKit Go.Shelf
set_option linter.unusedVariables false
set_option linter.unusedSimpArgs false

mutual
theorem node_same {σ : Type} (MF : Tm → Tm → Int → σ → Except Int σ) : ∀ (p t : Tm) (n m : Int) (s : σ), metasOf (nodesW p m) = [] → nodeF MF p t n s = if sameB p t = true then .ok s else .error 6
  | ⟨k, h, a⟩, ⟨k', h', a'⟩, n, m, s, q => by
    rw [nodesW, metasOf, List.filterMap_cons] at q
    have hk : k ≠ 6 := by
      intro hk
      subst hk
      simp at q
    have qa : metasOf (nodesL (isB k) a m) = [] := by
      simpa [hk, metasOf] using q
    rw [nodeF, if_neg hk, sameB]
    by_cases he : k = k' ∧ h = h' ∧ a.length = a'.length
    · rw [if_pos he]
      obtain ⟨rfl, rfl, hl⟩ := he
      rw [node_sameL MF (isB k) a a' n m s hl qa]
      simp
    · rw [if_neg he]
      rw [if_neg]
      intro h1
      simp at h1
      obtain ⟨e1, e2, e3⟩ := h1
      exact he ⟨e1, e2, Classical.byContradiction fun hne => by rw [sameL_ne hne] at e3; cases e3⟩
theorem node_sameL {σ : Type} (MF : Tm → Tm → Int → σ → Except Int σ) : ∀ (b : Bool) (l l' : List Tm) (n m : Int) (s : σ), l.length = l'.length → metasOf (nodesL b l m) = [] → nodeL MF b l l' n s = if sameL l l' = true then .ok s else .error 6
  | b, [], l', n, m, s, hl, q => by
    obtain rfl : l' = [] := List.eq_nil_of_length_eq_zero hl.symm
    rw [nodeL, sameL]
    rfl
  | b, p :: l, [], n, m, s, hl, q => by simp at hl
  | b, p :: l, t :: l', n, m, s, hl, q => by
    rw [nodesL, metasOf, List.filterMap_append, List.append_eq_nil_iff] at q
    rw [nodeL, node_same MF p t (lastN b l n) (lastN b l m) s q.1, sameL]
    have hl' : l.length = l'.length := by simpa using hl
    cases hp : sameB p t with
    | true =>
      simp only [if_true]
      rw [node_sameL MF b l l' n m s hl' q.2]
      simp
    | false => simp
end
end Go.Proofs.Yteojhbhaocgjoaa
