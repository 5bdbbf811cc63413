/- Renaming tells nothing just where a free variable has no other name. -/
import Derived.Test.YteojhbhaocgjoaaI1
import Derived.Test.YteojhbhaocgjoaaO5
namespace Go.Proofs.Yteojhbhaocgjoaa
open Go.RowKit Go.Shelf
set_option linter.unusedVariables false
set_option linter.unusedSimpArgs false

theorem varsOf_app (a b : List (Int × Tm)) : varsOf (a ++ b) = varsOf a ++ varsOf b := by unfold varsOf; rw [List.filterMap_append]
mutual
theorem ren_none (rn : Int → Option Int) : ∀ (t : Tm) (d : Int), renW rn t d = none ↔ ∃ v ∈ varsOf (nodesW t d), rn v = none
  | ⟨k, h, a⟩, d => by
    have ih := ren_noneL rn (isB k) a d
    rw [renW, nodesW, show ((d, (⟨k, h, a⟩ : Tm)) :: nodesL (isB k) a d) = [(d, (⟨k, h, a⟩ : Tm))] ++ nodesL (isB k) a d from rfl, varsOf_app]
    have hh : headR rn k h d = none ↔ ∃ v ∈ varsOf [(d, (⟨k, h, a⟩ : Tm))], rn v = none := by
      unfold headR varsOf
      by_cases hk : k = 4 ∧ d ≤ h
      · simp only [hk, and_self, if_true, List.filterMap_cons, List.filterMap_nil]
        simp
      · rw [if_neg hk]
        simp [hk]
    constructor
    · intro q
      rw [Option.bind_eq_none_iff] at q
      cases hq : headR rn k h d with
      | none =>
        obtain ⟨v, h1, h2⟩ := hh.1 hq
        exact ⟨v, List.mem_append_left _ h1, h2⟩
      | some h' =>
        have := q h' hq
        rw [Option.map_eq_none_iff] at this
        obtain ⟨v, h1, h2⟩ := ih.1 this
        exact ⟨v, List.mem_append_right _ h1, h2⟩
    · rintro ⟨v, h1, h2⟩
      rcases List.mem_append.1 h1 with h1 | h1
      · rw [hh.2 ⟨v, h1, h2⟩]; rfl
      · rw [ih.2 ⟨v, h1, h2⟩]
        cases headR rn k h d <;> rfl
theorem ren_noneL (rn : Int → Option Int) : ∀ (b : Bool) (l : List Tm) (d : Int), renL rn b l d = none ↔ ∃ v ∈ varsOf (nodesL b l d), rn v = none
  | b, [], d => by rw [renL, nodesL]; simp [varsOf]
  | b, t :: l, d => by
    have i1 := ren_none rn t (lastN b l d)
    have i2 := ren_noneL rn b l d
    rw [renL, nodesL, varsOf_app]
    constructor
    · intro q
      rw [Option.bind_eq_none_iff] at q
      cases hq : renW rn t (lastN b l d) with
      | none =>
        obtain ⟨v, h1, h2⟩ := i1.1 hq
        exact ⟨v, List.mem_append_left _ h1, h2⟩
      | some h' =>
        have := q h' hq
        rw [Option.map_eq_none_iff] at this
        obtain ⟨v, h1, h2⟩ := i2.1 this
        exact ⟨v, List.mem_append_right _ h1, h2⟩
    · rintro ⟨v, h1, h2⟩
      rcases List.mem_append.1 h1 with h1 | h1
      · rw [i1.2 ⟨v, h1, h2⟩]; rfl
      · rw [i2.2 ⟨v, h1, h2⟩]
        cases renW rn t (lastN b l d) <;> rfl
end
theorem rnV_none {xs : List Int} {n v : Int} : rnV xs n v = none ↔ ¬ n ≤ v ∧ v ∉ xs := by
  unfold rnV
  split
  · simp [*]
  · split <;> simp [*]
/-- Is a free variable missing? -/
def missV (l xs : List Int) (n : Int) : Bool := l.any fun v => !(decide (n ≤ v) || xs.contains v)
theorem miss_ren {xs : List Int} {n : Int} {t : Tm} {l : List Int} (hl : ∀ x, x ∈ l ↔ x ∈ varsOf (nodesW t 0)) : missV l xs n = (renW (rnV xs n) t 0).isNone := by
  rw [Bool.eq_iff_iff, Option.isNone_iff_eq_none, ren_none]
  unfold missV
  rw [List.any_eq_true]
  constructor
  · rintro ⟨v, h1, h2⟩
    exact ⟨v, (hl v).1 h1, rnV_none.2 (by simpa using h2)⟩
  · rintro ⟨v, h1, h2⟩
    exact ⟨v, (hl v).2 h1, by simpa using rnV_none.1 h2⟩
end Go.Proofs.Yteojhbhaocgjoaa
