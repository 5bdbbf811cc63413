/- Plain laws of layer 5: rising lists, what is added to them, patterns. No program stands here. -/
import Derived.Test.YtolpbnkkmkjejaaLib
namespace Go.Proofs.Ytolpbnkkmkjejaa
set_option linter.unusedVariables false
set_option linter.unusedSimpArgs false

abbrev Rise (l : List Int) : Prop := l.Pairwise (· < ·)

theorem rise_unique : ∀ {l m : List Int}, Rise l → Rise m → (∀ x, x ∈ l ↔ x ∈ m) → l = m
  | [], [], _, _, _ => rfl
  | [], y :: m, _, _, h => by have := (h y).2 (by simp); simp at this
  | x :: l, [], _, _, h => by have := (h x).1 (by simp); simp at this
  | x :: l, y :: m, hl, hm, h => by
    have hl' := List.pairwise_cons.1 hl
    have hm' := List.pairwise_cons.1 hm
    have hxy : x = y := by
      have h1 := (h x).1 (by simp)
      have h2 := (h y).2 (by simp)
      rcases List.mem_cons.1 h1 with e | e
      · exact e
      · rcases List.mem_cons.1 h2 with e2 | e2
        · exact e2.symm
        · have := hl'.1 y e2
          have := hm'.1 x e
          omega
    subst hxy
    have hrest : l = m := rise_unique hl'.2 hm'.2 fun z => by
      constructor
      · intro hz
        rcases List.mem_cons.1 ((h z).1 (List.mem_cons_of_mem _ hz)) with e | e
        · subst e
          have := hl'.1 z hz
          omega
        · exact e
      · intro hz
        rcases List.mem_cons.1 ((h z).2 (List.mem_cons_of_mem _ hz)) with e | e
        · subst e
          have := hm'.1 z hz
          omega
        · exact e
    rw [hrest]

/-- A number put into its place: the loop of the document's add. -/
def addGo (n : Int) : Bool → List Int → List Int → List Int
  | d, o, [] => if d then o else o ++ [n]
  | d, o, x :: l => addGo n (d || decide (n ≤ x)) (if x = n then (if !d && decide (n ≤ x) then o ++ [n] else o) else (if !d && decide (n ≤ x) then o ++ [n] else o) ++ [x]) l
def addL (l : List Int) (n : Int) : List Int := addGo n false [] l

theorem addGo_done (n : Int) : ∀ (l o : List Int), addGo n true o l = o ++ l.filter (fun x => decide (x ≠ n))
  | [], o => by simp [addGo]
  | x :: l, o => by
    rw [addGo]
    by_cases h : x = n
    · simp [h, addGo_done n l]
    · simp [h, addGo_done n l]

theorem addGo_mem (n : Int) : ∀ (l o : List Int), Rise l → Rise o → (∀ x ∈ o, x < n ∧ ∀ y ∈ l, x < y) →
    Rise (addGo n false o l) ∧ ∀ z, z ∈ addGo n false o l ↔ z ∈ o ∨ z = n ∨ z ∈ l
  | [], o, _, ho, hlt => by
    constructor
    · simp only [addGo]
      exact List.pairwise_append.2 ⟨ho, List.pairwise_singleton _ _, fun x hx y hy => by rw [List.mem_singleton.1 hy]; exact (hlt x hx).1⟩
    · intro z
      simp [addGo]
  | x :: l, o, hl, ho, hlt => by
    have hl' := List.pairwise_cons.1 hl
    rw [addGo]
    by_cases hn : n ≤ x
    · have hall : ∀ y ∈ l, n < y := fun y hy => by have := hl'.1 y hy; omega
      have hfil : l.filter (fun x => decide (x ≠ n)) = l := List.filter_eq_self.2 fun y hy => by have := hall y hy; simp; omega
      simp only [Bool.false_or, Bool.not_false, Bool.true_and, hn, decide_true, if_true]
      rw [addGo_done, hfil]
      by_cases hx : x = n
      · subst hx
        rw [if_pos rfl]
        constructor
        · refine List.pairwise_append.2 ⟨List.pairwise_append.2 ⟨ho, List.pairwise_singleton _ _, fun y hy z hz => by rw [List.mem_singleton.1 hz]; exact (hlt y hy).1⟩, hl'.2, fun y hy z hz => ?_⟩
          rcases List.mem_append.1 hy with hy | hy
          · exact (hlt y hy).2 z (List.mem_cons_of_mem _ hz)
          · rw [List.mem_singleton.1 hy]; exact hall z hz
        · intro z
          simp [or_assoc]
      · rw [if_neg hx]
        constructor
        · refine List.pairwise_append.2 ⟨List.pairwise_append.2 ⟨List.pairwise_append.2 ⟨ho, List.pairwise_singleton _ _, fun y hy z hz => by rw [List.mem_singleton.1 hz]; exact (hlt y hy).1⟩, List.pairwise_singleton _ _, fun y hy z hz => ?_⟩, hl'.2, fun y hy z hz => ?_⟩
          · rw [List.mem_singleton.1 hz]
            rcases List.mem_append.1 hy with hy | hy
            · exact (hlt y hy).2 x (by simp)
            · rw [List.mem_singleton.1 hy]; omega
          · rcases List.mem_append.1 hy with hy | hy
            · rcases List.mem_append.1 hy with hy | hy
              · exact (hlt y hy).2 z (List.mem_cons_of_mem _ hz)
              · rw [List.mem_singleton.1 hy]; exact hall z hz
            · rw [List.mem_singleton.1 hy]; exact hl'.1 z hz
        · intro z
          simp [or_assoc]
    · have hx : x ≠ n := by omega
      simp only [Bool.false_or, Bool.not_false, Bool.true_and, hn, decide_false, hx, if_false, Bool.false_eq_true]
      have ih := addGo_mem n l (o ++ [x]) hl'.2 (List.pairwise_append.2 ⟨ho, List.pairwise_singleton _ _, fun y hy z hz => by rw [List.mem_singleton.1 hz]; exact (hlt y hy).2 x (by simp)⟩) (by
        intro y hy
        rcases List.mem_append.1 hy with hy | hy
        · exact ⟨(hlt y hy).1, fun z hz => (hlt y hy).2 z (List.mem_cons_of_mem _ hz)⟩
        · rw [List.mem_singleton.1 hy]
          exact ⟨by omega, fun z hz => hl'.1 z hz⟩)
      refine ⟨ih.1, fun z => (ih.2 z).trans ?_⟩
      simp only [List.mem_append, List.mem_cons, List.not_mem_nil, or_false]
      constructor
      · rintro ((h | h) | h | h)
        · exact .inl h
        · exact .inr (.inr (.inl h))
        · exact .inr (.inl h)
        · exact .inr (.inr (.inr h))
      · rintro (h | h | h | h)
        · exact .inl (.inl h)
        · exact .inr (.inl h)
        · exact .inl (.inr h)
        · exact .inr (.inr h)
theorem addL_rise {l : List Int} (h : Rise l) (n : Int) : Rise (addL l n) := (addGo_mem n l [] h List.Pairwise.nil (fun x hx => by cases hx)).1
theorem addL_mem {l : List Int} (h : Rise l) (n z : Int) : z ∈ addL l n ↔ z = n ∨ z ∈ l := ((addGo_mem n l [] h List.Pairwise.nil (fun x hx => by cases hx)).2 z).trans (by simp)
theorem addGo_len (n : Int) : ∀ (l o : List Int) (d : Bool), (addGo n d o l).length ≤ o.length + l.length + (if d then 0 else 1)
  | [], o, d => by cases d <;> simp [addGo]
  | x :: l, o, d => by
    rw [addGo]
    refine Nat.le_trans (addGo_len n l _ _) ?_
    by_cases hx : x = n
    · cases d <;> by_cases hn : n ≤ x <;> simp [hx, hn] <;> omega
    · cases d <;> by_cases hn : n ≤ x <;> simp [hx, hn] <;> omega

/-- The variables that terms are, each another one, below a number. -/
def patGo (below : Int) : List Int → List Tm → Option (List Int)
  | vs, [] => some vs
  | vs, t :: l => if t.k = 4 ∧ t.a.length = 0 ∧ 0 ≤ t.h ∧ t.h < below ∧ t.h ∉ vs then patGo below (vs ++ [t.h]) l else none
def patV (l : List Tm) (below : Int) : Option (List Int) := patGo below [] l
end Go.Proofs.Ytolpbnkkmkjejaa
