/- Substitution, step by step: what it comes to. -/
import Derived.Test.YtbmmdfehhhgkcaaGreatC5
namespace Go.Proofs.YtbmmdfehhhgkcaaGreat
open Go.RowKit Go.Shelf
set_option linter.unusedVariables false
set_option linter.unusedSimpArgs false

/-- A substitution: terms, the last one for the variable 0; and a shift. -/
structure Su where
  l : List Tm
  s : Int
def underS (x : Su) : Su := ⟨x.l.map (fun t => upT t 1 0) ++ [⟨4, 0, []⟩], wrap64 (x.s + 1)⟩
def ofS (x : Su) (i : Int) : Tm := if i < (x.l.length : Int) then (x.l[((x.l.length : Int) - 1 - i).toNat]?).getD ⟨4, 0, []⟩ else ⟨4, wrap64 (wrap64 (i - (x.l.length : Int)) + x.s), []⟩

/-- What is asked: a term under a substitution; a node's parts; a term applied to others. -/
inductive Cfg where
  | app (n : Nat) (t : Tm) (x : Su)
  | apps (b : Bool) (n : Nat) (l : List Tm) (x : Su)
  | spi (n : Nat) (t : Tm) (l : List Tm)
/-- What is told: an error; a term, or terms, and how many nodes were gone to. -/
inductive Res where
  | err (e : Int)
  | one (t : Tm) (n : Nat)
  | many (l : List Tm) (n : Nat)

inductive Ev : Cfg → Res → Prop
  | lim {n : Nat} {t : Tm} {x : Su} (h : 40000 < n + 1) : Ev (.app n t x) (.err 4)
  | argsE {n : Nat} {k h : Int} {a : List Tm} {x : Su} {e : Int} (hn : n + 1 ≤ 40000) (h1 : Ev (.apps (isB k) (n + 1) a x) (.err e)) : Ev (.app n ⟨k, h, a⟩ x) (.err e)
  | node {n : Nat} {k h : Int} {a : List Tm} {x : Su} {l : List Tm} {m : Nat} (hn : n + 1 ≤ 40000) (h1 : Ev (.apps (isB k) (n + 1) a x) (.many l m)) (hk : k ≠ 4) : Ev (.app n ⟨k, h, a⟩ x) (.one ⟨k, h, l⟩ m)
  | var {n : Nat} {h : Int} {a : List Tm} {x : Su} {l : List Tm} {m : Nat} {r : Res} (hn : n + 1 ≤ 40000) (h1 : Ev (.apps false (n + 1) a x) (.many l m)) (h2 : Ev (.spi m (ofS x h) l) r) : Ev (.app n ⟨4, h, a⟩ x) r
  | nil {b : Bool} {n : Nat} {x : Su} : Ev (.apps b n [] x) (.many [] n)
  | consE {b : Bool} {n : Nat} {t : Tm} {l : List Tm} {x : Su} {e : Int} (h1 : Ev (.app n t (if (b && l.isEmpty) = true then underS x else x)) (.err e)) : Ev (.apps b n (t :: l) x) (.err e)
  | consF {b : Bool} {n : Nat} {t : Tm} {l : List Tm} {x : Su} {u : Tm} {m : Nat} {e : Int} (h1 : Ev (.app n t (if (b && l.isEmpty) = true then underS x else x)) (.one u m)) (h2 : Ev (.apps b m l x) (.err e)) : Ev (.apps b n (t :: l) x) (.err e)
  | cons {b : Bool} {n : Nat} {t : Tm} {l : List Tm} {x : Su} {u : Tm} {m : Nat} {us : List Tm} {m' : Nat} (h1 : Ev (.app n t (if (b && l.isEmpty) = true then underS x else x)) (.one u m)) (h2 : Ev (.apps b m l x) (.many us m')) : Ev (.apps b n (t :: l) x) (.many (u :: us) m')
  | done {n : Nat} {t : Tm} : Ev (.spi n t []) (.one t n)
  | lamL {n : Nat} {h : Int} {p : List Tm} {a : Tm} {l : List Tm} (hm : mayB a = false) : Ev (.spi n ⟨3, h, p⟩ (a :: l)) (.err 4)
  | lamE {n : Nat} {h : Int} {b : Tm} {p : List Tm} {a : Tm} {l : List Tm} {e : Int} (hm : mayB a = true) (h1 : Ev (.app n b ⟨[a], 0⟩) (.err e)) : Ev (.spi n ⟨3, h, b :: p⟩ (a :: l)) (.err e)
  | lam {n : Nat} {h : Int} {b : Tm} {p : List Tm} {a : Tm} {l : List Tm} {u : Tm} {m : Nat} {r : Res} (hm : mayB a = true) (h1 : Ev (.app n b ⟨[a], 0⟩) (.one u m)) (h2 : Ev (.spi m u l) r) : Ev (.spi n ⟨3, h, b :: p⟩ (a :: l)) r
  | head {n : Nat} {t : Tm} {a : Tm} {l : List Tm} (hk : t.k = 4 ∨ t.k = 5 ∨ t.k = 2) : Ev (.spi n t (a :: l)) (.one ⟨t.k, t.h, t.a ++ a :: l⟩ n)
  | type {n : Nat} {t : Tm} {a : Tm} {l : List Tm} (hk : t.k ≠ 3 ∧ t.k ≠ 4 ∧ t.k ≠ 5 ∧ t.k ≠ 2) : Ev (.spi n t (a :: l)) (.err 3)

theorem isB4 : isB 4 = false := rfl

/-- One thing is told, at most. -/
theorem Ev.one_only {c : Cfg} {r : Res} (h : Ev c r) : ∀ {s : Res}, Ev c s → r = s := by
  induction h with
  | lim h => intro s q; cases q <;> first | rfl | omega
  | argsE hn h1 ih => intro s q; cases q with
    | lim _ => omega
    | argsE _ q1 => have := ih q1; cases this; rfl
    | node _ q1 _ => have := ih q1; cases this
    | var _ q1 q2 => have := ih q1; cases this
  | node hn h1 hk ih => intro s q; cases q with
    | lim _ => omega
    | argsE _ q1 => have := ih q1; cases this
    | node _ q1 _ => have := ih q1; cases this; rfl
    | var _ q1 q2 => exact absurd rfl hk
  | var hn h1 h2 ih1 ih2 => intro s q; cases q with
    | lim _ => omega
    | argsE _ q1 => have := ih1 q1; cases this
    | node _ q1 hk => exact absurd rfl hk
    | var _ q1 q2 => have := ih1 q1; cases this; exact ih2 q2
  | nil => intro s q; cases q; rfl
  | consE h1 ih => intro s q; cases q with
    | consE q1 => have := ih q1; cases this; rfl
    | consF q1 q2 => have := ih q1; cases this
    | cons q1 q2 => have := ih q1; cases this
  | consF h1 h2 ih1 ih2 => intro s q; cases q with
    | consE q1 => have := ih1 q1; cases this
    | consF q1 q2 => have := ih1 q1; cases this; have := ih2 q2; cases this; rfl
    | cons q1 q2 => have := ih1 q1; cases this; have := ih2 q2; cases this
  | cons h1 h2 ih1 ih2 => intro s q; cases q with
    | consE q1 => have := ih1 q1; cases this
    | consF q1 q2 => have := ih1 q1; cases this; have := ih2 q2; cases this
    | cons q1 q2 => have := ih1 q1; cases this; have := ih2 q2; cases this; rfl
  | done => intro s q; cases q; rfl
  | lamL hm => intro s q; cases q with
    | lamL _ => rfl
    | lamE hm2 _ => rw [hm] at hm2; cases hm2
    | lam hm2 _ _ => rw [hm] at hm2; cases hm2
    | head hk => simp at hk
    | type hk => exact absurd rfl hk.1
  | lamE hm h1 ih => intro s q; cases q with
    | lamL hm2 => rw [hm] at hm2; cases hm2
    | lamE _ q1 => have := ih q1; cases this; rfl
    | lam _ q1 _ => have := ih q1; cases this
    | head hk => simp at hk
    | type hk => exact absurd rfl hk.1
  | lam hm h1 h2 ih1 ih2 => intro s q; cases q with
    | lamL hm2 => rw [hm] at hm2; cases hm2
    | lamE _ q1 => have := ih1 q1; cases this
    | lam _ q1 q2 => have := ih1 q1; cases this; exact ih2 q2
    | head hk => simp at hk
    | type hk => exact absurd rfl hk.1
  | head hk => intro s q; cases q with
    | lamL _ => simp at hk
    | lamE _ _ => simp at hk
    | lam _ _ _ => simp at hk
    | head _ => rfl
    | type hk2 => exact absurd hk (by obtain ⟨_, h1, h2, h3⟩ := hk2; simp [h1, h2, h3])
  | type hk => intro s q; cases q with
    | lamL _ => exact absurd rfl hk.1
    | lamE _ _ => exact absurd rfl hk.1
    | lam _ _ _ => exact absurd rfl hk.1
    | head hk2 => exact absurd hk2 (by obtain ⟨_, h1, h2, h3⟩ := hk; simp [h1, h2, h3])
    | type _ => rfl
end Go.Proofs.YtbmmdfehhhgkcaaGreat
