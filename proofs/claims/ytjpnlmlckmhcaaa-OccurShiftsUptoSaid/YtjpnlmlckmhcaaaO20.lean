/- Plain laws of OccurShifts: the free variables of what is up; the variables in order are a pattern. -/
import Derived.Test.YtjpnlmlckmhcaaaO18
import Derived.Test.YtjpnlmlckmhcaaaC5
import Derived.Test.YtjpnlmlckmhcaaaSS
import Derived.Test.YtjpnlmlckmhcaaaOL
namespace Go.Proofs.Ytjpnlmlckmhcaaa
open Go.RowKit Go.Shelf

mutual
theorem cnt_up (b fr : Int) : ∀ (t : Tm) (n : Int), cnt (upW b fr t n) = cnt t
  | ⟨k, h, a⟩, n => by rw [upW, cnt, cnt, cntL_up]
theorem cntL_up (b fr : Int) : ∀ (x : Bool) (l : List Tm) (n : Int), cntL (upL b fr x l n) = cntL l
  | x, [], n => by rw [upL]
  | x, t :: l, n => by rw [upL, cntL, cntL, cnt_up, cntL_up]
end
theorem upL_len (b fr : Int) : ∀ (x : Bool) (l : List Tm) (n : Int), (upL b fr x l n).length = l.length
  | x, [], n => by rw [upL]
  | x, t :: l, n => by rw [upL, List.length_cons, upL_len, List.length_cons]
theorem upL_emp (b fr : Int) (x : Bool) (l : List Tm) (n : Int) : (upL b fr x l n).isEmpty = l.isEmpty := by cases l <;> rw [upL] <;> rfl

def upN (b fr : Int) (x : Int × Tm) : Int × Int × Int := (x.1, x.2.k, if x.2.k = 4 then upH b fr x.2.h x.1 else x.2.h)
def prK (x : Int × Tm) : Int × Int × Int := (x.1, x.2.k, x.2.h)
mutual
theorem nodes_up (b fr : Int) : ∀ (t : Tm) (n : Int), (nodesW (upW b fr t n) n).map prK = (nodesW t n).map (upN b fr)
  | ⟨k, h, a⟩, n => by
    rw [upW, nodesW, nodesW, List.map_cons, List.map_cons, nodesL_up' b fr (isB k) a n]
    rfl
theorem nodesL_up' (b fr : Int) : ∀ (x : Bool) (l : List Tm) (n : Int), (nodesL x (upL b fr x l n) n).map prK = (nodesL x l n).map (upN b fr)
  | x, [], n => by rw [upL, nodesL]; rfl
  | x, t :: l, n => by
    have e : lastN x (upL b fr x l n) n = lastN x l n := by unfold lastN; rw [upL_emp]
    rw [upL, nodesL, nodesL, List.map_append, List.map_append, e, nodes_up b fr t, nodesL_up' b fr x l n]
end
def varsK (l : List (Int × Int × Int)) : List Int := l.filterMap fun x => if x.2.1 = 4 ∧ x.1 ≤ x.2.2 then some (wrap64 (x.2.2 - x.1)) else none
theorem varsOf_K (l : List (Int × Tm)) : varsOf l = varsK (l.map prK) := by
  unfold varsOf varsK
  rw [List.filterMap_map]
  rfl

mutual
theorem okT_up (b fr : Int) : ∀ (t : Tm) (n : Int), okT t → okT (upW b fr t n)
  | ⟨k, h, a⟩, n, hk => by
    rw [okT] at hk
    rw [upW, okT]
    refine ⟨hk.1, ?_, okL_up b fr (isB k) a n hk.2.2⟩
    have h1 := hk.2.1
    have h2 := wrap_range (h + b)
    unfold upH
    split
    · split
      · exact h2
      · exact h1
    · exact h1
theorem okL_up (b fr : Int) : ∀ (x : Bool) (l : List Tm) (n : Int), okL l → okL (upL b fr x l n)
  | x, [], n, _ => by rw [upL, okL]; trivial
  | x, t :: l, n, hk => by
    rw [okL] at hk
    rw [upL, okL]
    exact ⟨okT_up b fr t _ hk.1, okL_up b fr x l n hk.2⟩
end

theorem vars_up {t : Tm} {b : Int} (hb0 : 0 ≤ b) (hb1 : b ≤ 1000) (hk : okT t) (hn : cnt t ≤ 1048576) (hok : nodesOk t = true) (hlow : lowB t = true) (z : Int) :
    z ∈ varsOf (nodesW (upW b 0 t 0) 0) ↔ z - b ∈ varsOf (nodesW t 0) := by
  have hnode : ∀ x ∈ nodesW t 0, 0 ≤ x.1 ∧ x.1 ≤ 4611686018427387904 ∧ (x.2.k = 4 → 0 ≤ x.2.h) ∧ x.2.h ≤ 1099511627776 := fun x hx => by
    have h1 := nodesW_low t 0 (by omega) (by omega) x hx
    have h3 := List.all_eq_true.1 ((nodesW_ok t 0).trans hok) x hx
    refine ⟨h1.1, h1.2, fun e => ?_, low_nodes t 0 hlow x hx⟩
    simp [mayN, e] at h3; exact h3
  rw [varsOf_K, nodes_up]
  unfold varsK varsOf
  rw [List.filterMap_map]
  simp only [List.mem_filterMap, Function.comp]
  have key : ∀ x ∈ nodesW t 0, ((if (upN b 0 x).2.1 = 4 ∧ (upN b 0 x).1 ≤ (upN b 0 x).2.2 then some (wrap64 ((upN b 0 x).2.2 - (upN b 0 x).1)) else none) = some z ↔
      (if x.2.k = 4 ∧ x.1 ≤ x.2.h then some (wrap64 (x.2.h - x.1)) else none) = some (z - b)) := fun x hx => by
    obtain ⟨n0, n1, h0, h1⟩ := hnode x hx
    unfold upN upH
    dsimp only
    by_cases h4 : x.2.k = 4
    · have h0' := h0 h4
      have hw0 : wrap64 (0 + x.1) = x.1 := by unfold wrap64; omega
      simp only [h4, true_and, if_true, hw0]
      by_cases hle : x.1 ≤ x.2.h
      · have hw1 : wrap64 (x.2.h + b) = x.2.h + b := by unfold wrap64; omega
        have hw2 : wrap64 (x.2.h + b - x.1) = x.2.h + b - x.1 := by unfold wrap64; omega
        have hw3 : wrap64 (x.2.h - x.1) = x.2.h - x.1 := by unfold wrap64; omega
        rw [if_pos hle, hw1, if_pos (by omega), if_pos hle, hw2, hw3]
        simp only [Option.some.injEq]
        omega
      · rw [if_neg hle, if_neg hle]
        simp
    · simp [h4]
  constructor
  · rintro ⟨x, hx, e⟩
    exact ⟨x, hx, (key x hx).1 e⟩
  · rintro ⟨x, hx, e⟩
    exact ⟨x, hx, (key x hx).2 e⟩

theorem rise_map {l : List Int} (h : Rise l) (b : Int) : Rise (l.map (· + b)) := by
  rw [Rise, List.pairwise_map]
  exact h.imp fun hlt => by omega
theorem vars_shift {t : Tm} {b : Int} (hb0 : 0 ≤ b) (hb1 : b ≤ 1000) (hk : okT t) (hn : cnt t ≤ 1048576) (hok : nodesOk t = true) (hlow : lowB t = true) :
    (nodesW (upW b 0 t 0) 0).foldl stepV [] = ((nodesW t 0).foldl stepV []).map (· + b) := by
  have h1 := foldV_rise (nodesW t 0) [] List.Pairwise.nil
  have h2 := foldV_rise (nodesW (upW b 0 t 0) 0) [] List.Pairwise.nil
  refine rise_unique h2.1 (rise_map h1.1 b) fun z => ?_
  rw [h2.2, List.mem_map]
  simp only [List.not_mem_nil, false_or]
  rw [vars_up hb0 hb1 hk hn hok hlow]
  constructor
  · exact fun q => ⟨z - b, (h1.2 _).2 (.inr q), by omega⟩
  · rintro ⟨y, hy, rfl⟩
    have := (h1.2 y).1 hy
    simp only [List.not_mem_nil, false_or] at this
    rwa [show y + b - b = y from by omega]

theorem pat_down (n : Nat) : ∃ vs, patV (downT' n n) n = some vs ∧ vs.length = n := by
  refine ⟨(downT' n n).map (·.h), (patV_iff _ _ _).2 ⟨fun t ht => ?_, ?_, rfl⟩, by rw [List.length_map, downT'_len]⟩
  · obtain ⟨j, hj, rfl⟩ := List.mem_map.1 ht
    have := List.mem_range.1 hj
    exact ⟨rfl, rfl, by dsimp only; omega, by dsimp only; omega⟩
  · have e : (downT' n n).map (·.h) = (List.range n).map fun (j : Nat) => (n : Int) - 1 - (j : Int) := by simp [downT', Function.comp_def]
    rw [e, List.Nodup, List.pairwise_map]
    exact (List.nodup_range (n := n)).imp fun h q => h (by omega)
theorem pat_down_less (n : Nat) : (patV (downT' n n) ((n : Int) - 1)).isSome = decide (n = 0) := by
  cases n with
  | zero => rfl
  | succ n =>
    cases h : patV (downT' (n + 1 : Nat) (n + 1)) (((n + 1 : Nat) : Int) - 1) with
    | none => rfl
    | some vs =>
      have := ((patV_iff _ _ _).1 h).1 ⟨4, ((n + 1 : Nat) : Int) - 1 - ((0 : Nat) : Int), []⟩ (List.mem_map.2 ⟨0, by simp, rfl⟩)
      have := this.2.2.2
      dsimp only at this
      omega
end Go.Proofs.Ytjpnlmlckmhcaaa
