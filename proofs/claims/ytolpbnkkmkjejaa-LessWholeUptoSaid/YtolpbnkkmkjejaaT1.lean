/- The contracts of package term: binds, may, Depth. -/
import Derived.Test.YtolpbnkkmkjejaaLib
import Derived.Test.YtolpbnkkmkjejaaProg
namespace Go.Proofs.Ytolpbnkkmkjejaa
open Go.RowKit Go.Shelf
attribute [local go_sem] Oper.semAt_some

/-- Does a node of this kind bind? -/
def isB (k : Int) : Bool := decide (k = 1) || decide (k = 3)

/-- All nodes of a term, with how many nodes bind around each. -/
def lastN (b : Bool) (l : List Tm) (n : Int) : Int := if b && l.isEmpty then wrap64 (n + 1) else n
mutual
def nodesW : Tm → Int → List (Int × Tm)
  | ⟨k, h, a⟩, n => (n, ⟨k, h, a⟩) :: nodesL (isB k) a n
def nodesL : Bool → List Tm → Int → List (Int × Tm)
  | _, [], _ => []
  | b, t :: l, n => nodesW t (lastN b l n) ++ nodesL b l n
end

structure Nd where
  n : Int
  t : Tm
  A : Option Addr
  c : Nat
abbrev NdIn (M : Nat → Prop) (w0 : World) := { x : Nd // Reads M w0 x.A x.t.a ∧ x.t.a.length ≤ x.c }
abbrev encN {M : Nat → Prop} {w0 : World} (x : NdIn M w0) : Array Value := #[.int .i64 x.1.n, .agg #[.int .i64 x.1.t.k, .int .i64 x.1.t.h, .slice x.1.A x.1.t.a.length x.1.c]]
def prN {M : Nat → Prop} {w0 : World} (x : NdIn M w0) : Int × Tm := (x.1.n, x.1.t)

/-- What the loop of 'walk' keeps. -/
structure WalkRel (M : Nat → Prop) (w0 W : World) (J : List (NdIn M w0) → World → Prop) (k h n : Int) (A : Option Addr) (ts : List Tm) (c : Nat) (pre : List (NdIn M w0)) (i : Nat) (wr : World) : Prop where
  le : i ≤ ts.length
  kc : KC M W wr
  blk : Blk wr W.heap.size #[.int .i64 k, .int .i64 h, .slice A ts.length c] 26
  seen : ∃ xs, J (pre ++ xs) wr ∧ xs.map prN ++ nodesL (isB k) (ts.drop i) n = nodesW ⟨k, h, ts⟩ n

theorem lastN_of {b : Bool} {ts : List Tm} {i : Nat} (n : Int) (hlt : i < ts.length) : lastN b (ts.drop (i + 1)) n = if b = true ∧ i + 1 = ts.length then wrap64 (n + 1) else n := by
  unfold lastN
  by_cases h : i + 1 = ts.length
  · simp [h]
  · have : (ts.drop (i + 1)).isEmpty = false := by simp; omega
    simp [h, this]
section
variable {M : Nat → Prop} {w0 W : World} {J Jx : List (NdIn M w0) → World → Prop} {k h n : Int} {A : Option Addr} {ts : List Tm} {c : Nat} {pre : List (NdIn M w0)} {i : Nat} {wr w1 w3 : World} {xs ys : List (NdIn M w0)}
theorem nodesL_at (b : Bool) (hlt : i < ts.length) : nodesL b (ts.drop i) n = nodesW ts[i] (lastN b (ts.drop (i + 1)) n) ++ nodesL b (ts.drop (i + 1)) n := by
  rw [List.drop_eq_getElem_cons hlt, nodesL]
theorem WalkRel.next (r : WalkRel M w0 W J k h n A ts c pre i wr) (hlt : i < ts.length) (hW : ∀ k, M k → k < W.heap.size) (hb : Below wr.heap.size wr w1) (hk : KC M w1 w3) (hx : J (pre ++ xs ++ ys) w3)
    (e1 : xs.map prN ++ nodesL (isB k) (ts.drop i) n = nodesW ⟨k, h, ts⟩ n) (e2 : ys.map prN = nodesW ts[i] (lastN (isB k) (ts.drop (i + 1)) n)) : WalkRel M w0 W J k h n A ts c pre (i + 1) w3 := by
  refine ⟨hlt, (r.kc.below hb).trans hk, (r.blk.mov hb).kc hk (fun q => by have := hW _ q; omega), xs ++ ys, by rw [← List.append_assoc]; exact hx, ?_⟩
  rw [← e1, nodesL_at _ hlt, List.map_append, e2, List.append_assoc]
theorem walk_len (hlt : i < ts.length) (e1 : xs.map prN ++ nodesL (isB k) (ts.drop i) n = nodesW ⟨k, h, ts⟩ n) {N : Nat} (hN : pre.length + (nodesW ⟨k, h, ts⟩ n).length ≤ N) :
    (pre ++ xs).length + (nodesW ts[i] (lastN (isB k) (ts.drop (i + 1)) n)).length ≤ N := by
  rw [← e1, nodesL_at _ hlt] at hN
  simp at hN ⊢
  omega
theorem walk_cut (hlt : i < ts.length) (e1 : xs.map prN ++ nodesL (isB k) (ts.drop i) n = nodesW ⟨k, h, ts⟩ n) (e2 : ys.map prN <+: nodesW ts[i] (lastN (isB k) (ts.drop (i + 1)) n)) :
    (xs ++ ys).map prN <+: nodesW ⟨k, h, ts⟩ n := by
  obtain ⟨r, hr⟩ := e2
  rw [← e1, nodesL_at _ hlt, ← hr]
  exact ⟨r ++ nodesL (isB k) (ts.drop (i + 1)) n, by simp⟩
end

theorem KC.putObj {M : Nat → Prop} (W : World) (l : Nat) (o o' : Obj) (h : W.heap[l]? = some o) (hc : o.isCells = false) : KC M W (W.putObj l o') := by
  have hg := grownBy_putObj' W l o'
  refine ⟨hg.size, fun k cs t fr _ e => ?_⟩
  by_cases hk : k = l
  · subst hk; rw [h] at e; cases e; cases hc
  · rw [hg.block k (Array.getElem?_eq_some_iff.1 e).1 (fun q => hk (by injection q))]; exact e
theorem KC.setCell {M : Nat → Prop} (W : World) (p : Addr) (v : Value) (h : M p.block) : KC M W (W.setCell p v) :=
  ⟨by simp [World.setCell], fun k cs t fr hm e => by rw [Below.heap_setCell W p v k (fun q => hm (q ▸ h))]; exact e⟩

theorem wrap_zero : wrap64 ((0 : Nat) : Int) = 0 := by
  unfold wrap64
  omega
theorem wrap_succ (k : Nat) : wrap64 (wrap64 (k : Int) + 1) = wrap64 ((k + 1 : Nat) : Int) := by
  unfold wrap64
  omega

end Go.Proofs.Ytolpbnkkmkjejaa
