/- The contracts of package term: may, Depth, May. -/
import Derived.Test.YtolpbnkkmkjejaaT2
namespace Go.Proofs.Ytolpbnkkmkjejaa
open Go.RowKit Go.Shelf
attribute [local go_sem] Oper.semAt_some

theorem ret_bool {a b : Bool} (h : a = b) : Ending.returned (.bool a) = Ending.returned (.bool b) := by rw [h]
theorem ret_int {a b : Int} (h : a = b) : Ending.returned (.int .i64 a) = Ending.returned (.int .i64 b) := by rw [h]

/-- May a node of this kind, head and number of parts be? -/
def mayN (k h : Int) (n : Nat) : Bool :=
  if k = 0 then decide (h = 0) && decide (n = 0) else if k = 1 then decide (h = 0) && decide (n = 2) else if k = 3 then decide (h = 0) && decide (n = 1) else decide (0 ≤ k) && decide (k < 7) && decide (0 ≤ h)

def mx (a b : Int) : Int := if a < b then b else a
mutual
def depthW : Tm → Int
  | ⟨_, _, a⟩ => wrap64 (depthL 0 a + 1)
def depthL : Int → List Tm → Int
  | m, [] => m
  | m, t :: l => depthL (mx m (depthW t)) l
end

structure DepthRel (w : World) (A : Option Addr) (ts : List Tm) (i : Nat) (m : Int) (wr : World) : Prop where
  le : i ≤ ts.length
  below : Below w.heap.size w wr
  sum : depthL m (ts.drop i) = depthL 0 ts

def sizeW (t : Tm) : Int := wrap64 ((nodesW t 0).length : Int)
def mayB (t : Tm) : Bool := decide (depthW t ≤ 60) && (decide (sizeW t ≤ 4000) && (nodesW t 0).all fun x => mayN x.2.k x.2.h x.2.a.length)

end Go.Proofs.Ytolpbnkkmkjejaa
