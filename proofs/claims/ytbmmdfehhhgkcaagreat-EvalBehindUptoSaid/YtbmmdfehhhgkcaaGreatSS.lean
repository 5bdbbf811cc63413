/- The contract of subst.Same. -/
import Derived.Test.YtbmmdfehhhgkcaaGreatB
import Derived.IntWalk
namespace Go.Proofs.YtbmmdfehhhgkcaaGreat
open Go.RowKit Go.Shelf

/-- The variables n-1, n-2, .., k of them. -/
def downT' (n : Int) (k : Nat) : List Tm := (List.range k).map fun (j : Nat) => ⟨4, n - 1 - (j : Int), []⟩
theorem downT'_succ (n : Int) (k : Nat) : downT' n k ++ [⟨4, n - 1 - (k : Int), []⟩] = downT' n (k + 1) := by unfold downT'; rw [List.range_succ, List.map_append]; rfl
theorem downT'_len (n : Int) (k : Nat) : (downT' n k).length = k := by simp [downT']
def sameN (n : Int) : Nat := if n ≤ 0 then 0 else if 200 ≤ n then 200 else n.toNat
theorem sameN_le (n : Int) : sameN n ≤ 200 := by unfold sameN; split; omega; split <;> omega

/-- A substitution handed back. -/
theorem res_su {fn : Func} {p : Tmp} (h : fn.results = #[.cell p 108]) (tmps : Array Value) (W : World) (g : Nat) (x y : Value) (hp : tmps[p]?.getD undef = .pointer (some ⟨g, 0, none⟩)) (hb : Blk W g #[x, y] 108) :
    (results fn tmps).run Tryz.prog W = .ok (.agg #[x, y]) W := by
  have q0 := hb.cell 0
  have q1 := hb.cell 1
  simp [results, h, hp, go_sem, q0, q1]

structure SameRel (S : Nat → Prop) (n : Int) (m : Nat) (w : World) (i : Nat) (wr : World) : Prop where
  le : i ≤ m
  below : Below w.heap.size w wr
  b0 : Blk wr w.heap.size #[.slice none 0 0, .int .i64 0] 108
  out : ∃ v, Blk wr (w.heap.size + 1) #[v, .int .i64 n] 108 ∧ Mine w.heap.size (fun k => S k ∨ k = w.heap.size ∨ k = w.heap.size + 1) wr v (downT' n i)

def RetS' (S : Nat → Prop) (ts : List Tm) (n : Int) (w : World) (e : Ending) (w' : World) : Prop :=
  Below w.heap.size w w' ∧ ∃ B c, e = .returned (.agg #[.slice B ts.length c, .int .i64 n]) ∧ ts.length ≤ c ∧ Reads S w' B ts

end Go.Proofs.YtbmmdfehhhgkcaaGreat
