/- Terms in memory: what a row of them reads as, and how that lasts. No function of the program stands here. -/
import Derived.Below
import Derived.Deep.AppendLies
import Derived.Maps.AppendAt
import Derived.OwnWalk
import Derived.Laws.MakeOwn
import Derived.Laws.OwnMore
import Derived.Laws.Slices
import Derived.WalkKit
import Derived.KernelRfl
import Derived.RowKit3
import Derived.Lib.Hide
import Derived.RangeFuncNested
import Derived.RangeFuncBound
import Derived.RangeFuncCalls
import Derived.RangeFuncLeaves
import Derived.Shelf.Abstract
import Derived.Shelf.RegionOpen
import Derived.OwnWalkIn
import Derived.TacticsInMore
import Derived.LoopNIn
import Derived.LoopIn
import Derived.BigQuiet
import Derived.Deep.QuietTactic
import Derived.Outline
import Derived.Deep.DeepMust
import Derived.StillTailTactics
import Derived.Deep.RegionHeld3
import Derived.Deep.DeepCutAuto
namespace Go.Proofs.YtbmmdfehhhgkcaaGreat
open Go.RowKit

/-- A term. -/
structure Tm where
  k : Int
  h : Int
  a : List Tm

/-- The most elements that a row of terms may have. -/
def lim : Nat := 3518437208883

theorem Tm.ind {P : Tm → Prop} (h : ∀ t, (∀ s ∈ t.a, P s) → P t) : ∀ t, P t
  | ⟨k, hd, l⟩ => h ⟨k, hd, l⟩ (go l)
where
  go : ∀ l : List Tm, ∀ s ∈ l, P s
    | [], _, hs => by cases hs
    | t :: l, s, hs => by
      cases hs with
      | head => exact Tm.ind h t
      | tail _ hs => exact go l s hs

/-- The row at A reads as these terms; no block that it leads to is one of S. -/
inductive Reads (S : Nat → Prop) (w : World) : Option Addr → List Tm → Prop
  | nil (A : Option Addr) : Reads S w A []
  | row (b o : Nat) (ts : List Tm) (f : Nat → Option Addr) (c : Nat → Nat) (hS : ¬ S b) (hl : ts.length ≤ lim)
      (hc : ∀ i, (hi : i < ts.length) → w.cell? ⟨b, o + 3 * i, none⟩ = some (.int .i64 ts[i].k) ∧ w.cell? ⟨b, o + 3 * i + 1, none⟩ = some (.int .i64 ts[i].h) ∧
        w.cell? ⟨b, o + 3 * i + 2, none⟩ = some (.slice (f i) ts[i].a.length (c i)) ∧ ts[i].a.length ≤ c i)
      (hr : ∀ i, (hi : i < ts.length) → Reads S w (f i) ts[i].a) : Reads S w (some ⟨b, o, none⟩) ts

theorem Reads.len {S : Nat → Prop} {w : World} {A : Option Addr} {ts : List Tm} (h : Reads S w A ts) : ts.length ≤ lim := by
  cases h with
  | nil => simp
  | row b o ts f c hS hl hc hr => exact hl

/-- What is as it was where it leads reads on. -/
theorem Reads.step {S S' : Nat → Prop} {w w' : World} (hS : ∀ k, k < w.heap.size → ¬ S k → ¬ S' k) (hb : ∀ k, k < w.heap.size → ¬ S k → w'.heap[k]? = w.heap[k]?)
    {A : Option Addr} {ts : List Tm} (h : Reads S w A ts) : Reads S' w' A ts := by
  induction h with
  | nil A => exact .nil A
  | row b o ts f c hs hl hc _ ih =>
    rcases Nat.eq_zero_or_pos ts.length with h0 | h0
    · obtain rfl := List.eq_nil_of_length_eq_zero h0
      exact .nil _
    · have hlt : b < w.heap.size := World.block_lt_of_cell? w _ (hc 0 h0).1
      have hw : ∀ j, w'.cell? ⟨b, j, none⟩ = w.cell? ⟨b, j, none⟩ := fun j => World.cell?_of_block (a := ⟨b, j, none⟩) (hb b hlt hs)
      exact .row b o ts f c (hS b hlt hs) hl (fun i hi => by rw [hw, hw, hw]; exact hc i hi) ih

theorem Reads.mov {S : Nat → Prop} {w w' : World} {A : Option Addr} {ts : List Tm} (h : Reads S w A ts) (hb : Below w.heap.size w w') : Reads S w' A ts :=
  h.step (fun _ _ hk => hk) (fun k hk _ => hb.block k hk)

/-- An element: its cells, and the row that it leads to. -/
theorem add_plain (b o n : Nat) : (⟨b, o, none⟩ : Addr).add n = ⟨b, o + n, none⟩ := by
  unfold Addr.add
  split <;> simp_all
theorem Reads.at {S : Nat → Prop} {w : World} {A : Option Addr} {ts : List Tm} (h : Reads S w A ts) {i : Nat} (hi : i < ts.length) :
    ∃ ad B c, A = some ad ∧ ¬ S ad.block ∧ w.cell? (ad.add (i * 3)) = some (.int .i64 ts[i].k) ∧ w.cell? ⟨(ad.add (i * 3)).block, (ad.add (i * 3)).off + 1, none⟩ = some (.int .i64 ts[i].h) ∧
      w.cell? ⟨(ad.add (i * 3)).block, (ad.add (i * 3)).off + 2, none⟩ = some (.slice B ts[i].a.length c) ∧ ts[i].a.length ≤ c ∧ Reads S w B ts[i].a := by
  cases h with
  | nil => exact absurd hi (by simp)
  | row b o ts f c hS hl hc hr =>
    obtain ⟨h1, h2, h3, h4⟩ := hc i hi
    refine ⟨⟨b, o, none⟩, f i, c i, rfl, hS, ?_, ?_, ?_, h4, hr i hi⟩
    · rw [add_plain, Nat.mul_comm]; exact h1
    · rw [add_plain, Nat.mul_comm]; exact h2
    · rw [add_plain, Nat.mul_comm]; exact h3
theorem add_block (ad : Addr) (n : Nat) : (ad.add n).block = ad.block := by
  unfold Addr.add
  split <;> rfl

/-- Whatever is cells, outside of M, lies as it lay. -/
structure KC (M : Nat → Prop) (W W' : World) : Prop where
  size : W.heap.size ≤ W'.heap.size
  same : ∀ (k : Nat) (cs : Array Value) (t : TypeId) (fr : Nat × Nat), ¬ M k → W.heap[k]? = some (.cells cs t fr) → W'.heap[k]? = some (.cells cs t fr)

theorem KC.refl (M : Nat → Prop) (W : World) : KC M W W := ⟨Nat.le_refl _, fun _ _ _ _ _ h => h⟩
theorem KC.trans {M : Nat → Prop} {A B C : World} (h : KC M A B) (k : KC M B C) : KC M A C := ⟨Nat.le_trans h.size k.size, fun i cs t fr hm e => k.same i cs t fr hm (h.same i cs t fr hm e)⟩
theorem KC.of_below {M : Nat → Prop} {W W' : World} (h : Below W.heap.size W W') : KC M W W' :=
  ⟨h.size, fun k cs t fr _ e => by rw [h.block k (Array.getElem?_eq_some_iff.1 e).1]; exact e⟩
theorem KC.below {M : Nat → Prop} {A W W' : World} (h : KC M A W) (k : Below W.heap.size W W') : KC M A W' := h.trans (.of_below k)
theorem KC.mono {M M' : Nat → Prop} {W W' : World} (h : KC M W W') (hm : ∀ k, M k → M' k) : KC M' W W' := ⟨h.size, fun k cs t fr hk e => h.same k cs t fr (fun q => hk (hm k q)) e⟩

theorem cells_of_cell {W : World} {a : Addr} {v : Value} (h : W.cell? a = some v) : ∃ cs t fr, W.heap[a.block]? = some (.cells cs t fr) := by
  unfold World.cell? at h
  split at h
  · rename_i c t f e; exact ⟨c, t, f, e⟩
  · cases h
theorem KC.cell {M : Nat → Prop} {W W' : World} (h : KC M W W') {a : Addr} {v : Value} (hm : ¬ M a.block) (hc : W.cell? a = some v) : W'.cell? a = some v := by
  obtain ⟨cs, t, fr, e⟩ := cells_of_cell hc
  have e' := h.same _ cs t fr hm e
  rw [World.cell?_of_block (w := W) (w' := W') (e'.trans e.symm)]
  exact hc
theorem Reads.kc {M S : Nat → Prop} {W W' : World} (h : KC M W W') (hs : ∀ k, M k → S k) {A : Option Addr} {ts : List Tm} (hr : Reads S W A ts) : Reads S W' A ts := by
  induction hr with
  | nil A => exact .nil A
  | row b o ts f c hS hl hc _ ih =>
    refine .row b o ts f c hS hl (fun i hi => ?_) ih
    obtain ⟨h1, h2, h3, h4⟩ := hc i hi
    have hm : ¬ M b := fun q => hS (hs b q)
    exact ⟨h.cell (a := ⟨b, _, none⟩) hm h1, h.cell (a := ⟨b, _, none⟩) hm h2, h.cell (a := ⟨b, _, none⟩) hm h3, h4⟩

/-- A block of one's own. -/
def Blk (W : World) (g : Nat) (cs : Array Value) (t : TypeId) : Prop := W.heap[g]? = some (.cells cs t (0, 0))
theorem Blk.lt {W : World} {g : Nat} {cs : Array Value} {t : TypeId} (h : Blk W g cs t) : g < W.heap.size := (Array.getElem?_eq_some_iff.1 h).1
theorem Blk.cell {W : World} {g : Nat} {cs : Array Value} {t : TypeId} (h : Blk W g cs t) (j : Nat) : W.cell? ⟨g, j, none⟩ = cs[j]? := by simp [World.cell?, show W.heap[g]? = _ from h]
theorem Blk.frozen {W : World} {g : Nat} {cs : Array Value} {t : TypeId} (h : Blk W g cs t) (j : Nat) : W.frozen? ⟨g, j, none⟩ = false := by simp [World.frozen?, show W.heap[g]? = _ from h]
theorem Blk.kc {M : Nat → Prop} {W W' : World} {g : Nat} {cs : Array Value} {t : TypeId} (h : Blk W g cs t) (k : KC M W W') (hm : ¬ M g) : Blk W' g cs t := k.same g cs t _ hm h
theorem Blk.mov {W W' : World} {g : Nat} {cs : Array Value} {t : TypeId} (h : Blk W g cs t) (k : Below W.heap.size W W') : Blk W' g cs t := (k.block g h.lt).trans h
theorem Blk.new (W : World) (cs : Array Value) (t : TypeId) : Blk (W.alloc (.cells cs t)) W.heap.size cs t := World.alloc_heap_new W _

theorem bl_alloc {a w : World} (h : Below a.heap.size a w) (o : Obj) : Below a.heap.size a (w.alloc o) := h.alloc h.size o
theorem bl_then {a b c : World} (h : Below a.heap.size a b) (k : Below b.heap.size b c) : Below a.heap.size a c := h.trans (k.mono h.size)
theorem bl_set {a w : World} (h : Below a.heap.size a w) {p : Addr} (hp : a.heap.size ≤ p.block) (u : Value) : Below a.heap.size a (w.setCell p u) := h.setCell hp u

end Go.Proofs.YtbmmdfehhhgkcaaGreat
