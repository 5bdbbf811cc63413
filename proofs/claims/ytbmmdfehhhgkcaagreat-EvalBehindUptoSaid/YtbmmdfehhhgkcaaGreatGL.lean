/- Worlds that grew: one row of them, or none. -/
import Derived.Test.YtbmmdfehhhgkcaaGreatF3
import Derived.Test.YtbmmdfehhhgkcaaGreatB
namespace Go.Proofs.YtbmmdfehhhgkcaaGreat
open Go.RowKit Go.Shelf

theorem bl_grownBy {w W : World} (h : Below w.heap.size w W) : w.grownBy W none := ⟨h.os, h.tape, h.output, h.size, fun i hi _ => h.block i hi⟩
theorem grown_but {w W : World} (h : w.grownBy W none) (row : Option Nat) : w.grownBy W row := ⟨h.os, h.tape, h.output, h.size, fun i hi _ => h.block i hi (by simp)⟩
theorem grown_below {w W : World} (h : w.grownBy W none) : Below w.heap.size w W := ⟨h.os, h.tape, h.output, h.size, fun i hi => h.block i hi (by simp)⟩

theorem Blk.drew {W : World} {g : Nat} {cs : Array Value} {t : TypeId} (h : Blk W g cs t) : Blk W.drew g cs t := h
theorem reads_one {S : Nat → Prop} {W : World} {g : Nat} {t : Tm} {B : Option Addr} {d : Nat} (h : Blk W g #[.int .i64 t.k, .int .i64 t.h, .slice B t.a.length d] 25) (hs : ¬ S g) (hr : Reads S W B t.a) (hd : t.a.length ≤ d) : Reads S W (some ⟨g, 0, none⟩) [t] :=
  .row g 0 [t] (fun _ => B) (fun _ => d) hs (by simp [lim]) (fun i hi => by
    have : i = 0 := by simp at hi; omega
    subst this
    exact ⟨h.cell 0, h.cell 1, h.cell 2, hd⟩) (fun i hi => by
    have : i = 0 := by simp at hi; omega
    subst this
    exact hr)

theorem Blk.al {W : World} {g : Nat} {cs : Array Value} {t : TypeId} (h : Blk W g cs t) (o : Obj) : Blk (W.alloc o) g cs t := h.mov (bl_alloc (Below.refl _ _) o)
theorem Blk.nw (W : World) (cs : Array Value) (t : TypeId) (g : Nat) (hg : g = W.heap.size) : Blk (W.alloc (.cells cs t)) g cs t := hg ▸ Blk.new W cs t
end Go.Proofs.YtbmmdfehhhgkcaaGreat
