/- The contracts of Same, of package term and of the reference. -/
import Derived.Test.YtolpbnkkmkjejaaF1
namespace Go.Proofs.Ytolpbnkkmkjejaa
open Go.RowKit Go.Shelf

mutual
def sameB : Tm → Tm → Bool
  | ⟨k, h, a⟩, ⟨k', h', a'⟩ => k == k' && (h == h' && sameL a a')
def sameL : List Tm → List Tm → Bool
  | [], [] => true
  | t :: l, s :: m => sameB t s && sameL l m
  | _, _ => false
end
theorem sameL_ne {a b : List Tm} (h : a.length ≠ b.length) : sameL a b = false := by
  induction a generalizing b with
  | nil => cases b with
    | nil => exact absurd rfl h
    | cons => rfl
  | cons t l ih => cases b with
    | nil => rfl
    | cons s m => rw [sameL, ih (by simpa using h), Bool.and_false]

theorem cell_mov {W W' : World} {a : Addr} {v : Value} (h : W.cell? a = some v) (hb : Below W.heap.size W W') : W'.cell? a = some v := (hb.cell (World.block_lt_of_cell? W a h)).trans h
theorem bl_eta {a w : World} (h : Below a.heap.size a w) {n : Nat} : Below a.heap.size a { heap := w.heap, tape := w.tape, drawn := n, os := w.os, output := w.output } := ⟨h.os, h.tape, h.output, h.size, h.block⟩

/-- What a loop over the parts of two terms keeps. -/
structure TRel2 (w : World) (k h : Int) (A : Option Addr) (ts : List Tm) (c : Nat) (k2 h2 : Int) (A2 : Option Addr) (ss : List Tm) (c2 : Nat) (i : Nat) (wr : World) : Prop where
  le : i ≤ ts.length
  below : Below w.heap.size w wr
  b1 : Blk wr w.heap.size #[.int .i64 k, .int .i64 h, .slice A ts.length c] 26
  b2 : Blk wr (w.heap.size + 1) #[.int .i64 k2, .int .i64 h2, .slice A2 ss.length c2] 26
  rest : sameL (ts.drop i) (ss.drop i) = sameL ts ss
theorem TRel2.zero (w : World) (k h : Int) (A : Option Addr) (ts : List Tm) (c : Nat) (k2 h2 : Int) (A2 : Option Addr) (ss : List Tm) (c2 : Nat) :
    TRel2 w k h A ts c k2 h2 A2 ss c2 0 ((w.alloc (.cells #[.int .i64 k, .int .i64 h, .slice A ts.length c] 26)).alloc (.cells #[.int .i64 k2, .int .i64 h2, .slice A2 ss.length c2] 26)) :=
  ⟨Nat.zero_le _, bl_alloc (bl_alloc (Below.refl _ _) _) _, (Blk.new _ _ _).mov (bl_alloc (Below.refl _ _) _), by
    have := Blk.new (w.alloc (.cells #[.int .i64 k, .int .i64 h, .slice A ts.length c] 26)) #[.int .i64 k2, .int .i64 h2, .slice A2 ss.length c2] 26
    simpa using this, rfl⟩
theorem TRel2.next {w : World} {k h : Int} {A : Option Addr} {ts : List Tm} {c : Nat} {k2 h2 : Int} {A2 : Option Addr} {ss : List Tm} {c2 : Nat} {i : Nat} {wr w1 : World} (hr : TRel2 w k h A ts c k2 h2 A2 ss c2 i wr) (hlt : i < ts.length) (hlt2 : i < ss.length)
    (hb : Below wr.heap.size wr w1) (hf : sameB ts[i] ss[i] = true) : TRel2 w k h A ts c k2 h2 A2 ss c2 (i + 1) w1 :=
  ⟨hlt, bl_then hr.below hb, hr.b1.mov hb, hr.b2.mov hb, by rw [← hr.rest, List.drop_eq_getElem_cons hlt, List.drop_eq_getElem_cons hlt2, sameL, hf, Bool.true_and]⟩

end Go.Proofs.Ytolpbnkkmkjejaa
