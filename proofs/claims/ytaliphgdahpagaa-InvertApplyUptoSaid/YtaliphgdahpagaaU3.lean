/- Substitution's contracts, told by Ev. -/
import Derived.Test.YtaliphgdahpagaaU2
import Derived.Test.YtaliphgdahpagaaSC
import Derived.WalkLawsBesides
namespace Go.Proofs.Ytaliphgdahpagaa
open Go.RowKit Go.Shelf
set_option linter.unusedVariables false
set_option linter.unusedSimpArgs false

/-- A panic with an error. -/
abbrev panE (x : Int) : Ending := .panicked [{ v := .iface 28 (.int .i64 x), recovered := false }]
theorem fail_calls (x : Int) (w : World) : Calls Try.prog 49 #[.int .i64 x] w fun e w' => e = panE x ∧ w' = w := by
  go_enter Try.func49, Try.ntmps49
  go_wp2
  exact ⟨rfl, rfl, rfl⟩

/-- What comes back: a term, with how many nodes were gone to in block gw; or a panic. -/
def RetW (S : Nat → Prop) (gw : Nat) (c : Cfg) (w : World) (e : Ending) (w' : World) : Prop :=
  w.grownBy w' (some gw) ∧ ((∃ x, e = panE x ∧ Ev c (.err x)) ∨ ∃ u m B d, e = .returned (.agg #[.int .i64 u.k, .int .i64 u.h, .slice B u.a.length d]) ∧ Ev c (.one u m) ∧ u.a.length ≤ d ∧ Reads S w' B u.a ∧ Blk w' gw #[.int .i64 (m : Int)] 72)
/-- The contract of (*work).apply, so many nodes in. -/
def AP (n : Nat) : Prop := ∀ (S : Nat → Prop) (t : Tm) (x : Su) (A : Option Addr) (c : Nat) (A2 : Option Addr) (c2 gw : Nat) (w : World), (∀ k, S k → k < w.heap.size) → S gw → Blk w gw #[.int .i64 (n : Int)] 72 →
  Reads S w A t.a → t.a.length ≤ c → Reads S w A2 x.l → x.l.length ≤ c2 → Fit (.app n t x) →
  Calls Try.prog 37 #[.pointer (some ⟨gw, 0, none⟩), .agg #[.int .i64 t.k, .int .i64 t.h, .slice A t.a.length c], .agg #[.slice A2 x.l.length c2, .int .i64 x.s]] w (RetW S gw (.app n t x) w)
/-- The contract of (*work).spine. -/
def SP (n : Nat) : Prop := ∀ (S : Nat → Prop) (t : Tm) (l : List Tm) (A : Option Addr) (c : Nat) (A2 : Option Addr) (c2 gw : Nat) (w : World), (∀ k, S k → k < w.heap.size) → S gw → Blk w gw #[.int .i64 (n : Int)] 72 →
  Reads S w A t.a → t.a.length ≤ c → Reads S w A2 l → l.length ≤ c2 → Fit (.spi n t l) →
  Calls Try.prog 51 #[.pointer (some ⟨gw, 0, none⟩), .agg #[.int .i64 t.k, .int .i64 t.h, .slice A t.a.length c], .slice A2 l.length c2] w (RetW S gw (.spi n t l) w)

theorem gb_refl (w : World) (r : Option Nat) : w.grownBy w r := grown_but (bl_grownBy (Below.refl _ _)) r
theorem gb_then {w W W' : World} {r : Option Nat} (h : w.grownBy W r) (hb : Below W.heap.size W W') : w.grownBy W' r := World.grownBy.trans h (grown_but (bl_grownBy hb) r)
theorem gb_alloc {w W : World} {r : Option Nat} (h : w.grownBy W r) (o : Obj) : w.grownBy (W.alloc o) r := gb_then h (bl_alloc (Below.refl _ _) o)
theorem gb_set {w W : World} {g : Nat} (h : w.grownBy W (some g)) (j : Nat) (u : Value) : w.grownBy (W.setCell ⟨g, j, none⟩ u) (some g) :=
  World.grownBy.trans h ⟨rfl, rfl, rfl, by simp [World.setCell], fun k _ hk => Below.heap_setCell W _ u k (fun e => hk (by rw [e]))⟩
theorem gb_new {w W : World} {r : Option Nat} (h : w.grownBy W r) {p : Addr} (hp : w.heap.size ≤ p.block) (u : Value) : w.grownBy (W.setCell p u) r := by
  have hs := h.size
  refine ⟨h.os, h.tape, h.output, by simpa using h.size, fun k hk hr => (Below.heap_setCell W p u k (fun e => ?_)).trans (h.block k hk hr)⟩
  omega

def preR (us : List Tm) : Res → Res
  | .err e => .err e
  | .many l m => .many (us ++ l) m
  | .one t m => .one t m
def S4 (S : Nat → Prop) (g : Nat) : Nat → Prop := fun k => S k ∨ (g ≤ k ∧ k ≤ g + 3)

structure ApRel (S : Nat → Prop) (n : Nat) (k h : Int) (a : List Tm) (x : Su) (A : Option Addr) (c : Nat) (A2 : Option Addr) (c2 gw : Nat) (w : World) (i m : Nat) (us : List Tm) (v : Value) (wr : World) : Prop where
  le : i ≤ a.length
  grown : w.grownBy wr (some gw)
  b0 : Blk wr w.heap.size #[.int .i64 k, .int .i64 h, .slice A a.length c] 24
  b1 : Blk wr (w.heap.size + 1) #[.slice A2 x.l.length c2, .int .i64 x.s] 40
  b2 : Blk wr (w.heap.size + 1 + 1) #[.int .i64 0, .int .i64 0, .slice none 0 0] 24
  bw : Blk wr gw #[.int .i64 (m : Int)] 72
  bo : Blk wr (w.heap.size + 1 + 1 + 1) #[.int .i64 k, .int .i64 h, v] 24
  mine : Mine w.heap.size (S4 S w.heap.size) wr v us
  len : us.length = i
  m0 : n + 1 ≤ m
  m1 : m ≤ 40000
  each : hBL (bnd m) us
  size : cntL us ≤ 4001 * (m - (n + 1))
  ev : ∀ r, Ev (.apps (isB k) m (a.drop i) x) r → Ev (.apps (isB k) (n + 1) a x) (preR us r)

/-- Ahead of the call: the part, and the substitution there. -/
structure CutA (S : Nat → Prop) (t : Tm) (B : Option Addr) (d : Nat) (y : Su) (wr wx : World) : Prop where
  below : Below wr.heap.size wr wx
  ba : Blk wx wr.heap.size #[.int .i64 t.k, .int .i64 t.h, .slice B t.a.length d] 24
  out : ∃ A3 c3, Blk wx (wr.heap.size + 1) #[.slice A3 y.l.length c3, .int .i64 y.s] 40 ∧ y.l.length ≤ c3 ∧ Reads S wx A3 y.l
theorem mine_grown {base : Nat} {S : Nat → Prop} {w w' : World} {v : Value} {ts : List Tm} {g : Nat} (h : Mine base S w v ts) (hg : w.grownBy w' (some g)) (hs : S g) : Mine base S w' v ts :=
  h.step (fun k hk hn => hg.block k hk (fun e => hn (by cases e; exact hs)))
theorem reads_grown {S : Nat → Prop} {w w' : World} {A : Option Addr} {ts : List Tm} {g : Nat} (h : Reads S w A ts) (hg : w.grownBy w' (some g)) (hs : S g) : Reads S w' A ts :=
  h.step (fun _ _ q => q) (fun k hk hn => hg.block k hk (fun e => hn (by cases e; exact hs)))
theorem gb_own {w W W' : World} {r row : Option Nat} (h : w.grownBy W r) (hg : W.grownBy W' row) (hr : ∀ k, row = some k → w.heap.size ≤ k) : w.grownBy W' r :=
  ⟨hg.os.trans h.os, hg.tape.trans h.tape, hg.output.trans h.output, Nat.le_trans h.size hg.size, fun k hk hn => (hg.block k (Nat.lt_of_lt_of_le hk h.size) (fun e => Nat.lt_irrefl _ (Nat.lt_of_lt_of_le hk (hr k e.symm)))).trans (h.block k hk hn)⟩
theorem gb_new3 {w W : World} {r : Option Nat} (h : w.grownBy W r) {g : Nat} (hp : w.heap.size ≤ g) (a b c : Value) : w.grownBy (((W.setCell ⟨g, 0, none⟩ a).setCell ⟨g, 1, none⟩ b).setCell ⟨g, 2, none⟩ c) r :=
  gb_new (gb_new (gb_new h (p := ⟨g, 0, none⟩) hp a) (p := ⟨g, 1, none⟩) hp b) (p := ⟨g, 2, none⟩) hp c
theorem far3 {W : World} {g g' : Nat} {cs : Array Value} {t : TypeId} (h : Blk W g cs t) (hp : g ≠ g') (a b c : Value) : Blk (((W.setCell ⟨g', 0, none⟩ a).setCell ⟨g', 1, none⟩ b).setCell ⟨g', 2, none⟩ c) g cs t :=
  ((h.far (p := ⟨g', 0, none⟩) hp a).far (p := ⟨g', 1, none⟩) hp b).far (p := ⟨g', 2, none⟩) hp c
theorem gb_drew {w W : World} {r : Option Nat} (h : w.grownBy W r) : w.grownBy W.drew r := ⟨h.os, h.tape, h.output, h.size, h.block⟩
theorem gb_undrew {w W : World} {r : Option Nat} (h : w.drew.grownBy W r) : w.grownBy W r := ⟨h.os, h.tape, h.output, h.size, h.block⟩
theorem Ev.apps_one {b : Bool} {n : Nat} {l : List Tm} {x : Su} {t : Tm} {m : Nat} (h : Ev (.apps b n l x) (.one t m)) : False := by cases h
theorem ApRel.next {S : Nat → Prop} {n : Nat} {k h : Int} {a : List Tm} {x : Su} {A : Option Addr} {c : Nat} {A2 : Option Addr} {c2 gw : Nat} {w : World} {i m : Nat} {us : List Tm} {v : Value} {wr : World} (q : ApRel S n k h a x A c A2 c2 gw w i m us v wr) (hlt : i < a.length) {u : Tm} {m' : Nat}
    (he : Ev (.app m a[i] (if (isB k && (a.drop (i + 1)).isEmpty) = true then underS x else x)) (.one u m')) (r : Res) (hr : Ev (.apps (isB k) m' (a.drop (i + 1)) x) r) : Ev (.apps (isB k) (n + 1) a x) (preR (us ++ [u]) r) := by
  have hd := q.ev
  rw [List.drop_eq_getElem_cons hlt] at hd
  cases r with
  | err e => exact hd (.err e) (.consF he hr)
  | one t m2 => exact hr.apps_one.elim
  | many l m2 =>
    have := hd _ (.cons he hr)
    simpa [preR] using this
theorem ApRel.stop {S : Nat → Prop} {n : Nat} {k h : Int} {a : List Tm} {x : Su} {A : Option Addr} {c : Nat} {A2 : Option Addr} {c2 gw : Nat} {w : World} {i m : Nat} {us : List Tm} {v : Value} {wr : World} (q : ApRel S n k h a x A c A2 c2 gw w i m us v wr) (hlt : i < a.length) (hn : n + 1 ≤ 40000) {e : Int}
    (he : Ev (.app m a[i] (if (isB k && (a.drop (i + 1)).isEmpty) = true then underS x else x)) (.err e)) : Ev (.app n ⟨k, h, a⟩ x) (.err e) := by
  have hd := q.ev
  rw [List.drop_eq_getElem_cons hlt] at hd
  exact .argsE hn (hd (.err e) (.consE he))
end Go.Proofs.Ytaliphgdahpagaa
