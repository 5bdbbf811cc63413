/- Binds: what rows of them read as; an own row of binds; match.told. -/
import Derived.Test.YtbmmdfehhhgkcaaGreatDT
import Derived.Test.YtbmmdfehhhgkcaaGreatGL
import Derived.Test.YtbmmdfehhhgkcaaGreatBA
import Derived.Laws.MakeOwn
import Derived.OwnWalk
namespace Go.Proofs.YtbmmdfehhhgkcaaGreat
open Go.RowKit Go.Shelf
set_option linter.unusedVariables false
set_option linter.unusedSimpArgs false

structure Bd where
  is : Bool
  t : Tm
def eB (S : Nat → Prop) (w : World) (cs : List Value) (x : Bd) : Prop :=
  ∃ B d, cs = [.bool x.is, .int .i64 x.t.k, .int .i64 x.t.h, .slice B x.t.a.length d] ∧ x.t.a.length ≤ d ∧ Reads S w B x.t.a
theorem lasts_B : Lasts eB := ⟨fun hS hb ⟨B, d, h1, h2, h3⟩ => ⟨B, d, h1, h2, h3.step hS hb⟩⟩

/-- A row of binds, wherever it lies; its terms lie outside of S. -/
def RowB (S : Nat → Prop) (w : World) (A : Option Addr) (bs : List Bd) : Prop :=
  bs.length ≤ lim ∧ ∀ i, (hi : i < bs.length) → ∃ (ad : Addr) (B : Option Addr) (d : Nat), A = some ad ∧ w.cell? (ad.add (i * 4)) = some (.bool bs[i].is) ∧ w.cell? ⟨(ad.add (i * 4)).block, (ad.add (i * 4)).off + 1, none⟩ = some (.int .i64 bs[i].t.k) ∧
    w.cell? ⟨(ad.add (i * 4)).block, (ad.add (i * 4)).off + 2, none⟩ = some (.int .i64 bs[i].t.h) ∧ w.cell? ⟨(ad.add (i * 4)).block, (ad.add (i * 4)).off + 3, none⟩ = some (.slice B bs[i].t.a.length d) ∧ bs[i].t.a.length ≤ d ∧ Reads S w B bs[i].t.a
theorem RowB.mov {S : Nat → Prop} {w w' : World} {A : Option Addr} {bs : List Bd} (h : RowB S w A bs) (hb : Below w.heap.size w w') : RowB S w' A bs :=
  ⟨h.1, fun i hi => by
    obtain ⟨ad, B, d, h1, c0, c1, c2, c3, h2, h3⟩ := h.2 i hi
    exact ⟨ad, B, d, h1, cell_mov c0 hb, cell_mov c1 hb, cell_mov c2 hb, cell_mov c3 hb, h2, h3.mov hb⟩⟩
theorem RowB.step {S S' : Nat → Prop} {w w' : World} {A : Option Addr} {bs : List Bd} (h : RowB S w A bs) (hS : ∀ k, k < w.heap.size → ¬ S k → ¬ S' k) (hb : Below w.heap.size w w') : RowB S' w' A bs :=
  ⟨h.1, fun i hi => by
    obtain ⟨ad, B, d, h1, c0, c1, c2, c3, h2, h3⟩ := h.2 i hi
    exact ⟨ad, B, d, h1, cell_mov c0 hb, cell_mov c1 hb, cell_mov c2 hb, cell_mov c3 hb, h2, h3.step hS (fun k hk _ => hb.block k hk)⟩⟩
theorem Row.toB {S : Nat → Prop} {w : World} {A : Option Addr} {bs : List Bd} (h : Row eB 4 S w A bs) : RowB S w A bs :=
  ⟨h.1, fun i hi => by
    obtain ⟨⟨b, o, sp⟩, cs, h1, h2, h3, h4, h5, B, d, h6, h7, h8⟩ := h.2 i hi
    dsimp only at h2
    subst h2
    rw [h6] at h5
    refine ⟨⟨b, o, none⟩, B, d, h1, ?_, ?_, ?_, ?_, h7, h8⟩
    · rw [add_plain]; exact h5 0 _ rfl
    · rw [add_plain]; show w.cell? ⟨b, o + i * 4 + 1, none⟩ = _; rw [Nat.add_assoc]; exact h5 1 _ rfl
    · rw [add_plain]; show w.cell? ⟨b, o + i * 4 + 2, none⟩ = _; rw [Nat.add_assoc]; exact h5 2 _ rfl
    · rw [add_plain]; show w.cell? ⟨b, o + i * 4 + 3, none⟩ = _; rw [Nat.add_assoc]; exact h5 3 _ rfl⟩

/-- An own row of binds: block g holds the cells of each; the terms lie elsewhere. -/
def OB (w : World) (g : Nat) (bs : List Bd) : Prop :=
  bs.length ≤ lim ∧ ∃ cur : Array Value, Blk w g cur 78 ∧ cur.size = bs.length * 4 ∧ ∀ i, (hi : i < bs.length) → ∃ (B : Option Addr) (d : Nat), cur[i * 4]? = some (.bool bs[i].is) ∧ cur[i * 4 + 1]? = some (.int .i64 bs[i].t.k) ∧ cur[i * 4 + 2]? = some (.int .i64 bs[i].t.h) ∧ cur[i * 4 + 3]? = some (.slice B bs[i].t.a.length d) ∧ bs[i].t.a.length ≤ d ∧ Reads (fun k => k = g) w B bs[i].t.a
theorem OB.lt {w : World} {g : Nat} {bs : List Bd} (h : OB w g bs) : g < w.heap.size := by obtain ⟨_, cur, h1, _⟩ := h; exact h1.lt
theorem OB.mov {w w' : World} {g : Nat} {bs : List Bd} (h : OB w g bs) (hb : Below w.heap.size w w') : OB w' g bs := by
  obtain ⟨h0, cur, h1, h2, h3⟩ := h
  exact ⟨h0, cur, h1.mov hb, h2, fun i hi => by
    obtain ⟨B, d, c0, c1, c2, c3, h4, h5⟩ := h3 i hi
    exact ⟨B, d, c0, c1, c2, c3, h4, h5.mov hb⟩⟩
theorem OB.row {w : World} {g : Nat} {bs : List Bd} (h : OB w g bs) : RowB (fun k => k = g) w (some ⟨g, 0, none⟩) bs := by
  obtain ⟨h0, cur, h1, h2, h3⟩ := h
  refine ⟨h0, fun i hi => ?_⟩
  obtain ⟨B, d, c0, c1, c2, c3, h4, h5⟩ := h3 i hi
  refine ⟨⟨g, 0, none⟩, B, d, rfl, ?_, ?_, ?_, ?_, h4, h5⟩
  · rw [add_plain, Nat.zero_add]; exact (h1.cell _).trans c0
  · rw [add_plain, Nat.zero_add]; exact (h1.cell _).trans c1
  · rw [add_plain, Nat.zero_add]; exact (h1.cell _).trans c2
  · rw [add_plain, Nat.zero_add]; exact (h1.cell _).trans c3
/-- One bind is put into its place. -/
theorem OB.put {w : World} {g : Nat} {bs : List Bd} (h : OB w g bs) {i : Nat} (hi : i < bs.length) (x : Bd) (B : Option Addr) (d : Nat) (hd : x.t.a.length ≤ d) (hr : Reads (fun k => k = g) w B x.t.a) :
    OB ((((w.setCell ⟨g, i * 4, none⟩ (.bool x.is)).setCell ⟨g, i * 4 + 1, none⟩ (.int .i64 x.t.k)).setCell ⟨g, i * 4 + 2, none⟩ (.int .i64 x.t.h)).setCell ⟨g, i * 4 + 3, none⟩ (.slice B x.t.a.length d)) g (bs.set i x) := by
  obtain ⟨h0, cur, h1, h2, h3⟩ := h
  refine ⟨by simpa using h0, _, (((h1.set _ _).set _ _).set _ _).set _ _, by simp [h2], fun j hj => ?_⟩
  have hj' : j < bs.length := by simpa using hj
  have mv : ∀ {A : Option Addr} {l : List Tm}, Reads (fun k => k = g) w A l → Reads (fun k => k = g) ((((w.setCell ⟨g, i * 4, none⟩ (.bool x.is)).setCell ⟨g, i * 4 + 1, none⟩ (.int .i64 x.t.k)).setCell ⟨g, i * 4 + 2, none⟩ (.int .i64 x.t.h)).setCell ⟨g, i * 4 + 3, none⟩ (.slice B x.t.a.length d)) A l := fun q =>
    (((q.set (p := ⟨g, i * 4, none⟩) rfl _).set (p := ⟨g, i * 4 + 1, none⟩) rfl _).set (p := ⟨g, i * 4 + 2, none⟩) rfl _).set (p := ⟨g, i * 4 + 3, none⟩) rfl _
  by_cases hij : i = j
  · subst hij
    refine ⟨B, d, ?_, ?_, ?_, ?_, by simpa using hd, by simpa using mv hr⟩
    all_goals
      simp only [List.getElem_set_self]
      simp [Array.getElem?_setIfInBounds]
      omega
  · obtain ⟨B', d', c0, c1, c2, c3, h4, h5⟩ := h3 j hj'
    have e : (bs.set i x)[j] = bs[j] := List.getElem_set_ne hij _
    rw [e]
    refine ⟨B', d', ?_, ?_, ?_, ?_, h4, mv h5⟩
    · rw [← c0]; rw [Array.getElem?_setIfInBounds_ne (by omega), Array.getElem?_setIfInBounds_ne (by omega), Array.getElem?_setIfInBounds_ne (by omega), Array.getElem?_setIfInBounds_ne (by omega)]
    · rw [← c1]; rw [Array.getElem?_setIfInBounds_ne (by omega), Array.getElem?_setIfInBounds_ne (by omega), Array.getElem?_setIfInBounds_ne (by omega), Array.getElem?_setIfInBounds_ne (by omega)]
    · rw [← c2]; rw [Array.getElem?_setIfInBounds_ne (by omega), Array.getElem?_setIfInBounds_ne (by omega), Array.getElem?_setIfInBounds_ne (by omega), Array.getElem?_setIfInBounds_ne (by omega)]
    · rw [← c3]; rw [Array.getElem?_setIfInBounds_ne (by omega), Array.getElem?_setIfInBounds_ne (by omega), Array.getElem?_setIfInBounds_ne (by omega), Array.getElem?_setIfInBounds_ne (by omega)]

/-- All metas, as told. -/
def toldT (x : Bd) : Tm := if x.is then x.t else ⟨0, 0, []⟩
def toldV (bs : List Bd) : List Tm := bs.map toldT
theorem toldV_len (bs : List Bd) : (toldV bs).length = bs.length := by simp [toldV]
structure ToldRel (S : Nat → Prop) (bs : List Bd) (w : World) (i : Nat) (wr : World) : Prop where
  le : i ≤ bs.length
  below : Below w.heap.size w wr
  out : ∃ cur : Array Value, Blk wr w.heap.size cur 25 ∧ cur.size = bs.length * 3 ∧ ∀ j, (hj : j < bs.length) → ∃ (B : Option Addr) (d : Nat) (u : Tm), u = (if j < i then toldT bs[j] else ⟨0, 0, []⟩) ∧ cur[j * 3]? = some (.int .i64 u.k) ∧ cur[j * 3 + 1]? = some (.int .i64 u.h) ∧ cur[j * 3 + 2]? = some (.slice B u.a.length d) ∧ u.a.length ≤ d ∧ Reads (fun k => S k ∨ k = w.heap.size) wr B u.a
theorem ToldRel.start {S : Nat → Prop} {bs : List Bd} {w : World} : ToldRel S bs w 0 (w.alloc (.cells (madeCells #[.int .i64 0, .int .i64 0, .slice none 0 0] (bs.length * 3)) 25)) := {
  le := Nat.zero_le _
  below := bl_alloc (Below.refl _ _) _
  out := ⟨_, Blk.nw _ _ _ _ rfl, by rw [size_madeCells], fun j hj => ⟨none, 0, ⟨0, 0, []⟩, by simp, by
    have h1 : j * 3 < bs.length * 3 := by omega
    have h2 : j * 3 % 3 = 0 := by omega
    simp [madeCells, h1, h2], by
    have h1 : j * 3 + 1 < bs.length * 3 := by omega
    have h2 : (j * 3 + 1) % 3 = 1 := by omega
    simp [madeCells, h1, h2], by
    have h1 : j * 3 + 2 < bs.length * 3 := by omega
    have h2 : (j * 3 + 2) % 3 = 2 := by omega
    simp [madeCells, h1, h2], Nat.le_refl _, .nil _⟩⟩ }
theorem told_make (n : Nat) (hn : n ≤ lim) (w : World) : (Instr.makeSlice 23 (.int .i64 n) (.int .i64 n)).run Tryz.prog w = .ok (.slice (some ⟨w.heap.size, 0, none⟩) n n) (w.alloc (.cells (madeCells #[.int .i64 0, .int .i64 0, .slice none 0 0] (n * 3)) 25)) := by
  obtain ⟨i, hi, hz, hs, hb⟩ := info_parts infoTm
  unfold lim at hn
  have q := run_make (P := Tryz.prog) (w := w) 23 25 i _ Tryz.underlying23 hi hz .i64 .i64 (n : Int) (n : Int) (by omega) (Int.le_refl _) (by rw [hb]; omega) (by omega)
  rw [hs] at q
  simp only [Int.toNat_natCast] at q
  exact q
theorem ToldRel.reads {S : Nat → Prop} {bs : List Bd} {w wr : World} (hS : ∀ k, S k → k < w.heap.size) (hl : bs.length ≤ lim) (h : ToldRel S bs w bs.length wr) : Reads S wr (some ⟨w.heap.size, 0, none⟩) (toldV bs) := by
  obtain ⟨cur, h1, h2, h3⟩ := h.out
  have h4 : ∀ j, (hj : j < bs.length) → ∃ (B : Option Addr) (d : Nat), cur[j * 3]? = some (.int .i64 (toldT bs[j]).k) ∧ cur[j * 3 + 1]? = some (.int .i64 (toldT bs[j]).h) ∧ cur[j * 3 + 2]? = some (.slice B (toldT bs[j]).a.length d) ∧ (toldT bs[j]).a.length ≤ d ∧ Reads S wr B (toldT bs[j]).a := fun j hj => by
    obtain ⟨B, d, u, hu, c0, c1, c2, hd, hr⟩ := h3 j hj
    rw [if_pos hj] at hu
    subst hu
    exact ⟨B, d, c0, c1, c2, hd, hr.less (fun k q => .inl q)⟩
  refine .row w.heap.size 0 _ (fun j => if hj : j < bs.length then (h4 j hj).choose else none) (fun j => if hj : j < bs.length then (h4 j hj).choose_spec.choose else 0) (fun q => by have := hS _ q; omega) (by rw [toldV_len]; exact hl) (fun j hj => ?_) (fun j hj => ?_)
  · have hj' : j < bs.length := by rw [toldV_len] at hj; exact hj
    have e : (toldV bs)[j] = toldT bs[j] := by simp [toldV]
    obtain ⟨c0, c1, c2, hd, hr⟩ := (h4 j hj').choose_spec.choose_spec
    rw [e]
    simp only [hj', dif_pos, Nat.zero_add]
    rw [Nat.mul_comm 3 j]
    exact ⟨(h1.cell _).trans c0, (h1.cell _).trans c1, (h1.cell _).trans c2, hd⟩
  · have hj' : j < bs.length := by rw [toldV_len] at hj; exact hj
    have e : (toldV bs)[j] = toldT bs[j] := by simp [toldV]
    obtain ⟨c0, c1, c2, hd, hr⟩ := (h4 j hj').choose_spec.choose_spec
    rw [e]
    simp only [hj', dif_pos]
    exact hr
theorem ToldRel.mov {S : Nat → Prop} {bs : List Bd} {w wr w' : World} {i : Nat} (h : ToldRel S bs w i wr) (hb : Below wr.heap.size wr w') : ToldRel S bs w i w' := {
  le := h.le
  below := bl_then h.below hb
  out := by
    obtain ⟨cur, h1, h2, h3⟩ := h.out
    refine ⟨cur, h1.mov hb, h2, fun j hj => ?_⟩
    obtain ⟨B, d, u, hu, c0, c1, c2, hd, hr⟩ := h3 j hj
    exact ⟨B, d, u, hu, c0, c1, c2, hd, hr.mov hb⟩ }
theorem ToldRel.skip {S : Nat → Prop} {bs : List Bd} {w wr w' : World} {i : Nat} (h : ToldRel S bs w i wr) (hi : i < bs.length) (hb : Below wr.heap.size wr w') (hn : bs[i].is = false) : ToldRel S bs w (i + 1) w' := {
  le := hi
  below := bl_then h.below hb
  out := by
    obtain ⟨cur, h1, h2, h3⟩ := h.out
    refine ⟨cur, h1.mov hb, h2, fun j hj => ?_⟩
    obtain ⟨B, d, u, hu, c0, c1, c2, hd, hr⟩ := h3 j hj
    refine ⟨B, d, u, ?_, c0, c1, c2, hd, hr.mov hb⟩
    rw [hu]
    by_cases hji : j = i
    · subst hji
      rw [if_neg (by omega), if_pos (by omega)]
      simp [toldT, hn]
    · by_cases h5 : j < i
      · rw [if_pos h5, if_pos (by omega)]
      · rw [if_neg h5, if_neg (by omega)] }
theorem ToldRel.put {S : Nat → Prop} {bs : List Bd} {w wr w' : World} {i : Nat} (h : ToldRel S bs w i wr) (hi : i < bs.length) (hb : Below wr.heap.size wr w') (hn : bs[i].is = true) (B : Option Addr) (d : Nat) (hd : bs[i].t.a.length ≤ d) (hr : Reads (fun k => S k ∨ k = w.heap.size) w' B bs[i].t.a) :
    ToldRel S bs w (i + 1) (((w'.setCell ⟨w.heap.size, i * 3, none⟩ (.int .i64 bs[i].t.k)).setCell ⟨w.heap.size, i * 3 + 1, none⟩ (.int .i64 bs[i].t.h)).setCell ⟨w.heap.size, i * 3 + 2, none⟩ (.slice B bs[i].t.a.length d)) := {
  le := hi
  below := bl_set (bl_set (bl_set (bl_then h.below hb) (p := ⟨w.heap.size, i * 3, none⟩) (Nat.le_refl _) _) (p := ⟨w.heap.size, i * 3 + 1, none⟩) (Nat.le_refl _) _) (p := ⟨w.heap.size, i * 3 + 2, none⟩) (Nat.le_refl _) _
  out := by
    obtain ⟨cur, h1, h2, h3⟩ := h.out
    have mv : ∀ {A : Option Addr} {l : List Tm}, Reads (fun k => S k ∨ k = w.heap.size) w' A l → Reads (fun k => S k ∨ k = w.heap.size) (((w'.setCell ⟨w.heap.size, i * 3, none⟩ (.int .i64 bs[i].t.k)).setCell ⟨w.heap.size, i * 3 + 1, none⟩ (.int .i64 bs[i].t.h)).setCell ⟨w.heap.size, i * 3 + 2, none⟩ (.slice B bs[i].t.a.length d)) A l := fun q =>
      ((q.set (p := ⟨w.heap.size, i * 3, none⟩) (.inr rfl) _).set (p := ⟨w.heap.size, i * 3 + 1, none⟩) (.inr rfl) _).set (p := ⟨w.heap.size, i * 3 + 2, none⟩) (.inr rfl) _
    refine ⟨_, (((h1.mov hb).set _ _).set _ _).set _ _, by simp [h2], fun j hj => ?_⟩
    by_cases hji : i = j
    · subst hji
      refine ⟨B, d, bs[i].t, by rw [if_pos (by omega)]; simp [toldT, hn], ?_, ?_, ?_, hd, mv hr⟩
      all_goals
        simp [Array.getElem?_setIfInBounds]
        omega
    · obtain ⟨B', d', u, hu, c0, c1, c2, hd', hr'⟩ := h3 j hj
      refine ⟨B', d', u, ?_, ?_, ?_, ?_, hd', mv (hr'.mov hb)⟩
      · rw [hu]
        by_cases h5 : j < i
        · rw [if_pos h5, if_pos (by omega)]
        · rw [if_neg h5, if_neg (by omega)]
      · rw [← c0]; rw [Array.getElem?_setIfInBounds_ne (by omega), Array.getElem?_setIfInBounds_ne (by omega), Array.getElem?_setIfInBounds_ne (by omega)]
      · rw [← c1]; rw [Array.getElem?_setIfInBounds_ne (by omega), Array.getElem?_setIfInBounds_ne (by omega), Array.getElem?_setIfInBounds_ne (by omega)]
      · rw [← c2]; rw [Array.getElem?_setIfInBounds_ne (by omega), Array.getElem?_setIfInBounds_ne (by omega), Array.getElem?_setIfInBounds_ne (by omega)] }

set_option maxHeartbeats 4000000 in
theorem told_calls (S : Nat → Prop) (bs : List Bd) (A : Option Addr) (c : Nat) (w : World) (hS : ∀ k, S k → k < w.heap.size) (hr : RowB S w A bs) :
    Calls Tryz.prog 42 #[.slice A bs.length c] w fun e w' => Below w.heap.size w w' ∧ ∃ B d, e = .returned (.slice B bs.length d) ∧ bs.length ≤ d ∧ Reads S w' B (toldV bs) := by
  have hl := hr.1
  have hl' := hl
  unfold lim at hl'
  have hmk := told_make bs.length hl
  have HSS := Lib.hid hS
  have HL := Lib.hid hl
  have hrel0 : ToldRel S bs w 0 _ := ToldRel.start
  have HR0 := Lib.hid hrel0
  clear hS hl hrel0
  go_enter Tryz.func42, Tryz.ntmps42
  go_wp2_with fail
  clear hmk
  go_loopw [11] (fun j wr => ∃ i : Nat, j = .int .i64 i ∧ ToldRel S bs w i wr) (fun j _ => bs.length - (intOf j).toNat)
  case atStart => exact ⟨0, rfl, HR0.out⟩
  case round =>
    clear HR0
    obtain ⟨i, rfl, hrel⟩ := hrel
    by_cases hlt : i < bs.length
    · obtain ⟨ad, B, d, rfl, c0, c1, c2, c3, hd, hsub⟩ := (hr.step (S' := fun k => S k ∨ k = w.heap.size) (fun k hk hn q => q.elim hn (fun q => by omega)) hrel.below).2 i hlt
      have HREL := Lib.hid hrel
      obtain ⟨cur, g1, g2, g3⟩ := hrel.out
      have gl := g1.lt
      have k0 := g1.cell (i * 3)
      have k1 := g1.cell (i * 3 + 1)
      have k2 := g1.cell (i * 3 + 2)
      obtain ⟨B9, d9, u9, -, z0, z1, z2, -, -⟩ := g3 i hlt
      rw [z0] at k0
      rw [z1] at k1
      rw [z2] at k2
      have f0 := g1.frozen (i * 3)
      have f1 := g1.frozen (i * 3 + 1)
      have f2 := g1.frozen (i * 3 + 2)
      have hgb := hrel.below.size
      obtain ⟨bi, hbi⟩ : ∃ b, bs[i].is = b := ⟨_, rfl⟩
      rw [hbi] at c0
      have HBI := Lib.hid hbi
      have HSUB := Lib.hid hsub
      clear hrel g3 z0 z1 z2 hbi hsub g1
      cases bi
      · go_wp2_with fail
        exact ⟨⟨i + 1, by go_num, HREL.out.skip hlt (bl_alloc (Below.refl _ _) _) HBI.out⟩, by simp [intOf]; omega⟩
      · go_wp2_with fail
        exact ⟨⟨i + 1, by go_num, (HREL.out.put hlt (Below.refl _ _) HBI.out B d hd HSUB.out).mov (bl_alloc (Below.refl _ _) _)⟩, by simp [intOf]; omega⟩
    · obtain rfl : i = bs.length := by have := hrel.le; omega
      have HREL := Lib.hid hrel
      clear hrel
      go_wp2_with fail
      go_ret
      exact ⟨HREL.out.below, _, _, rfl, Nat.le_refl _, HREL.out.reads HSS.out HL.out⟩
end Go.Proofs.YtbmmdfehhhgkcaaGreat
