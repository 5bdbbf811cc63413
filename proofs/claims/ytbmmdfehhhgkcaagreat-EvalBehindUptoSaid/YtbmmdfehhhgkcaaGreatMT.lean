/- The builtin copy of a row of structs into a row of one's own; the row of binds that Match begins with. The contract of match.Match. -/
import Derived.Test.YtbmmdfehhhgkcaaGreatRA
import Derived.Test.YtbmmdfehhhgkcaaGreatBD
import Derived.Laws.CopyRow
import Derived.Laws.CopyOwn
import Derived.Test.YtbmmdfehhhgkcaaGreatMG
namespace Go.Proofs.YtbmmdfehhhgkcaaGreat
open Go.RowKit Go.Shelf
set_option linter.unusedVariables false
set_option linter.unusedSimpArgs false

theorem Row.flat {α : Type} {E : (Nat → Prop) → World → List Value → α → Prop} (hone : ∀ {S w cs x}, E S w cs x → ∀ u ∈ cs, u.oneCell' = true) {sz : Nat} (hz : 0 < sz) {S : Nat → Prop} {W : World} {a : Addr} {xs : List α} (hr : Row E sz S W (some a) xs) :
    ∃ cs : List Value, cs.length = xs.length * sz ∧ (∀ k u, cs[k]? = some u → W.cell? (a.add k) = some u) ∧ (∀ u ∈ cs, u.oneCell' = true) ∧ ∀ i, (hi : i < xs.length) → ∃ c, c.length = sz ∧ E S W c xs[i] ∧ ∀ j, j < sz → cs[i * sz + j]? = c[j]? := by
  have each : ∀ i, i < xs.length → ∃ cs : List Value, ∀ (hi : i < xs.length), cs.length = sz ∧ (∀ j u, cs[j]? = some u → W.cell? (a.add (i * sz + j)) = some u) ∧ E S W cs xs[i] := by
    intro i hi
    obtain ⟨ad, cs, h1, h2, h3, h4, h5, h6⟩ := hr.2 i hi
    refine ⟨cs, fun _ => ⟨h4, fun j u hu => ?_, h6⟩⟩
    obtain rfl := Option.some.inj h1
    obtain ⟨b, o, sp⟩ := a
    dsimp only at h2
    subst h2
    rw [add_plain]
    exact h5 j u hu
  obtain ⟨css, hcl, hcs⟩ := build xs.length each
  have hlen : ∀ c ∈ css, c.length = sz := fun c hc => by
    obtain ⟨i, hi, rfl⟩ := List.getElem_of_mem hc
    exact (hcs i hi (by omega)).1
  refine ⟨css.flatten, by rw [flat_len css hlen, hcl], fun k u hu => ?_, fun u hu => ?_, fun i hi => ?_⟩
  · rw [flat_get hz css hlen] at hu
    obtain ⟨cs, hc1, hc2⟩ := Option.bind_eq_some_iff.1 hu
    obtain ⟨hlt, rfl⟩ := List.getElem?_eq_some_iff.1 hc1
    have := (hcs _ hlt (by omega)).2.1 _ u hc2
    rw [Nat.div_add_mod' k sz] at this
    exact this
  · obtain ⟨c, hc, huc⟩ := List.mem_flatten.1 hu
    obtain ⟨i, hi, rfl⟩ := List.getElem_of_mem hc
    exact hone (hcs i hi (by omega)).2.2 u huc
  · have hic : i < css.length := by omega
    obtain ⟨q1, q2, q3⟩ := hcs i hic hi
    exact ⟨css[i], q1, q3, fun j hj => flat_at hz hlen hic hj⟩
theorem one_B {S : Nat → Prop} {w : World} {cs : List Value} {x : Bd} (h : eB S w cs x) : ∀ u ∈ cs, u.oneCell' = true := by
  obtain ⟨B, d, rfl, -, -⟩ := h
  intro u hu
  simp at hu
  rcases hu with rfl | rfl | rfl | rfl <;> rfl
theorem infoBd : (Tryz.prog.info? 78).map (fun i => (i.zero, i.size, i.bytes)) = some (some (.agg #[.bool false, .int .i64 0, .int .i64 0, .slice none 0 0]), 4, 48) := by kernel_rfl
/-- copy of a row of binds into a row as long. -/
theorem run_copy_binds (W : World) (ty : TypeId) (g n dCap sCap : Nat) (a : Addr) (cur : Array Value) (cs : List Value) (hg : Blk W g cur 78) (hsz : cur.size = n * 4) (hn : cs.length = n * 4)
    (hsrc : ∀ j v, cs[j]? = some v → W.cell? (a.add j) = some v) (h1 : ∀ v ∈ cs, v.oneCell' = true) :
    (Builtin.copy_ #[43, 43] ty #[.slice (some ⟨g, 0, none⟩) n dCap, .slice (some a) n sCap]).run Tryz.prog W = .ok (goInt n) (W.setRow g cs.toArray) := by
  obtain ⟨i, hi, -, hs, -⟩ := info_parts infoBd
  have hl := run_loadCells_list (P := Tryz.prog) W a cs hsrc
  have hst := run_storeCells_at Tryz.prog g 0 78 cs 0 cur W hg (by omega) h1
  have e1 : (cur.toList.take (0 + 0) ++ cs ++ cur.toList.drop (0 + 0 + cs.length)).toArray = cs.toArray := by
    have : cur.toList.drop (0 + 0 + cs.length) = [] := List.drop_eq_nil_of_le (by simp [hsz, hn])
    rw [this]
    simp
  rw [e1] at hst
  have hmin : Nat.min n n = n := Nat.min_self n
  rw [hn] at hl
  simp [Builtin.copy_, run_underlying Tryz.underlying43, Builtin.lenOf, Builtin.firstCells, sizeOf, typeInfo, hi, hs, hmin, hl, hst]
theorem wpList_copy_binds {ops : Array Oper} {rest : List Oper} {o : Oper} {a : Act} {Q : Exit → Act → World → Prop} (hgd : o.guard = none) (x y : Operand)
    (ho : o.op = .call { callee := .builtin .copy, args := #[x, y], argTypes := #[43, 43] }) {W : World} (g n dCap sCap : Nat) (ad : Addr) (cur : Array Value) (cs : List Value) (hx : a.eval x = .slice (some ⟨g, 0, none⟩) n dCap) (hy : a.eval y = .slice (some ad) n sCap)
    (hg : Blk W g cur 78) (hsz : cur.size = n * 4) (hn : cs.length = n * 4) (hsrc : ∀ j v, cs[j]? = some v → W.cell? (ad.add j) = some v) (h1 : ∀ v ∈ cs, v.oneCell' = true)
    (h : ∀ W1, W.grownBy W1 (some g) → Blk W1 g cs.toArray 78 → wpList Tryz.prog ops Q rest (a.put o.dst (goInt n)) W1) : wpList Tryz.prog ops Q (o :: rest) a W := by
  have hrun := run_copy_binds W o.type g n dCap sCap ad cur cs hg hsz hn hsrc h1
  refine wpList_plain hgd fun K hK => ?_
  unfold Oper.wp execOp
  simp only [ho, resolve, invoke, builtin, Sem.run_bind, Sem.run_pure, Result.andThen_ok, List.map_toArray, List.map_cons, List.map_nil, hx, hy, hrun]
  exact hK _ _ (h _ ⟨rfl, rfl, rfl, by simp [World.setRow], fun k hk hne => setRow_other W g k _ (fun e => hne (by rw [e]))⟩ (setRow_heap W g cur _ 78 (0, 0) hg))
theorem wpList_copy_none {ops : Array Oper} {rest : List Oper} {o : Oper} {a : Act} {Q : Exit → Act → World → Prop} (hgd : o.guard = none) (x y : Operand)
    (ho : o.op = .call { callee := .builtin .copy, args := #[x, y], argTypes := #[43, 43] }) {W : World} (ad : Addr) (n m dCap sCap : Nat) (hx : a.eval x = .slice (some ad) n dCap) (hy : a.eval y = .slice none m sCap)
    (h : ∀ W1, (∀ r, W.grownBy W1 r) → wpList Tryz.prog ops Q rest (a.put o.dst (goInt (Nat.min m n))) W1) : wpList Tryz.prog ops Q (o :: rest) a W := by
  have hi := infoBd
  have hrun : (Builtin.copy_ #[43, 43] o.type #[.slice (some ad) n dCap, .slice none m sCap]).run Tryz.prog W = .ok (goInt (Nat.min m n)) W := by
    cases hq : Tryz.prog.info? 78 with
    | none => rw [hq] at hi; cases hi
    | some i => simp [Builtin.copy_, run_underlying Tryz.underlying43, Builtin.lenOf, Builtin.firstCells, sizeOf, typeInfo, hq, storeCells]
  refine wpList_plain hgd fun K hK => ?_
  unfold Oper.wp execOp
  simp only [ho, resolve, invoke, builtin, Sem.run_bind, Sem.run_pure, Result.andThen_ok, List.map_toArray, List.map_cons, List.map_nil, hx, hy, hrun]
  exact hK _ _ (h _ (fun r => grown_but (bl_grownBy (Below.refl _ _)) r))
/-- The row that Match begins with. -/
theorem OB.start {w W : World} {g : Nat} {bs : List Bd} {cs : List Value} (hl : bs.length ≤ lim) (hg : w.heap.size ≤ g) (hb : Below w.heap.size w W) (hB : Blk W g cs.toArray 78) (hn : cs.length = bs.length * 4)
    (h : ∀ i, (hi : i < bs.length) → ∃ c, c.length = 4 ∧ eB (fun _ => False) w c bs[i] ∧ ∀ j, j < 4 → cs[i * 4 + j]? = c[j]?) : OB W g bs := by
  refine ⟨hl, cs.toArray, hB, by simp [hn], fun i hi => ?_⟩
  obtain ⟨c, hc, ⟨B, d, rfl, hd, hr⟩, hj⟩ := h i hi
  refine ⟨B, d, ?_, ?_, ?_, ?_, hd, hr.step (fun k hk _ q => by omega) (fun k hk _ => hb.block k hk)⟩
  · rw [List.getElem?_toArray]; exact hj 0 (by omega)
  · rw [List.getElem?_toArray]; exact hj 1 (by omega)
  · rw [List.getElem?_toArray]; exact hj 2 (by omega)
  · rw [List.getElem?_toArray]; exact hj 3 (by omega)
theorem OB.empty {W : World} {g : Nat} {cur : Array Value} (hB : Blk W g cur 78) (h0 : cur.size = 0) : OB W g [] := ⟨Nat.zero_le _, cur, hB, by simp [h0], fun i hi => absurd hi (Nat.not_lt_zero _)⟩
/-- A bind's term is laid anew. -/
theorem OB.own {w : World} {g : Nat} {bs : List Bd} (h : OB w g bs) {i : Nat} (hi : i < bs.length) (B : Option Addr) (d : Nat) (hd : bs[i].t.a.length ≤ d) (hr : Reads (fun k => k = g) w B bs[i].t.a) :
    OB (((w.setCell ⟨g, i * 4 + 1, none⟩ (.int .i64 bs[i].t.k)).setCell ⟨g, i * 4 + 2, none⟩ (.int .i64 bs[i].t.h)).setCell ⟨g, i * 4 + 3, none⟩ (.slice B bs[i].t.a.length d)) g bs := by
  obtain ⟨h0, cur, h1, h2, h3⟩ := h
  refine ⟨h0, _, ((h1.set _ _).set _ _).set _ _, by simp [h2], fun j hj => ?_⟩
  have mv : ∀ {A : Option Addr} {l : List Tm}, Reads (fun k => k = g) w A l → Reads (fun k => k = g) (((w.setCell ⟨g, i * 4 + 1, none⟩ (.int .i64 bs[i].t.k)).setCell ⟨g, i * 4 + 2, none⟩ (.int .i64 bs[i].t.h)).setCell ⟨g, i * 4 + 3, none⟩ (.slice B bs[i].t.a.length d)) A l := fun q =>
    ((q.set (p := ⟨g, i * 4 + 1, none⟩) rfl _).set (p := ⟨g, i * 4 + 2, none⟩) rfl _).set (p := ⟨g, i * 4 + 3, none⟩) rfl _
  obtain ⟨B', d', c0, c1, c2, c3, h4, h5⟩ := h3 j hj
  by_cases hij : i = j
  · subst hij
    refine ⟨B, d, ?_, ?_, ?_, ?_, hd, mv hr⟩
    · rw [← c0]; rw [Array.getElem?_setIfInBounds_ne (by omega), Array.getElem?_setIfInBounds_ne (by omega), Array.getElem?_setIfInBounds_ne (by omega)]
    all_goals
      simp [Array.getElem?_setIfInBounds]
      omega
  · refine ⟨B', d', ?_, ?_, ?_, ?_, h4, mv h5⟩
    · rw [← c0]; rw [Array.getElem?_setIfInBounds_ne (by omega), Array.getElem?_setIfInBounds_ne (by omega), Array.getElem?_setIfInBounds_ne (by omega)]
    · rw [← c1]; rw [Array.getElem?_setIfInBounds_ne (by omega), Array.getElem?_setIfInBounds_ne (by omega), Array.getElem?_setIfInBounds_ne (by omega)]
    · rw [← c2]; rw [Array.getElem?_setIfInBounds_ne (by omega), Array.getElem?_setIfInBounds_ne (by omega), Array.getElem?_setIfInBounds_ne (by omega)]
    · rw [← c3]; rw [Array.getElem?_setIfInBounds_ne (by omega), Array.getElem?_setIfInBounds_ne (by omega), Array.getElem?_setIfInBounds_ne (by omega)]
theorem bd_make (n : Nat) (hn : n ≤ 1048576) (w : World) : (Instr.makeSlice 43 (.int .i64 n) (.int .i64 n)).run Tryz.prog w = .ok (.slice (some ⟨w.heap.size, 0, none⟩) n n) (w.alloc (.cells (madeCells #[.bool false, .int .i64 0, .int .i64 0, .slice none 0 0] (n * 4)) 78)) := by
  obtain ⟨i, hi, hz, hs, hb⟩ := info_parts infoBd
  have q := run_make (P := Tryz.prog) (w := w) 43 78 i _ Tryz.underlying43 hi hz .i64 .i64 (n : Int) (n : Int) (by omega) (Int.le_refl _) (by rw [hb]; omega) (by omega)
  rw [hs] at q
  simp only [Int.toNat_natCast] at q
  exact q
end Go.Proofs.YtbmmdfehhhgkcaaGreat
namespace Go.Proofs.YtbmmdfehhhgkcaaGreat
open Go.RowKit Go.Shelf
set_option linter.unusedVariables false
set_option linter.unusedSimpArgs false

/-- Match. -/
noncomputable def MatchV (params rigid : List Bool) (p t : Tm) (n : Int) (bs : List Bd) : Except Int (List Bd) :=
  if (mayB p && (mayB t && (!decide (n < 0) && (!decide (1000 < n) && (!decide (200 < (bs.length : Int)) && (decide (bs.length = params.length) && !(bs.any oddBd))))))) = true then nodeF (metaF params rigid) p t n bs else .error 1
/-- What comes back: a row of binds and no error, or nil and one. -/
def RetM (r : Except Int (List Bd)) (w : World) (e : Ending) (w' : World) : Prop :=
  Below w.heap.size w w' ∧ ((∃ x, r = .error x ∧ x ≠ 0 ∧ e = .returned (.tuple #[.slice none 0 0, .int .i64 x])) ∨
    ∃ bs g c, r = .ok bs ∧ e = .returned (.tuple #[.slice (some ⟨g, 0, none⟩) bs.length c, .int .i64 0]) ∧ bs.length ≤ c ∧ w.heap.size ≤ g ∧ RowB (fun _ => False) w' (some ⟨g, 0, none⟩) bs)
/-- The same, where the row and what it leads to keep clear of S. -/
def RetMS (S : Nat → Prop) (r : Except Int (List Bd)) (w : World) (e : Ending) (w' : World) : Prop :=
  Below w.heap.size w w' ∧ ((∃ x, r = .error x ∧ x ≠ 0 ∧ e = .returned (.tuple #[.slice none 0 0, .int .i64 x])) ∨
    ∃ bs g c, r = .ok bs ∧ e = .returned (.tuple #[.slice (some ⟨g, 0, none⟩) bs.length c, .int .i64 0]) ∧ bs.length ≤ c ∧ w.heap.size ≤ g ∧ RowB S w' (some ⟨g, 0, none⟩) bs)
/-- The first so many have been laid anew. -/
def OBS (S : Nat → Prop) (g : Nat) (bs : List Bd) (i : Nat) (w : World) : Prop :=
  ∀ j, (hj : j < bs.length) → j < i → ∃ B d, w.cell? ⟨g, j * 4 + 3, none⟩ = some (.slice B bs[j].t.a.length d) ∧ Reads (fun k => S k ∨ k = g) w B bs[j].t.a
theorem OBS.mov {S : Nat → Prop} {g : Nat} {bs : List Bd} {i : Nat} {w w' : World} (h : OBS S g bs i w) (hb : Below w.heap.size w w') : OBS S g bs i w' := fun j hj hi => by
  obtain ⟨B, d, h1, h2⟩ := h j hj hi
  exact ⟨B, d, cell_mov h1 hb, h2.mov hb⟩
theorem OBS.own {S : Nat → Prop} {w : World} {g : Nat} {bs : List Bd} {i : Nat} (h : OBS S g bs i w) (hi : i < bs.length) {cur : Array Value} (hg : Blk w g cur 78) (hsz : cur.size = bs.length * 4) (B : Option Addr) (d : Nat) (hr : Reads (fun k => S k ∨ k = g) w B bs[i].t.a) :
    OBS S g bs (i + 1) (((w.setCell ⟨g, i * 4 + 1, none⟩ (.int .i64 bs[i].t.k)).setCell ⟨g, i * 4 + 2, none⟩ (.int .i64 bs[i].t.h)).setCell ⟨g, i * 4 + 3, none⟩ (.slice B bs[i].t.a.length d)) := by
  intro j hj hji
  have mv : ∀ {A : Option Addr} {l : List Tm}, Reads (fun k => S k ∨ k = g) w A l → Reads (fun k => S k ∨ k = g) (((w.setCell ⟨g, i * 4 + 1, none⟩ (.int .i64 bs[i].t.k)).setCell ⟨g, i * 4 + 2, none⟩ (.int .i64 bs[i].t.h)).setCell ⟨g, i * 4 + 3, none⟩ (.slice B bs[i].t.a.length d)) A l := fun q =>
    ((q.set (p := ⟨g, i * 4 + 1, none⟩) (.inr rfl) _).set (p := ⟨g, i * 4 + 2, none⟩) (.inr rfl) _).set (p := ⟨g, i * 4 + 3, none⟩) (.inr rfl) _
  have hb := ((hg.set (i * 4 + 1) (.int .i64 bs[i].t.k)).set (i * 4 + 2) (.int .i64 bs[i].t.h)).set (i * 4 + 3) (.slice B bs[i].t.a.length d)
  rw [hb.cell]
  by_cases hij : i = j
  · subst hij
    exact ⟨B, d, by simp [Array.getElem?_setIfInBounds, hsz]; omega, mv hr⟩
  · obtain ⟨B', d', h1, h2⟩ := h j hj (by omega)
    refine ⟨B', d', ?_, mv h2⟩
    rw [hg.cell] at h1
    rw [← h1, Array.getElem?_setIfInBounds_ne (by omega), Array.getElem?_setIfInBounds_ne (by omega), Array.getElem?_setIfInBounds_ne (by omega)]
/-- A row that begins at a block's head, in the other form. -/
theorem RowB.toRow {S : Nat → Prop} {w : World} {g : Nat} {bs : List Bd} (h : RowB S w (some ⟨g, 0, none⟩) bs) (hS : ¬ S g) : Row eB 4 S w (some ⟨g, 0, none⟩) bs :=
  ⟨h.1, fun i hi => by
    obtain ⟨ad, B, d, h1, c0, c1, c2, c3, h4, h5⟩ := h.2 i hi
    obtain rfl := Option.some.inj h1
    rw [add_plain, Nat.zero_add] at c0 c1 c2 c3
    refine ⟨_, [.bool bs[i].is, .int .i64 bs[i].t.k, .int .i64 bs[i].t.h, .slice B bs[i].t.a.length d], rfl, rfl, hS, rfl, fun j u hu => ?_, B, d, rfl, h4, h5⟩
    rw [Nat.zero_add]
    match j, hu with
    | 0, hu => cases hu; exact c0
    | 1, hu => cases hu; exact c1
    | 2, hu => cases hu; exact c2
    | 3, hu => cases hu; exact c3
    | j + 4, hu => simp at hu⟩
theorem below_of_grown {w W w' : World} {g : Nat} (h : Below w.heap.size w W) (k : W.grownBy w' (some g)) (hg : w.heap.size ≤ g) : Below w.heap.size w w' := bl_grown h k (fun q e => by cases e; exact hg)

theorem RowBo.apart {w W : World} {A : Option Addr} {bs : List Bool} {g : Nat} (h : RowBo w A bs) (hb : Below w.heap.size w W) (hg : w.heap.size ≤ g) : RowBs g W A bs :=
  ⟨h.1, fun i hi => by
    obtain ⟨ad, e, hc⟩ := h.2 i hi
    have hlt := World.block_lt_of_cell? w _ hc
    rw [add_block] at hlt
    exact ⟨ad, e, by omega, cell_mov hc hb⟩⟩

theorem MI.own {gm gb cb : Nat} {P : Option Addr} {cp : Nat} {R : Option Addr} {cr : Nat} {params rigid : List Bool} {N : Nat} {bs : List Bd} {w : World} (h : MI gm gb cb P cp R cr params rigid N bs w) {i : Nat} (hi : i < bs.length) (B : Option Addr) (d : Nat) (hd : bs[i].t.a.length ≤ d) (hr : Reads (fun k => k = gb) w B bs[i].t.a) :
    MI gm gb cb P cp R cr params rigid N bs (((w.setCell ⟨gb, i * 4 + 1, none⟩ (.int .i64 bs[i].t.k)).setCell ⟨gb, i * 4 + 2, none⟩ (.int .i64 bs[i].t.h)).setCell ⟨gb, i * 4 + 3, none⟩ (.slice B bs[i].t.a.length d)) := {
  len := h.len
  pl := h.pl
  ne := h.ne
  bm := ((h.bm.far (p := ⟨gb, i * 4 + 1, none⟩) h.ne _).far (p := ⟨gb, i * 4 + 2, none⟩) h.ne _).far (p := ⟨gb, i * 4 + 3, none⟩) h.ne _
  ob := h.ob.own hi B d hd hr
  hp := ((h.hp.set (p := ⟨gb, i * 4 + 1, none⟩) rfl _).set (p := ⟨gb, i * 4 + 2, none⟩) rfl _).set (p := ⟨gb, i * 4 + 3, none⟩) rfl _
  hr := ((h.hr.set (p := ⟨gb, i * 4 + 1, none⟩) rfl _).set (p := ⟨gb, i * 4 + 2, none⟩) rfl _).set (p := ⟨gb, i * 4 + 3, none⟩) rfl _
  each := h.each }

set_option maxRecDepth 100000 in
set_option maxHeartbeats 16000000 in
theorem Match_callsS (S : Nat → Prop) (params rigid : List Bool) (p t : Tm) (n : Int) (bs : List Bd) (A : Option Addr) (c : Nat) (A2 : Option Addr) (c2 : Nat) (Ab : Option Addr) (cb : Nat) (P : Option Addr) (cp : Nat) (R : Option Addr) (cr : Nat) (w : World) (hSS : ∀ k, S k → k < w.heap.size)
    (hr : Reads (fun _ => False) w A p.a) (hc : p.a.length ≤ c) (hr2 : Reads (fun _ => False) w A2 t.a) (hc2 : t.a.length ≤ c2) (hb : Row eB 4 (fun _ => False) w Ab bs) (hcb : bs.length ≤ cb) (hP : RowBo w P params) (hR : RowBo w R rigid) (hbl : bs.length ≤ 1048576) (hpl : params.length ≤ 1048576)
    (hq : mayB p = true → mayB t = true → QM p t n) (hbb : ∀ x ∈ bs, x.is = true → (mayB x.t = true → hB bindB x.t) ∧ cnt x.t ≤ 1048576) :
    Calls Tryz.prog 19 #[.agg #[.int .i64 p.k, .int .i64 p.h, .slice A p.a.length c], .agg #[.int .i64 t.k, .int .i64 t.h, .slice A2 t.a.length c2], .int .i64 n, .slice Ab bs.length cb, .slice P params.length cp, .slice R rigid.length cr] w (RetMS S (MatchV params rigid p t n bs) w) := by
  have HSS := Lib.hid hSS
  clear hSS
  have HB0 : Hid (Below w.heap.size w ((w.alloc (.cells #[.int .i64 p.k, .int .i64 p.h, .slice A p.a.length c] 25)).alloc (.cells #[.int .i64 t.k, .int .i64 t.h, .slice A2 t.a.length c2] 25))) := bl_alloc (bl_alloc (Below.refl _ _) _) _
  have EP : Hid (Blk ((w.alloc (.cells #[.int .i64 p.k, .int .i64 p.h, .slice A p.a.length c] 25)).alloc (.cells #[.int .i64 t.k, .int .i64 t.h, .slice A2 t.a.length c2] 25)) w.heap.size #[.int .i64 p.k, .int .i64 p.h, .slice A p.a.length c] 25) := (Blk.nw _ _ _ _ rfl).al _
  have ET : Hid (Blk ((w.alloc (.cells #[.int .i64 p.k, .int .i64 p.h, .slice A p.a.length c] 25)).alloc (.cells #[.int .i64 t.k, .int .i64 t.h, .slice A2 t.a.length c2] 25)) (w.heap.size + 1) #[.int .i64 t.k, .int .i64 t.h, .slice A2 t.a.length c2] 25) := Blk.nw _ _ _ _ (by simp)
  have HM1 := Lib.hid (fun (W : World) (hb : Below w.heap.size w W) => May_calls p A c W (hr.mov hb) hc)
  have HM2 := Lib.hid (fun (W : World) (hb : Below w.heap.size w W) => May_calls t A2 c2 W (hr2.mov hb) hc2)
  have HCF := Lib.hid (fun (W : World) (hbw : Below w.heap.size w W) => ContainsFuncB_calls 37 (enters_of Tryz.func37 (by kernel_rfl) rfl) #[] oddBd bs Ab cb W (fun i hi B d W _ h2 h3 => match1_calls bs[i] B d W h2 h3) (hb.toB.mov hbw))
  have HV := Lib.hid (rfl : MatchV params rigid p t n bs = MatchV params rigid p t n bs)
  conv at HV => rhs; rhs; unfold MatchV
  generalize MatchV params rigid p t n bs = mv at *
  obtain ⟨m1, hm1⟩ : ∃ b, mayB p = b := ⟨_, rfl⟩
  obtain ⟨m2, hm2⟩ : ∃ b, mayB t = b := ⟨_, rfl⟩
  obtain ⟨m3, hm3⟩ : ∃ b, bs.any oddBd = b := ⟨_, rfl⟩
  rw [hm1] at HM1 HV hq
  rw [hm2] at HM2 HV hq
  rw [hm3] at HCF HV
  have hlb := hbl
  cases m1
  · go_enter Tryz.func19, Tryz.ntmps19
    go_wp2_with (first
      | (go_at_call 38; refine (HM1.out _ HB0.out).mono ?_; clear HM1; rintro e w1 ⟨rfl, hb1⟩; have hw1 := bl_then HB0.out hb1; have q := ET.out.mov hb1; have q0 := q.cell 0; have q1 := q.cell 1; have q2 := q.cell 2; clear q)
      | (go_at_call 38; refine (HM2.out _ hw1).mono ?_; clear HM2; rintro e w2 ⟨rfl, hb2⟩; have hw2 := bl_then hw1 hb2))
    all_goals
      go_ret2
      refine ⟨by first | exact hw3 | exact hw2 | exact hw1, .inl ⟨1, ?_, by decide, rfl⟩⟩
      exact HV.out
  cases m2
  · go_enter Tryz.func19, Tryz.ntmps19
    go_wp2_with (first
      | (go_at_call 38; refine (HM1.out _ HB0.out).mono ?_; clear HM1; rintro e w1 ⟨rfl, hb1⟩; have hw1 := bl_then HB0.out hb1; have q := ET.out.mov hb1; have q0 := q.cell 0; have q1 := q.cell 1; have q2 := q.cell 2; clear q)
      | (go_at_call 38; refine (HM2.out _ hw1).mono ?_; clear HM2; rintro e w2 ⟨rfl, hb2⟩; have hw2 := bl_then hw1 hb2))
    all_goals
      go_ret2
      refine ⟨by first | exact hw3 | exact hw2 | exact hw1, .inl ⟨1, ?_, by decide, rfl⟩⟩
      exact HV.out
  by_cases h1 : n < 0
  · simp only [h1, decide_true, Bool.not_true, Bool.false_and, Bool.and_false, Bool.false_eq_true, if_false] at HV
    go_enter Tryz.func19, Tryz.ntmps19
    go_wp2_with (first
      | (go_at_call 38; refine (HM1.out _ HB0.out).mono ?_; clear HM1; rintro e w1 ⟨rfl, hb1⟩; have hw1 := bl_then HB0.out hb1; have q := ET.out.mov hb1; have q0 := q.cell 0; have q1 := q.cell 1; have q2 := q.cell 2; clear q)
      | (go_at_call 38; refine (HM2.out _ hw1).mono ?_; clear HM2; rintro e w2 ⟨rfl, hb2⟩; have hw2 := bl_then hw1 hb2))
    all_goals
      go_ret2
      refine ⟨by first | exact hw3 | exact hw2 | exact hw1, .inl ⟨1, ?_, by decide, rfl⟩⟩
      exact HV.out
  by_cases h2 : 1000 < n
  · simp only [h2, decide_true, Bool.not_true, Bool.false_and, Bool.and_false, Bool.false_eq_true, if_false] at HV
    go_enter Tryz.func19, Tryz.ntmps19
    go_wp2_with (first
      | (go_at_call 38; refine (HM1.out _ HB0.out).mono ?_; clear HM1; rintro e w1 ⟨rfl, hb1⟩; have hw1 := bl_then HB0.out hb1; have q := ET.out.mov hb1; have q0 := q.cell 0; have q1 := q.cell 1; have q2 := q.cell 2; clear q)
      | (go_at_call 38; refine (HM2.out _ hw1).mono ?_; clear HM2; rintro e w2 ⟨rfl, hb2⟩; have hw2 := bl_then hw1 hb2))
    all_goals
      go_ret2
      refine ⟨by first | exact hw3 | exact hw2 | exact hw1, .inl ⟨1, ?_, by decide, rfl⟩⟩
      exact HV.out
  by_cases h3 : 200 < (bs.length : Int)
  · simp only [h3, decide_true, Bool.not_true, Bool.false_and, Bool.and_false, Bool.false_eq_true, if_false] at HV
    go_enter Tryz.func19, Tryz.ntmps19
    go_wp2_with (first
      | (go_at_call 38; refine (HM1.out _ HB0.out).mono ?_; clear HM1; rintro e w1 ⟨rfl, hb1⟩; have hw1 := bl_then HB0.out hb1; have q := ET.out.mov hb1; have q0 := q.cell 0; have q1 := q.cell 1; have q2 := q.cell 2; clear q)
      | (go_at_call 38; refine (HM2.out _ hw1).mono ?_; clear HM2; rintro e w2 ⟨rfl, hb2⟩; have hw2 := bl_then hw1 hb2))
    all_goals
      go_ret2
      refine ⟨by first | exact hw3 | exact hw2 | exact hw1, .inl ⟨1, ?_, by decide, rfl⟩⟩
      exact HV.out
  by_cases h4 : bs.length = params.length
  · have h4' : ((bs.length : Int) = (params.length : Int)) := by omega
    cases m3
    · rw [decide_eq_true h4] at HV
      simp only [h1, h2, h3, decide_false, Bool.not_false, Bool.and_self, if_true] at HV
      have hne : ((bs.length : Int) != (params.length : Int)) = false := by simp [h4']
      have HPL := Lib.hid h4
      have hn200 : bs.length ≤ 200 := by omega
      have hmk := bd_make bs.length (by omega)
      have hqq := hq rfl rfl
      clear h4 h4'
      cases Ab with
      | none =>
        have hbe : bs = [] := by
          cases bs with
          | nil => rfl
          | cons x l =>
            obtain ⟨ad, _, h1, _⟩ := hb.2 0 (by simp)
            cases h1
        have HBE := Lib.hid hbe
        clear hbe hb
        go_enter Tryz.func19, Tryz.ntmps19
        go_upto_region 5 with (first
          | (go_at_call 38; refine (HM1.out _ HB0.out).mono ?_; clear HM1; rintro e w1 ⟨rfl, hb1⟩; have hw1 := bl_then HB0.out hb1; have q := ET.out.mov hb1; have q0 := q.cell 0; have q1 := q.cell 1; have q2 := q.cell 2; clear q)
          | (go_at_call 38; refine (HM2.out _ hw1).mono ?_; clear HM2; rintro e w2 ⟨rfl, hb2⟩; have hw2 := bl_then hw1 hb2)
          | (go_at_call 39; refine (HCF.out _ hw2).mono ?_; clear HCF q0 q1 q2; rintro e w3 ⟨rfl, hb3⟩; have hw3 := bl_then hw2 hb3))
        go_upto_region 6 with (first
          | (
             refine wpList_copy_none rfl _ _ rfl ⟨w3.heap.size, 0, none⟩ bs.length bs.length _ _ rfl rfl ?_
             intro W5 hgr
             have hg5 := hgr (some w3.heap.size)
             have hb5 := below_of_grown (bl_alloc (bl_alloc hw3 _) _) hg5 hw3.size
             have HM5 : Hid (Blk W5 (w3.heap.size + 1) #[.slice (some ⟨w3.heap.size, 0, none⟩) bs.length bs.length, .slice P params.length cp, .slice R rigid.length cr] 83) := Lib.hid ((Blk.nw _ _ _ _ (by simp)).grown hg5 (fun e => by have := Option.some.inj e; omega))
             have HK5 : Hid (Blk W5 w3.heap.size (madeCells #[.bool false, .int .i64 0, .int .i64 0, .slice none 0 0] (bs.length * 4)) 78) := Lib.hid (((Blk.nw _ _ _ _ rfl).al _).grown (hgr none) (by simp))
             have HG5 := Lib.hid hg5
             have HB5 := Lib.hid hb5
             clear hg5 hgr hb5))
        have HOB5 : Hid (OB W5 w3.heap.size bs) := Lib.hid (by
          have hk := HK5.out
          rw [HBE.out] at hk ⊢
          exact OB.empty hk (by simp [size_madeCells]))
        have HGS := Lib.hid hw3.size
        have HMI : Hid (MI (w3.heap.size + 1) w3.heap.size bs.length P cp R cr params rigid bs.length bs W5) := Lib.hid {
          len := rfl
          pl := HPL.out.symm
          ne := by omega
          bm := HM5.out
          ob := HOB5.out
          hp := hP.apart HB5.out HGS.out
          hr := hR.apart HB5.out HGS.out
          each := hbb }
        have HND := Lib.hid (nodeM_calls (w3.heap.size + 1) w3.heap.size bs.length P cp R cr params rigid bs.length p t n bs A c A2 c2 W5 hqq (hr.step (fun k hk _ q => by have := HGS.out; omega) (fun k hk _ => HB5.out.block k hk)) hc (hr2.step (fun k hk _ q => by have := HGS.out; omega) (fun k hk _ => HB5.out.block k hk)) hc2 HMI.out)
        have hne0 : some w.heap.size ≠ some w3.heap.size := fun e => by have := Option.some.inj e; have h1 := hb1.size; have h2 := hb2.size; have h3 := hb3.size; simp only [World.size_alloc] at h1; omega
        have hne1 : some (w.heap.size + 1) ≠ some w3.heap.size := fun e => by have := Option.some.inj e; have h1 := hb1.size; have h2 := hb2.size; have h3 := hb3.size; simp only [World.size_alloc] at h1; omega
        have z := ((((EP.out.mov hb1).mov hb2).mov hb3).al (.cells (madeCells #[.bool false, .int .i64 0, .int .i64 0, .slice none 0 0] (bs.length * 4)) 78)).al (.cells #[.slice (some ⟨w3.heap.size, 0, none⟩) bs.length bs.length, .slice P params.length cp, .slice R rigid.length cr] 83) |>.grown HG5.out hne0
        have y := ((((ET.out.mov hb1).mov hb2).mov hb3).al (.cells (madeCells #[.bool false, .int .i64 0, .int .i64 0, .slice none 0 0] (bs.length * 4)) 78)).al (.cells #[.slice (some ⟨w3.heap.size, 0, none⟩) bs.length bs.length, .slice P params.length cp, .slice R rigid.length cr] 83) |>.grown HG5.out hne1
        have z0 := z.cell 0
        have z1 := z.cell 1
        have z2 := z.cell 2
        have y0 := y.cell 0
        have y1 := y.cell 1
        have y2 := y.cell 2
        clear z y hmk hne0 hne1
        go_upto_region 7 with (go_at_call 40; refine HND.out.mono ?_; clear HND z0 z1 z2 y0 y1 y2; rintro e w6 ⟨hg6, x, rfl, hx⟩)
        have hw6 := below_of_grown HB5.out hg6 HGS.out
        rcases hx with ⟨hf, hx0⟩ | ⟨rfl, bs', hf, hI'⟩
        · go_wp2_with fail
          go_ret2
          exact ⟨hw6, .inl ⟨x, HV.out.trans hf, hx0, rfl⟩⟩
        · have HI6 := Lib.hid hI'
          have HF := Lib.hid (HV.out.trans hf)
          have n6 := hI'.bm.cell 0
          have hl6 := hI'.len
          have HW6 := Lib.hid hw6
          clear hf hI' hg6
          go_wp2_with fail
          go_loopw [77] (fun jv wr => ∃ i : Nat, jv = .int .i64 i ∧ i ≤ bs'.length ∧ Below w.heap.size w wr ∧ MI (w3.heap.size + 1) w3.heap.size bs.length P cp R cr params rigid bs.length bs' wr ∧ OBS S w3.heap.size bs' i wr) (fun jv _ => bs'.length - (intOf jv).toNat)
          case atStart => exact ⟨0, rfl, Nat.zero_le _, HW6.out, HI6.out, fun j _ hj => absurd hj (Nat.not_lt_zero _)⟩
          case round =>
            clear n6
            obtain ⟨i, rfl, hle, hbw, hI, hobs⟩ := hrel
            have HOBS := Lib.hid hobs
            clear hobs
            have m0 := hI.bm.cell 0
            have gml := hI.bm.lt
            have HII := Lib.hid hI
            by_cases hlt : i < bs'.length
            · have hiN : (i : Int) < (bs.length : Int) := by omega
              have hi0 : (0 : Int) ≤ (i : Int) := by omega
              obtain ⟨_, cur, g1, g2, g3⟩ := hI.ob
              obtain ⟨Bi, di, v0, v1, v2, v3, hdi, hri⟩ := g3 i hlt
              have gbl := g1.lt
              have b1 := (g1.cell (i * 4 + 1)).trans v1
              have b2 := (g1.cell (i * 4 + 2)).trans v2
              have b3 := (g1.cell (i * 4 + 3)).trans v3
              have HG1 := Lib.hid g1
              have HG2 := Lib.hid g2
              have V1 := Lib.hid v1
              have V2 := Lib.hid v2
              have V3 := Lib.hid v3
              have HOW := Lib.hid (fun (W : World) (hb : Below wr.heap.size wr W) => Own_calls bs'[i].t (fun k => S k ∨ k = w3.heap.size) Bi di W (fun k q => by have := hb.size; have := hbw.size; rcases q with q | q; (have := HSS.out k q; omega); (rw [q]; omega)) ((hri.less (fun _ q => q.elim)).mov hb) hdi)
              clear g1 g2 g3 v0 v1 v2 v3 hri hI
              go_upto_region 12 with fail
              go_region_law (rw [if_pos (by rfl)]; go_simp; go_at_call 27; refine (HOW.out _ (Below.refl _ _).drew).mono ?_; rintro e w7 ⟨hb7, B7, c7, rfl, hc7, hr7⟩; have hx7 := bl_undrew hb7; have m7 := (HII.out.bm.mov hx7).cell 0; have gml7 := (HII.out.bm.mov hx7).lt; have gq := HG1.out.mov hx7; have e1 := (gq.cell (i * 4 + 1)).trans V1.out; have e2 := (gq.cell (i * 4 + 2)).trans V2.out; have e3 := (gq.cell (i * 4 + 3)).trans V3.out; have f1 := gq.frozen (i * 4 + 1); have f2 := gq.frozen (i * 4 + 2); have f3 := gq.frozen (i * 4 + 3); clear gq)
              all_goals
                go_wp2_with fail
                exact ⟨⟨i + 1, by go_num, hlt, bl_set (bl_set (bl_set (bl_then hbw hx7) (p := ⟨w3.heap.size, i * 4 + 1, none⟩) HGS.out _) (p := ⟨w3.heap.size, i * 4 + 2, none⟩) HGS.out _) (p := ⟨w3.heap.size, i * 4 + 3, none⟩) HGS.out _, (HII.out.mov hx7).own hlt B7 c7 hc7 (hr7.less (fun _ q => .inr q)), (HOBS.out.mov hx7).own hlt (HG1.out.mov hx7) HG2.out B7 c7 hr7⟩, by simp [intOf]; omega⟩
            · have hie : i = bs'.length := by omega
              have hnl : ¬ ((i : Int) < (bs.length : Int)) := by omega
              clear hI
              go_wp2_with fail
              go_ret2
              refine ⟨hbw, .inr ⟨bs', w3.heap.size, bs.length, HF.out, by rw [hl6]; rfl, by omega, HGS.out, ?_⟩⟩
              exact ⟨HII.out.ob.1, fun k hk => by
                obtain ⟨ad, B, d, h1, c0, c1, c2, c3, h4, h5⟩ := HII.out.ob.row.2 k hk
                obtain ⟨B', d', q1, q2⟩ := HOBS.out k hk (by omega)
                obtain rfl := Option.some.inj h1
                have c3' := c3
                rw [add_plain] at c3'
                dsimp only at c3'
                rw [Nat.zero_add, q1] at c3'
                obtain ⟨rfl, -, rfl⟩ := Value.slice.inj (Option.some.inj c3')
                exact ⟨_, _, _, rfl, c0, c1, c2, c3, h4, q2.less (fun _ q => .inl q)⟩⟩
      | some ab =>
        obtain ⟨cs, hcl, hsrc, hone, heach⟩ := Row.flat one_B (by decide) hb
        have HSRC := Lib.hid hsrc
        have HEACH := Lib.hid heach
        clear hsrc heach hb
        go_enter Tryz.func19, Tryz.ntmps19
        go_upto_region 5 with (first
          | (go_at_call 38; refine (HM1.out _ HB0.out).mono ?_; clear HM1; rintro e w1 ⟨rfl, hb1⟩; have hw1 := bl_then HB0.out hb1; have q := ET.out.mov hb1; have q0 := q.cell 0; have q1 := q.cell 1; have q2 := q.cell 2; clear q)
          | (go_at_call 38; refine (HM2.out _ hw1).mono ?_; clear HM2; rintro e w2 ⟨rfl, hb2⟩; have hw2 := bl_then hw1 hb2)
          | (go_at_call 39; refine (HCF.out _ hw2).mono ?_; clear HCF q0 q1 q2; rintro e w3 ⟨rfl, hb3⟩; have hw3 := bl_then hw2 hb3))
        go_upto_region 6 with (first
          | (
             refine wpList_copy_binds rfl _ _ rfl w3.heap.size bs.length _ _ ab _ cs rfl rfl ((Blk.nw _ _ _ _ rfl).al _) (size_madeCells _ _) hcl (fun j v h => cell_mov (HSRC.out j v h) (bl_alloc (bl_alloc hw3 _) _)) hone ?_
             intro W5 hg5 hk5
             have hb5 := below_of_grown (bl_alloc (bl_alloc hw3 _) _) hg5 hw3.size
             have HM5 : Hid (Blk W5 (w3.heap.size + 1) #[.slice (some ⟨w3.heap.size, 0, none⟩) bs.length bs.length, .slice P params.length cp, .slice R rigid.length cr] 83) := Lib.hid ((Blk.nw _ _ _ _ (by simp)).grown hg5 (fun e => by have := Option.some.inj e; omega))
             have HG5 := Lib.hid hg5
             have HK5 := Lib.hid hk5
             have HB5 := Lib.hid hb5
             clear hg5 hk5 hb5))
        have HOB5 : Hid (OB W5 w3.heap.size bs) := Lib.hid (OB.start (by unfold lim; omega) hw3.size HB5.out HK5.out hcl HEACH.out)
        have HGS := Lib.hid hw3.size
        have HMI : Hid (MI (w3.heap.size + 1) w3.heap.size bs.length P cp R cr params rigid bs.length bs W5) := Lib.hid {
          len := rfl
          pl := HPL.out.symm
          ne := by omega
          bm := HM5.out
          ob := HOB5.out
          hp := hP.apart HB5.out HGS.out
          hr := hR.apart HB5.out HGS.out
          each := hbb }
        have HND := Lib.hid (nodeM_calls (w3.heap.size + 1) w3.heap.size bs.length P cp R cr params rigid bs.length p t n bs A c A2 c2 W5 hqq (hr.step (fun k hk _ q => by have := HGS.out; omega) (fun k hk _ => HB5.out.block k hk)) hc (hr2.step (fun k hk _ q => by have := HGS.out; omega) (fun k hk _ => HB5.out.block k hk)) hc2 HMI.out)
        have hne0 : some w.heap.size ≠ some w3.heap.size := fun e => by have := Option.some.inj e; have h1 := hb1.size; have h2 := hb2.size; have h3 := hb3.size; simp only [World.size_alloc] at h1; omega
        have hne1 : some (w.heap.size + 1) ≠ some w3.heap.size := fun e => by have := Option.some.inj e; have h1 := hb1.size; have h2 := hb2.size; have h3 := hb3.size; simp only [World.size_alloc] at h1; omega
        have z := ((((EP.out.mov hb1).mov hb2).mov hb3).al (.cells (madeCells #[.bool false, .int .i64 0, .int .i64 0, .slice none 0 0] (bs.length * 4)) 78)).al (.cells #[.slice (some ⟨w3.heap.size, 0, none⟩) bs.length bs.length, .slice P params.length cp, .slice R rigid.length cr] 83) |>.grown HG5.out hne0
        have y := ((((ET.out.mov hb1).mov hb2).mov hb3).al (.cells (madeCells #[.bool false, .int .i64 0, .int .i64 0, .slice none 0 0] (bs.length * 4)) 78)).al (.cells #[.slice (some ⟨w3.heap.size, 0, none⟩) bs.length bs.length, .slice P params.length cp, .slice R rigid.length cr] 83) |>.grown HG5.out hne1
        have z0 := z.cell 0
        have z1 := z.cell 1
        have z2 := z.cell 2
        have y0 := y.cell 0
        have y1 := y.cell 1
        have y2 := y.cell 2
        clear z y hmk hne0 hne1
        go_upto_region 7 with (go_at_call 40; refine HND.out.mono ?_; clear HND z0 z1 z2 y0 y1 y2; rintro e w6 ⟨hg6, x, rfl, hx⟩)
        have hw6 := below_of_grown HB5.out hg6 HGS.out
        rcases hx with ⟨hf, hx0⟩ | ⟨rfl, bs', hf, hI'⟩
        · go_wp2_with fail
          go_ret2
          exact ⟨hw6, .inl ⟨x, HV.out.trans hf, hx0, rfl⟩⟩
        · have HI6 := Lib.hid hI'
          have HF := Lib.hid (HV.out.trans hf)
          have n6 := hI'.bm.cell 0
          have hl6 := hI'.len
          have HW6 := Lib.hid hw6
          clear hf hI' hg6
          go_wp2_with fail
          go_loopw [77] (fun jv wr => ∃ i : Nat, jv = .int .i64 i ∧ i ≤ bs'.length ∧ Below w.heap.size w wr ∧ MI (w3.heap.size + 1) w3.heap.size bs.length P cp R cr params rigid bs.length bs' wr ∧ OBS S w3.heap.size bs' i wr) (fun jv _ => bs'.length - (intOf jv).toNat)
          case atStart => exact ⟨0, rfl, Nat.zero_le _, HW6.out, HI6.out, fun j _ hj => absurd hj (Nat.not_lt_zero _)⟩
          case round =>
            clear n6
            obtain ⟨i, rfl, hle, hbw, hI, hobs⟩ := hrel
            have HOBS := Lib.hid hobs
            clear hobs
            have m0 := hI.bm.cell 0
            have gml := hI.bm.lt
            have HII := Lib.hid hI
            by_cases hlt : i < bs'.length
            · have hiN : (i : Int) < (bs.length : Int) := by omega
              have hi0 : (0 : Int) ≤ (i : Int) := by omega
              obtain ⟨_, cur, g1, g2, g3⟩ := hI.ob
              obtain ⟨Bi, di, v0, v1, v2, v3, hdi, hri⟩ := g3 i hlt
              have gbl := g1.lt
              have b1 := (g1.cell (i * 4 + 1)).trans v1
              have b2 := (g1.cell (i * 4 + 2)).trans v2
              have b3 := (g1.cell (i * 4 + 3)).trans v3
              have HG1 := Lib.hid g1
              have HG2 := Lib.hid g2
              have V1 := Lib.hid v1
              have V2 := Lib.hid v2
              have V3 := Lib.hid v3
              have HOW := Lib.hid (fun (W : World) (hb : Below wr.heap.size wr W) => Own_calls bs'[i].t (fun k => S k ∨ k = w3.heap.size) Bi di W (fun k q => by have := hb.size; have := hbw.size; rcases q with q | q; (have := HSS.out k q; omega); (rw [q]; omega)) ((hri.less (fun _ q => q.elim)).mov hb) hdi)
              clear g1 g2 g3 v0 v1 v2 v3 hri hI
              go_upto_region 12 with fail
              go_region_law (rw [if_pos (by rfl)]; go_simp; go_at_call 27; refine (HOW.out _ (Below.refl _ _).drew).mono ?_; rintro e w7 ⟨hb7, B7, c7, rfl, hc7, hr7⟩; have hx7 := bl_undrew hb7; have m7 := (HII.out.bm.mov hx7).cell 0; have gml7 := (HII.out.bm.mov hx7).lt; have gq := HG1.out.mov hx7; have e1 := (gq.cell (i * 4 + 1)).trans V1.out; have e2 := (gq.cell (i * 4 + 2)).trans V2.out; have e3 := (gq.cell (i * 4 + 3)).trans V3.out; have f1 := gq.frozen (i * 4 + 1); have f2 := gq.frozen (i * 4 + 2); have f3 := gq.frozen (i * 4 + 3); clear gq)
              all_goals
                go_wp2_with fail
                exact ⟨⟨i + 1, by go_num, hlt, bl_set (bl_set (bl_set (bl_then hbw hx7) (p := ⟨w3.heap.size, i * 4 + 1, none⟩) HGS.out _) (p := ⟨w3.heap.size, i * 4 + 2, none⟩) HGS.out _) (p := ⟨w3.heap.size, i * 4 + 3, none⟩) HGS.out _, (HII.out.mov hx7).own hlt B7 c7 hc7 (hr7.less (fun _ q => .inr q)), (HOBS.out.mov hx7).own hlt (HG1.out.mov hx7) HG2.out B7 c7 hr7⟩, by simp [intOf]; omega⟩
            · have hie : i = bs'.length := by omega
              have hnl : ¬ ((i : Int) < (bs.length : Int)) := by omega
              clear hI
              go_wp2_with fail
              go_ret2
              refine ⟨hbw, .inr ⟨bs', w3.heap.size, bs.length, HF.out, by rw [hl6]; rfl, by omega, HGS.out, ?_⟩⟩
              exact ⟨HII.out.ob.1, fun k hk => by
                obtain ⟨ad, B, d, h1, c0, c1, c2, c3, h4, h5⟩ := HII.out.ob.row.2 k hk
                obtain ⟨B', d', q1, q2⟩ := HOBS.out k hk (by omega)
                obtain rfl := Option.some.inj h1
                have c3' := c3
                rw [add_plain] at c3'
                dsimp only at c3'
                rw [Nat.zero_add, q1] at c3'
                obtain ⟨rfl, -, rfl⟩ := Value.slice.inj (Option.some.inj c3')
                exact ⟨_, _, _, rfl, c0, c1, c2, c3, h4, q2.less (fun _ q => .inl q)⟩⟩
    · simp only [Bool.not_true, Bool.and_false, Bool.false_eq_true, if_false] at HV
      have hne : ((bs.length : Int) != (params.length : Int)) = false := by simp [h4']
      clear h4 h4'
      go_enter Tryz.func19, Tryz.ntmps19
      go_wp2_with (first
        | (go_at_call 38; refine (HM1.out _ HB0.out).mono ?_; clear HM1; rintro e w1 ⟨rfl, hb1⟩; have hw1 := bl_then HB0.out hb1; have q := ET.out.mov hb1; have q0 := q.cell 0; have q1 := q.cell 1; have q2 := q.cell 2; clear q)
        | (go_at_call 38; refine (HM2.out _ hw1).mono ?_; clear HM2; rintro e w2 ⟨rfl, hb2⟩; have hw2 := bl_then hw1 hb2)
        | (go_at_call 39; refine (HCF.out _ hw2).mono ?_; clear HCF; rintro e w3 ⟨rfl, hb3⟩; have hw3 := bl_then hw2 hb3))
      all_goals
        go_ret2
        refine ⟨by first | exact hw3 | exact hw2 | exact hw1, .inl ⟨1, ?_, by decide, rfl⟩⟩
        exact HV.out
  · have h4' : ¬ ((bs.length : Int) = (params.length : Int)) := by omega
    simp only [h4, decide_false, Bool.false_and, Bool.and_false, Bool.false_eq_true, if_false] at HV
    go_enter Tryz.func19, Tryz.ntmps19
    go_wp2_with (first
      | (go_at_call 38; refine (HM1.out _ HB0.out).mono ?_; clear HM1; rintro e w1 ⟨rfl, hb1⟩; have hw1 := bl_then HB0.out hb1; have q := ET.out.mov hb1; have q0 := q.cell 0; have q1 := q.cell 1; have q2 := q.cell 2; clear q)
      | (go_at_call 38; refine (HM2.out _ hw1).mono ?_; clear HM2; rintro e w2 ⟨rfl, hb2⟩; have hw2 := bl_then hw1 hb2))
    all_goals
      go_ret2
      refine ⟨by first | exact hw3 | exact hw2 | exact hw1, .inl ⟨1, ?_, by decide, rfl⟩⟩
      exact HV.out
theorem Match_calls (params rigid : List Bool) (p t : Tm) (n : Int) (bs : List Bd) (A : Option Addr) (c : Nat) (A2 : Option Addr) (c2 : Nat) (Ab : Option Addr) (cb : Nat) (P : Option Addr) (cp : Nat) (R : Option Addr) (cr : Nat) (w : World)
    (hr : Reads (fun _ => False) w A p.a) (hc : p.a.length ≤ c) (hr2 : Reads (fun _ => False) w A2 t.a) (hc2 : t.a.length ≤ c2) (hb : Row eB 4 (fun _ => False) w Ab bs) (hcb : bs.length ≤ cb) (hP : RowBo w P params) (hR : RowBo w R rigid) (hbl : bs.length ≤ 1048576) (hpl : params.length ≤ 1048576)
    (hq : mayB p = true → mayB t = true → QM p t n) (hbb : ∀ x ∈ bs, x.is = true → (mayB x.t = true → hB bindB x.t) ∧ cnt x.t ≤ 1048576) :
    Calls Tryz.prog 19 #[.agg #[.int .i64 p.k, .int .i64 p.h, .slice A p.a.length c], .agg #[.int .i64 t.k, .int .i64 t.h, .slice A2 t.a.length c2], .int .i64 n, .slice Ab bs.length cb, .slice P params.length cp, .slice R rigid.length cr] w (RetM (MatchV params rigid p t n bs) w) :=
  Match_callsS (fun _ => False) params rigid p t n bs A c A2 c2 Ab cb P cp R cr w (fun _ q => q.elim) hr hc hr2 hc2 hb hcb hP hR hbl hpl hq hbb
end Go.Proofs.YtbmmdfehhhgkcaaGreat
