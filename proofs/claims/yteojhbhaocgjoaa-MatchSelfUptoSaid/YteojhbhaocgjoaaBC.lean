/- The builtin copy of a row of structs into a row of one's own; the row of binds that Match begins with. -/
import Derived.Test.YteojhbhaocgjoaaRA
import Derived.Test.YteojhbhaocgjoaaBD
import Derived.Laws.CopyRow
import Derived.Laws.CopyOwn
namespace Go.Proofs.Yteojhbhaocgjoaa
open Go.RowKit Go.Shelf
set_option linter.unusedVariables false
set_option linter.unusedSimpArgs false

theorem Row.flat {α : Type} {E : (Nat → Prop) → World → List Value → α → Prop} (hone : ∀ {S w cs x}, E S w cs x → ∀ u ∈ cs, u.oneCell' = true) {sz : Nat} (hz : 0 < sz) {S : Nat → Prop} {W : World} {a : Addr} {xs : List α} (hr : Row E sz S W (some a) xs) :
    ∃ cs : List Value, cs.length = xs.length * sz ∧ (∀ k u, cs[k]? = some u → W.cell? (a.add k) = some u) ∧ (∀ u ∈ cs, u.oneCell' = true) ∧ ∀ i, (hi : i < xs.length) → ∃ c, c.length = sz ∧ E S W c xs[i] ∧ ∀ j, j < sz → cs[i * sz + j]? = c[j]? := by
  have each : ∀ i, i < xs.length → ∃ cs : List Value, ∀ (hi : i < xs.length), cs.length = sz ∧ (∀ j u, cs[j]? = some u → W.cell? (a.add (i * sz + j)) = some u) ∧ E S W cs xs[i] := by
    intro i hi
    obtain ⟨ad, cs, h1, h2, h3, h4, h5, h6⟩ := hr.2 i hi
    refine ⟨cs, fun _ => ⟨h4, fun j u hu => ?_, h6⟩⟩
    obtain rfl := Option.some.inj h1
    obtain ⟨b, o, sp⟩ := a
    dsimp only at h2
    subst h2
    rw [add_plain]
    exact h5 j u hu
  obtain ⟨css, hcl, hcs⟩ := build xs.length each
  have hlen : ∀ c ∈ css, c.length = sz := fun c hc => by
    obtain ⟨i, hi, rfl⟩ := List.getElem_of_mem hc
    exact (hcs i hi (by omega)).1
  refine ⟨css.flatten, by rw [flat_len css hlen, hcl], fun k u hu => ?_, fun u hu => ?_, fun i hi => ?_⟩
  · rw [flat_get hz css hlen] at hu
    obtain ⟨cs, hc1, hc2⟩ := Option.bind_eq_some_iff.1 hu
    obtain ⟨hlt, rfl⟩ := List.getElem?_eq_some_iff.1 hc1
    have := (hcs _ hlt (by omega)).2.1 _ u hc2
    rw [Nat.div_add_mod' k sz] at this
    exact this
  · obtain ⟨c, hc, huc⟩ := List.mem_flatten.1 hu
    obtain ⟨i, hi, rfl⟩ := List.getElem_of_mem hc
    exact hone (hcs i hi (by omega)).2.2 u huc
  · have hic : i < css.length := by omega
    obtain ⟨q1, q2, q3⟩ := hcs i hic hi
    exact ⟨css[i], q1, q3, fun j hj => flat_at hz hlen hic hj⟩
theorem one_B {S : Nat → Prop} {w : World} {cs : List Value} {x : Bd} (h : eB S w cs x) : ∀ u ∈ cs, u.oneCell' = true := by
  obtain ⟨B, d, rfl, -, -⟩ := h
  intro u hu
  simp at hu
  rcases hu with rfl | rfl | rfl | rfl <;> rfl
theorem infoBd : (Try.prog.info? 41).map (fun i => (i.zero, i.size, i.bytes)) = some (some (.agg #[.bool false, .int .i64 0, .int .i64 0, .slice none 0 0]), 4, 48) := by kernel_rfl
/-- copy of a row of binds into a row as long. -/
theorem run_copy_binds (W : World) (ty : TypeId) (g n dCap sCap : Nat) (a : Addr) (cur : Array Value) (cs : List Value) (hg : Blk W g cur 41) (hsz : cur.size = n * 4) (hn : cs.length = n * 4)
    (hsrc : ∀ j v, cs[j]? = some v → W.cell? (a.add j) = some v) (h1 : ∀ v ∈ cs, v.oneCell' = true) :
    (Builtin.copy_ #[30, 30] ty #[.slice (some ⟨g, 0, none⟩) n dCap, .slice (some a) n sCap]).run Try.prog W = .ok (goInt n) (W.setRow g cs.toArray) := by
  obtain ⟨i, hi, -, hs, -⟩ := info_parts infoBd
  have hl := run_loadCells_list (P := Try.prog) W a cs hsrc
  have hst := run_storeCells_at Try.prog g 0 41 cs 0 cur W hg (by omega) h1
  have e1 : (cur.toList.take (0 + 0) ++ cs ++ cur.toList.drop (0 + 0 + cs.length)).toArray = cs.toArray := by
    have : cur.toList.drop (0 + 0 + cs.length) = [] := List.drop_eq_nil_of_le (by simp [hsz, hn])
    rw [this]
    simp
  rw [e1] at hst
  have hmin : Nat.min n n = n := Nat.min_self n
  rw [hn] at hl
  simp [Builtin.copy_, run_underlying Try.underlying30, Builtin.lenOf, Builtin.firstCells, sizeOf, typeInfo, hi, hs, hmin, hl, hst]
theorem wpList_copy_binds {ops : Array Oper} {rest : List Oper} {o : Oper} {a : Act} {Q : Exit → Act → World → Prop} (hgd : o.guard = none) (x y : Operand)
    (ho : o.op = .call { callee := .builtin .copy, args := #[x, y], argTypes := #[30, 30] }) {W : World} (g n dCap sCap : Nat) (ad : Addr) (cur : Array Value) (cs : List Value) (hx : a.eval x = .slice (some ⟨g, 0, none⟩) n dCap) (hy : a.eval y = .slice (some ad) n sCap)
    (hg : Blk W g cur 41) (hsz : cur.size = n * 4) (hn : cs.length = n * 4) (hsrc : ∀ j v, cs[j]? = some v → W.cell? (ad.add j) = some v) (h1 : ∀ v ∈ cs, v.oneCell' = true)
    (h : ∀ W1, W.grownBy W1 (some g) → Blk W1 g cs.toArray 41 → wpList Try.prog ops Q rest (a.put o.dst (goInt n)) W1) : wpList Try.prog ops Q (o :: rest) a W := by
  have hrun := run_copy_binds W o.type g n dCap sCap ad cur cs hg hsz hn hsrc h1
  refine wpList_plain hgd fun K hK => ?_
  unfold Oper.wp execOp
  simp only [ho, resolve, invoke, builtin, Sem.run_bind, Sem.run_pure, Result.andThen_ok, List.map_toArray, List.map_cons, List.map_nil, hx, hy, hrun]
  exact hK _ _ (h _ ⟨rfl, rfl, rfl, by simp [World.setRow], fun k hk hne => setRow_other W g k _ (fun e => hne (by rw [e]))⟩ (setRow_heap W g cur _ 41 (0, 0) hg))
theorem wpList_copy_none {ops : Array Oper} {rest : List Oper} {o : Oper} {a : Act} {Q : Exit → Act → World → Prop} (hgd : o.guard = none) (x y : Operand)
    (ho : o.op = .call { callee := .builtin .copy, args := #[x, y], argTypes := #[30, 30] }) {W : World} (ad : Addr) (n m dCap sCap : Nat) (hx : a.eval x = .slice (some ad) n dCap) (hy : a.eval y = .slice none m sCap)
    (h : ∀ W1, (∀ r, W.grownBy W1 r) → wpList Try.prog ops Q rest (a.put o.dst (goInt (Nat.min m n))) W1) : wpList Try.prog ops Q (o :: rest) a W := by
  have hi := infoBd
  have hrun : (Builtin.copy_ #[30, 30] o.type #[.slice (some ad) n dCap, .slice none m sCap]).run Try.prog W = .ok (goInt (Nat.min m n)) W := by
    cases hq : Try.prog.info? 41 with
    | none => rw [hq] at hi; cases hi
    | some i => simp [Builtin.copy_, run_underlying Try.underlying30, Builtin.lenOf, Builtin.firstCells, sizeOf, typeInfo, hq, storeCells]
  refine wpList_plain hgd fun K hK => ?_
  unfold Oper.wp execOp
  simp only [ho, resolve, invoke, builtin, Sem.run_bind, Sem.run_pure, Result.andThen_ok, List.map_toArray, List.map_cons, List.map_nil, hx, hy, hrun]
  exact hK _ _ (h _ (fun r => grown_but (bl_grownBy (Below.refl _ _)) r))
/-- The row that Match begins with. -/
theorem OB.start {w W : World} {g : Nat} {bs : List Bd} {cs : List Value} (hl : bs.length ≤ lim) (hg : w.heap.size ≤ g) (hb : Below w.heap.size w W) (hB : Blk W g cs.toArray 41) (hn : cs.length = bs.length * 4)
    (h : ∀ i, (hi : i < bs.length) → ∃ c, c.length = 4 ∧ eB (fun _ => False) w c bs[i] ∧ ∀ j, j < 4 → cs[i * 4 + j]? = c[j]?) : OB W g bs := by
  refine ⟨hl, cs.toArray, hB, by simp [hn], fun i hi => ?_⟩
  obtain ⟨c, hc, ⟨B, d, rfl, hd, hr⟩, hj⟩ := h i hi
  refine ⟨B, d, ?_, ?_, ?_, ?_, hd, hr.step (fun k hk _ q => by omega) (fun k hk _ => hb.block k hk)⟩
  · rw [List.getElem?_toArray]; exact hj 0 (by omega)
  · rw [List.getElem?_toArray]; exact hj 1 (by omega)
  · rw [List.getElem?_toArray]; exact hj 2 (by omega)
  · rw [List.getElem?_toArray]; exact hj 3 (by omega)
theorem OB.empty {W : World} {g : Nat} {cur : Array Value} (hB : Blk W g cur 41) (h0 : cur.size = 0) : OB W g [] := ⟨Nat.zero_le _, cur, hB, by simp [h0], fun i hi => absurd hi (Nat.not_lt_zero _)⟩
/-- A bind's term is laid anew. -/
theorem OB.own {w : World} {g : Nat} {bs : List Bd} (h : OB w g bs) {i : Nat} (hi : i < bs.length) (B : Option Addr) (d : Nat) (hd : bs[i].t.a.length ≤ d) (hr : Reads (fun k => k = g) w B bs[i].t.a) :
    OB (((w.setCell ⟨g, i * 4 + 1, none⟩ (.int .i64 bs[i].t.k)).setCell ⟨g, i * 4 + 2, none⟩ (.int .i64 bs[i].t.h)).setCell ⟨g, i * 4 + 3, none⟩ (.slice B bs[i].t.a.length d)) g bs := by
  obtain ⟨h0, cur, h1, h2, h3⟩ := h
  refine ⟨h0, _, ((h1.set _ _).set _ _).set _ _, by simp [h2], fun j hj => ?_⟩
  have mv : ∀ {A : Option Addr} {l : List Tm}, Reads (fun k => k = g) w A l → Reads (fun k => k = g) (((w.setCell ⟨g, i * 4 + 1, none⟩ (.int .i64 bs[i].t.k)).setCell ⟨g, i * 4 + 2, none⟩ (.int .i64 bs[i].t.h)).setCell ⟨g, i * 4 + 3, none⟩ (.slice B bs[i].t.a.length d)) A l := fun q =>
    ((q.set (p := ⟨g, i * 4 + 1, none⟩) rfl _).set (p := ⟨g, i * 4 + 2, none⟩) rfl _).set (p := ⟨g, i * 4 + 3, none⟩) rfl _
  obtain ⟨B', d', c0, c1, c2, c3, h4, h5⟩ := h3 j hj
  by_cases hij : i = j
  · subst hij
    refine ⟨B, d, ?_, ?_, ?_, ?_, hd, mv hr⟩
    · rw [← c0]; rw [Array.getElem?_setIfInBounds_ne (by omega), Array.getElem?_setIfInBounds_ne (by omega), Array.getElem?_setIfInBounds_ne (by omega)]
    all_goals
      simp [Array.getElem?_setIfInBounds]
      omega
  · refine ⟨B', d', ?_, ?_, ?_, ?_, h4, mv h5⟩
    · rw [← c0]; rw [Array.getElem?_setIfInBounds_ne (by omega), Array.getElem?_setIfInBounds_ne (by omega), Array.getElem?_setIfInBounds_ne (by omega)]
    · rw [← c1]; rw [Array.getElem?_setIfInBounds_ne (by omega), Array.getElem?_setIfInBounds_ne (by omega), Array.getElem?_setIfInBounds_ne (by omega)]
    · rw [← c2]; rw [Array.getElem?_setIfInBounds_ne (by omega), Array.getElem?_setIfInBounds_ne (by omega), Array.getElem?_setIfInBounds_ne (by omega)]
    · rw [← c3]; rw [Array.getElem?_setIfInBounds_ne (by omega), Array.getElem?_setIfInBounds_ne (by omega), Array.getElem?_setIfInBounds_ne (by omega)]
theorem bd_make (n : Nat) (hn : n ≤ 1048576) (w : World) : (Instr.makeSlice 30 (.int .i64 n) (.int .i64 n)).run Try.prog w = .ok (.slice (some ⟨w.heap.size, 0, none⟩) n n) (w.alloc (.cells (madeCells #[.bool false, .int .i64 0, .int .i64 0, .slice none 0 0] (n * 4)) 41)) := by
  obtain ⟨i, hi, hz, hs, hb⟩ := info_parts infoBd
  have q := run_make (P := Try.prog) (w := w) 30 41 i _ Try.underlying30 hi hz .i64 .i64 (n : Int) (n : Int) (by omega) (Int.le_refl _) (by rw [hb]; omega) (by omega)
  rw [hs] at q
  simp only [Int.toNat_natCast] at q
  exact q
end Go.Proofs.Yteojhbhaocgjoaa
