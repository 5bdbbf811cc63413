/- Rows of structs that are one's own: what is appended to them. The law EvalBehind, plainly: clauses and functions behind those that there are. The law EvalBehind: the walk. -/
import Derived.Test.YtbmmdfehhhgkcaaGreatRA
import Derived.Test.YtbmmdfehhhgkcaaGreatE7
import Derived.Test.YtbmmdfehhhgkcaaGreatEU
namespace Go.Proofs.YtbmmdfehhhgkcaaGreat
open Go.RowKit Go.Shelf
set_option linter.unusedVariables false
set_option linter.unusedSimpArgs false

/-- The value v is a row of one's own, of these; what they lead to keeps clear of it. -/
def MineR {α : Type} (E : (Nat → Prop) → World → List Value → α → Prop) (sz : Nat) (e : TypeId) (base : Nat) (S : Nat → Prop) (W : World) (v : Value) (xs : List α) : Prop :=
  ∃ css : List (List Value), css.length = xs.length ∧ (∀ c ∈ css, c.length = sz) ∧ W.ownsRow base e sz v xs.length css.flatten ∧ ∀ i, (hi : i < xs.length) → (hj : i < css.length) → E (fun k => S k ∨ v.ownBlock = some k) W css[i] xs[i]
theorem MineR.nil {α : Type} {E : (Nat → Prop) → World → List Value → α → Prop} {sz : Nat} {e : TypeId} {base : Nat} {S : Nat → Prop} {W : World} : MineR E sz e base S W (.slice none 0 0) ([] : List α) :=
  ⟨[], rfl, by simp, ⟨by simp, .inl ⟨rfl, rfl⟩⟩, fun i hi => absurd hi (by simp)⟩
theorem MineR.lt {α : Type} {E : (Nat → Prop) → World → List Value → α → Prop} {sz : Nat} {e : TypeId} {base : Nat} {S : Nat → Prop} {W : World} {v : Value} {xs : List α} (h : MineR E sz e base S W v xs) : ∀ k, v.ownBlock = some k → k < W.heap.size := by
  obtain ⟨css, -, -, hown, -⟩ := h
  intro k hk
  rcases hown.2 with ⟨rfl, -⟩ | ⟨g, cap, cur, rfl, -, hh, -⟩
  · cases hk
  · obtain rfl : g = k := by simpa [Value.ownBlock] using hk
    exact (Array.getElem?_eq_some_iff.1 hh).1
theorem MineR.ge {α : Type} {E : (Nat → Prop) → World → List Value → α → Prop} {sz : Nat} {e : TypeId} {base : Nat} {S : Nat → Prop} {W : World} {v : Value} {xs : List α} (h : MineR E sz e base S W v xs) : ∀ k, v.ownBlock = some k → base ≤ k := by
  obtain ⟨css, -, -, hown, -⟩ := h
  intro k hk
  rcases hown.2 with ⟨rfl, -⟩ | ⟨g, cap, cur, rfl, hg, -⟩
  · cases hk
  · obtain rfl : g = k := by simpa [Value.ownBlock] using hk
    exact hg
theorem MineR.mov {α : Type} {E : (Nat → Prop) → World → List Value → α → Prop} (hE : Lasts E) {sz : Nat} {e : TypeId} {base : Nat} {S : Nat → Prop} {W W' : World} {v : Value} {xs : List α} (h : MineR E sz e base S W v xs) (hb : Below W.heap.size W W') : MineR E sz e base S W' v xs := by
  have hlt := h.lt
  obtain ⟨css, h1, h2, hown, h3⟩ := h
  refine ⟨css, h1, h2, ⟨hown.1, ?_⟩, fun i hi hj => hE.step (fun _ _ q => q) (fun k hk _ => hb.block k hk) (h3 i hi hj)⟩
  rcases hown.2 with q | ⟨g, cap, cur, rfl, hg, hh, r⟩
  · exact .inl q
  · exact .inr ⟨g, cap, cur, rfl, hg, by rw [hb.block g (Array.getElem?_eq_some_iff.1 hh).1]; exact hh, r⟩
theorem MineR.row {α : Type} {E : (Nat → Prop) → World → List Value → α → Prop} (hE : Lasts E) {sz : Nat} (hz : 0 < sz) {e : TypeId} {base : Nat} {S : Nat → Prop} {W : World} {v : Value} {xs : List α} (h : MineR E sz e base S W v xs) (hl : xs.length ≤ lim) (S' : Nat → Prop) (hS : ∀ k, S' k → S k ∧ v.ownBlock ≠ some k) :
    ∃ A c, v = .slice A xs.length c ∧ xs.length ≤ c ∧ Row E sz S' W A xs ∧ (∀ ad, A = some ad → base ≤ ad.block) := by
  obtain ⟨css, h1, h2, hown, h3⟩ := h
  rcases hown.2 with ⟨rfl, h0⟩ | ⟨g, cap, cur, rfl, hg, hh, hn, hcap, hsz, htake⟩
  · have hnil := List.eq_nil_of_length_eq_zero h0
    subst hnil
    exact ⟨none, 0, rfl, Nat.le_refl _, ⟨Nat.zero_le _, fun i hi => absurd hi (by simp)⟩, fun ad q => by cases q⟩
  · refine ⟨_, _, rfl, hn, ⟨hl, fun i hi => ?_⟩, fun ad q => by obtain rfl := Option.some.inj q; exact hg⟩
    have hj : i < css.length := by omega
    refine ⟨⟨g, 0, none⟩, css[i], rfl, rfl, fun q => (hS _ q).2 (by simp [Value.ownBlock]), h2 _ (List.getElem_mem hj), fun j u hu => ?_, hE.step (fun k _ hn q => hn (.inl (hS k q).1)) (fun _ _ _ => rfl) (h3 i hi hj)⟩
    have hjs : j < sz := by
      have := (List.getElem?_eq_some_iff.1 hu).1
      rw [h2 _ (List.getElem_mem hj)] at this
      exact this
    have hb : Blk W g cur e := hh
    rw [Nat.zero_add, hb.cell]
    have hlt : i * sz + j < xs.length * sz := by
      have := Nat.mul_le_mul_right sz (show i + 1 ≤ xs.length from hi)
      rw [Nat.add_mul] at this
      omega
    have : cur.toList[i * sz + j]? = css[i][j]? := by
      rw [← flat_at hz h2 hj hjs, ← htake, List.getElem?_take, if_pos hlt]
    rw [← hu, ← this]
    simp

theorem MineR.rowS {α : Type} {E : (Nat → Prop) → World → List Value → α → Prop} (hE : Lasts E) {sz : Nat} (hz : 0 < sz) {e : TypeId} {base : Nat} {S : Nat → Prop} {W : World} {A : Option Addr} {n c : Nat} {xs : List α} (h : MineR E sz e base S W (.slice A n c) xs) (hl : xs.length ≤ lim) (S' : Nat → Prop) (hS : ∀ k, S' k → S k ∧ (Value.slice A n c).ownBlock ≠ some k) : Row E sz S' W A xs := by
  obtain ⟨A', c', e', -, r, -⟩ := h.row hE hz hl S' hS
  cases e'
  exact r
theorem callsZ {f : Nat} {args : Array Value} {W : World} {post : Ending → World → Prop} {cs : Array Value} {t : TypeId} (gz : Nat) (hz : Blk W gz cs t) (h : Blk W gz cs t → Calls Tryz.prog f args W post) : Calls Tryz.prog f args W post := h hz

/-- A row, wherever it lies; what its elements lead to keeps clear of S. -/
def RowX {α : Type} (E : (Nat → Prop) → World → List Value → α → Prop) (sz : Nat) (S : Nat → Prop) (W : World) (B : Option Addr) (us : List α) : Prop :=
  ∀ i, (hi : i < us.length) → ∃ ad cs, B = some ad ∧ ad.spot = none ∧ cs.length = sz ∧ (∀ j u, cs[j]? = some u → W.cell? ⟨ad.block, ad.off + (i * sz + j), none⟩ = some u) ∧ E S W cs us[i]
theorem Row.toX {α : Type} {E : (Nat → Prop) → World → List Value → α → Prop} {sz : Nat} {S : Nat → Prop} {W : World} {B : Option Addr} {us : List α} (h : Row E sz S W B us) : RowX E sz S W B us := fun i hi => by
  obtain ⟨ad, cs, q1, q2, q3, q4, q5, q6⟩ := h.2 i hi
  exact ⟨ad, cs, q1, q2, q4, q5, q6⟩
theorem RowX.mov {α : Type} {E : (Nat → Prop) → World → List Value → α → Prop} (hE : Lasts E) {sz : Nat} {S S' : Nat → Prop} {W W' : World} {B : Option Addr} {us : List α} (h : RowX E sz S W B us) (hb : Below W.heap.size W W') (hS : ∀ k, S' k → S k) : RowX E sz S' W' B us := fun i hi => by
  obtain ⟨ad, cs, q1, q2, q3, q4, q5⟩ := h i hi
  exact ⟨ad, cs, q1, q2, q3, fun j u hu => cell_mov (q4 j u hu) hb, hE.step (fun k _ hn q => hn (hS k q)) (fun k hk _ => hb.block k hk) q5⟩
theorem rowX_one {α : Type} {E : (Nat → Prop) → World → List Value → α → Prop} {S : Nat → Prop} {W : World} {g sz : Nat} {cs : Array Value} {t : TypeId} {x : α} (h : Blk W g cs t) (hz : cs.size = sz) (hE : E S W cs.toList x) : RowX E sz S W (some ⟨g, 0, none⟩) [x] := fun i hi => by
  have : i = 0 := by simp at hi; omega
  subst this
  exact ⟨⟨g, 0, none⟩, cs.toList, rfl, rfl, by simpa using hz, fun j u hu => by rw [Nat.zero_mul, Nat.zero_add, Nat.zero_add, h.cell]; simpa using hu, hE⟩
/-- 'append(v, us...)': its run. -/
theorem run_append_rows {α : Type} {E : (Nat → Prop) → World → List Value → α → Prop} (hE : Lasts E) (hone : ∀ {S w cs x}, E S w cs x → ∀ u ∈ cs, u.oneCell' = true) {sz bys : Nat} {T e : TypeId} (hT : Tryz.prog.underlying T = some (.slice e)) (z : Value)
    (hinfo : (Tryz.prog.info? e).map (fun i => (i.zero, i.size, i.bytes)) = some (some z, sz, bys)) (hzs : z.cells.size = sz) (hz : 0 < sz) (hby : bys ≤ 400) (ty : TypeId) (base : Nat) (S : Nat → Prop) {W : World} {v : Value} {xs us : List α} {B : Option Addr} {c : Nat}
    (HM : MineR E sz e base S W v xs) (hr : RowX E sz (fun k => S k ∨ v.ownBlock = some k) W B us) (hlim : xs.length + us.length ≤ 2097152) (hbase : base ≤ W.heap.size) :
    ∃ v1 w1, (Builtin.append_ #[T, T] ty #[v, .slice B us.length c]).run Tryz.prog W = .ok v1 w1 ∧ MineR E sz e base S w1 v1 (xs ++ us) ∧ W.grownBy w1 v.ownBlock ∧ (v1.ownBlock = v.ownBlock ∨ v1.ownBlock = some W.heap.size) := by
  have HM0 := HM
  have hlt := HM.lt
  obtain ⟨css, h1, h2, hown, h3⟩ := HM
  obtain ⟨i0, hi, hzz⟩ := Option.map_eq_some_iff.1 hinfo
  simp only [Prod.mk.injEq] at hzz
  obtain ⟨hz0, hz1, hz2⟩ := hzz
  have hmul : (xs.length + us.length) * bys ≤ 2097152 * 400 := Nat.mul_le_mul hlim hby
  rcases Nat.eq_zero_or_pos us.length with h0 | h0
  · have hnil := List.eq_nil_of_length_eq_zero h0
    subst hnil
    have hsame : ∀ w' : World, ∀ v' : Value, w'.ownsRow base e sz v' xs.length css.flatten → W.grownBy w' v.ownBlock → (v'.ownBlock = v.ownBlock ∨ v'.ownBlock = some W.heap.size) → MineR E sz e base S w' v' (xs ++ []) := fun w' v' k2 k3 k5 => by
      rw [List.append_nil]
      refine ⟨css, h1, h2, k2, fun i hi hj => hE.step (fun k hk hn q => ?_) (fun k hk hn => k3.block k hk (fun q => hn (.inr q.symm))) (h3 i hi hj)⟩
      rcases q with q | q
      · exact hn (.inl q)
      · rcases k5 with e' | e'
        · exact hn (.inr (e' ▸ q))
        · rw [e'] at q; cases q; omega
    cases B with
    | none => exact ⟨v, W, run_append_none T base e i0 sz hT hi ty v xs.length css.flatten hown c, by rw [List.append_nil]; exact HM0, ⟨rfl, rfl, rfl, Nat.le_refl _, fun _ _ _ => rfl⟩, .inl rfl⟩
    | some ad =>
      obtain ⟨v', w', hrun, k2, k3, _, k5⟩ := run_append_own_at (P := Tryz.prog) W base T ty e i0 z sz bys hT hi hz0 hz1 hz2 hzs hz v xs.length css.flatten hown ad 0 c [] (by simp) (by simp) (by simp) (by simp only [maxLen]; omega) (by simp only [List.length_nil] at hmul; omega) hbase
      rw [Nat.add_zero, List.append_nil] at k2
      exact ⟨v', w', hrun, hsame w' v' k2 k3 k5, k3, k5⟩
  · have each : ∀ i, i < us.length → ∃ cs : List Value, ∀ (hi : i < us.length), cs.length = sz ∧ (∀ ad, B = some ad → ∀ j u, cs[j]? = some u → W.cell? (ad.add (i * sz + j)) = some u) ∧ E (fun k => S k ∨ v.ownBlock = some k) W cs us[i] := by
      intro i hi
      obtain ⟨ad, cs, q1, q2, q4, q5, q6⟩ := hr i hi
      refine ⟨cs, fun _ => ⟨q4, fun ad' e' j u hu => ?_, q6⟩⟩
      rw [q1] at e'
      obtain rfl := Option.some.inj e'
      obtain ⟨b, o, sp⟩ := ad
      dsimp only at q2
      subst q2
      rw [add_plain]
      exact q5 j u hu
    obtain ⟨dss, hcl, hcs⟩ := build us.length each
    have hlen : ∀ c ∈ dss, c.length = sz := fun c hc => by
      obtain ⟨i, hi, rfl⟩ := List.getElem_of_mem hc
      exact (hcs i hi (by omega)).1
    obtain ⟨ad, cs0, hA, _⟩ := hr 0 h0
    subst hA
    have hnews : ∀ k u, dss.flatten[k]? = some u → W.cell? (ad.add k) = some u := fun k u hu => by
      rw [flat_get hz dss hlen] at hu
      obtain ⟨cs, hc1, hc2⟩ := Option.bind_eq_some_iff.1 hu
      obtain ⟨hlt, rfl⟩ := List.getElem?_eq_some_iff.1 hc1
      have := (hcs _ hlt (by omega)).2.1 ad rfl _ u hc2
      rw [Nat.div_add_mod' k sz] at this
      exact this
    have hall : ∀ u ∈ dss.flatten, u.oneCell' = true := fun u hu => by
      obtain ⟨cs, hc1, hc2⟩ := List.mem_flatten.1 hu
      obtain ⟨i, hi, rfl⟩ := List.getElem_of_mem hc1
      exact hone (hcs i hi (by omega)).2.2 u hc2
    obtain ⟨v', w', hrun, k2, k3, _, k5⟩ := run_append_own_at (P := Tryz.prog) W base T ty e i0 z sz bys hT hi hz0 hz1 hz2 hzs hz v xs.length css.flatten hown ad us.length c dss.flatten (by rw [flat_len dss hlen, hcl]) hnews hall (by simp only [maxLen]; omega) (by omega) hbase
    refine ⟨v', w', hrun, ⟨css ++ dss, by rw [List.length_append, List.length_append, h1, hcl], fun c hc => ?_, by rw [List.flatten_append, List.length_append]; exact k2, fun i hi hj => ?_⟩, k3, k5⟩
    · rcases List.mem_append.1 hc with hc | hc
      · exact h2 c hc
      · exact hlen c hc
    · have key : ∀ (cs : List Value) (x : α), E (fun k => S k ∨ v.ownBlock = some k) W cs x → E (fun k => S k ∨ v'.ownBlock = some k) w' cs x := fun cs x hx => by
        refine hE.step (fun k hk hn q => ?_) (fun k hk hn => k3.block k hk (fun q => hn (.inr q.symm))) hx
        rcases q with q | q
        · exact hn (.inl q)
        · rcases k5 with e' | e'
          · exact hn (.inr (e' ▸ q))
          · rw [e'] at q; cases q; omega
      by_cases hlt2 : i < xs.length
      · have hq2 : i < css.length := by omega
        rw [List.getElem_append_left hlt2, List.getElem_append_left hq2]
        exact key _ _ (h3 i hlt2 hq2)
      · have hi2 : i - xs.length < us.length := by simp at hi; omega
        have hq2 : i - xs.length < dss.length := by omega
        have e1 : (xs ++ us)[i] = us[i - xs.length] := List.getElem_append_right (by omega)
        have e2 : (css ++ dss)[i] = dss[i - xs.length] := by
          rw [List.getElem_append_right (by omega)]
          simp only [h1]
        rw [e1, e2]
        exact key _ _ (hcs _ hq2 hi2).2.2

theorem step_append_rows {α : Type} {E : (Nat → Prop) → World → List Value → α → Prop} (hE : Lasts E) (hone : ∀ {S w cs x}, E S w cs x → ∀ u ∈ cs, u.oneCell' = true) {sz bys : Nat} (T : TypeId) {e : TypeId} (hT : Tryz.prog.underlying T = some (.slice e)) (z : Value)
    (hinfo : (Tryz.prog.info? e).map (fun i => (i.zero, i.size, i.bytes)) = some (some z, sz, bys)) (hzs : z.cells.size = sz) (hz : 0 < sz) (hby : bys ≤ 400) {ops : Array Oper} {o : Oper} {a : Act} {K : Act → World → Prop} {Q : Exit → Act → World → Prop} {EP : Prop} (hgd : o.guard = none) (s x : Operand)
    (ho : o.op = .call { callee := .builtin .append, args := #[s, x], argTypes := #[T, T] }) (base : Nat) (S : Nat → Prop) {W : World} (v : Value) (xs us : List α) (B : Option Addr) (c : Nat) (hs : a.eval s = v) (hx : a.eval x = .slice B us.length c)
    (HM : MineR E sz e base S W v xs) (hr : RowX E sz (fun k => S k ∨ v.ownBlock = some k) W B us) (hlim : xs.length + us.length ≤ 2097152) (hbase : base ≤ W.heap.size)
    (h : ∀ v1 w1, MineR E sz e base S w1 v1 (xs ++ us) → W.grownBy w1 v.ownBlock → (v1.ownBlock = v.ownBlock ∨ v1.ownBlock = some W.heap.size) → K (a.put o.dst v1) w1) :
    if Region.wanted o (yielded ops a.tmps) = true then Oper.wp Tryz.prog o a W K Q else EP := by
  have hw : Region.wanted o (yielded ops a.tmps) = true := by simp [Region.wanted, hgd]
  rw [if_pos hw]
  obtain ⟨v1, w1, hrun, h2, h3, h4⟩ := run_append_rows hE hone hT z hinfo hzs hz hby o.type base S HM hr hlim hbase (c := c)
  unfold Oper.wp execOp
  simp only [ho, resolve, invoke, builtin, Sem.run_bind, Sem.run_pure, Result.andThen_ok, List.map_toArray, List.map_cons, List.map_nil, hs, hx, hrun]
  exact h v1 w1 h2 h3 h4
theorem grown_belowR {W w1 : World} (h : W.grownBy w1 (Value.slice none 0 0).ownBlock) : Below W.heap.size W w1 := ⟨h.os, h.tape, h.output, h.size, fun k hk => h.block k hk (by simp [Value.ownBlock])⟩
/-- The first append, out of an old row; the second, to what the first made. -/
theorem step_rows1 {α : Type} {E : (Nat → Prop) → World → List Value → α → Prop} (hE : Lasts E) (hone : ∀ {S w cs x}, E S w cs x → ∀ u ∈ cs, u.oneCell' = true) {sz bys : Nat} (T : TypeId) {e : TypeId} (hT : Tryz.prog.underlying T = some (.slice e)) (z : Value)
    (hinfo : (Tryz.prog.info? e).map (fun i => (i.zero, i.size, i.bytes)) = some (some z, sz, bys)) (hzs : z.cells.size = sz) (hz : 0 < sz) (hby : bys ≤ 400) {ops : Array Oper} {o : Oper} {a : Act} {K : Act → World → Prop} {Q : Exit → Act → World → Prop} {EP : Prop} (hgd : o.guard = none) (x : Operand)
    (ho : o.op = .call { callee := .builtin .append, args := #[.const (.slice none 0 0), x], argTypes := #[T, T] }) (wr : World) (S : Nat → Prop) {W : World} (us : List α) (B : Option Addr) (c : Nat) (hx : a.eval x = .slice B us.length c)
    (hb : Below wr.heap.size wr W) (hr : RowX E sz S wr B us) (hlim : us.length ≤ 1048576)
    (h : ∀ v1 w1, MineR E sz e wr.heap.size S w1 v1 us → Below wr.heap.size wr w1 → Below W.heap.size W w1 → (v1.ownBlock = none ∨ v1.ownBlock = some W.heap.size) → K (a.put o.dst v1) w1) :
    if Region.wanted o (yielded ops a.tmps) = true then Oper.wp Tryz.prog o a W K Q else EP :=
  step_append_rows hE hone T hT z hinfo hzs hz hby hgd (.const (.slice none 0 0)) x ho wr.heap.size S (.slice none 0 0) [] us B c rfl hx MineR.nil (hr.mov hE hb (fun k q => by rcases q with q | q; exact q; cases q)) (by simp only [List.length_nil]; omega) hb.size
    fun v1 w1 h1 h2 h3 => h v1 w1 h1 (bl_then hb (grown_belowR h2)) (grown_belowR h2) h3
theorem step_rows2 {α : Type} {E : (Nat → Prop) → World → List Value → α → Prop} (hE : Lasts E) (hone : ∀ {S w cs x}, E S w cs x → ∀ u ∈ cs, u.oneCell' = true) {sz bys : Nat} (T : TypeId) {e : TypeId} (hT : Tryz.prog.underlying T = some (.slice e)) (z : Value)
    (hinfo : (Tryz.prog.info? e).map (fun i => (i.zero, i.size, i.bytes)) = some (some z, sz, bys)) (hzs : z.cells.size = sz) (hz : 0 < sz) (hby : bys ≤ 400) {ops : Array Oper} {o : Oper} {a : Act} {K : Act → World → Prop} {Q : Exit → Act → World → Prop} {EP : Prop} (hgd : o.guard = none) (s x : Operand)
    (ho : o.op = .call { callee := .builtin .append, args := #[s, x], argTypes := #[T, T] }) (wr : World) (S : Nat → Prop) {W : World} (v : Value) (xs us : List α) (B : Option Addr) (c : Nat) (hs : a.eval s = v) (hx : a.eval x = .slice B us.length c)
    (HM : MineR E sz e wr.heap.size S W v xs) (hb : Below wr.heap.size wr W) (hr : RowX E sz (fun k => S k ∨ v.ownBlock = some k) W B us) (hlim : xs.length + us.length ≤ 2097152)
    (h : ∀ v2 w2, MineR E sz e wr.heap.size S w2 v2 (xs ++ us) → Below wr.heap.size wr w2 → (v2.ownBlock = v.ownBlock ∨ v2.ownBlock = some W.heap.size) → W.grownBy w2 v.ownBlock → K (a.put o.dst v2) w2) :
    if Region.wanted o (yielded ops a.tmps) = true then Oper.wp Tryz.prog o a W K Q else EP :=
  step_append_rows hE hone T hT z hinfo hzs hz hby hgd s x ho wr.heap.size S v xs us B c hs hx HM hr hlim hb.size
    fun v2 w2 h1 h2 h3 => h v2 w2 h1 (bl_grown hb h2 (fun k e => HM.ge k e)) h3 h2
/-- A row of one, in a block just made. -/
theorem row_oneS {α : Type} {E : (Nat → Prop) → World → List Value → α → Prop} {S : Nat → Prop} {W : World} {g sz : Nat} {cs : Array Value} {t : TypeId} {x : α} (h : Blk W g cs t) (hg : ¬ S g) (hz : cs.size = sz) (hE : E S W cs.toList x) : Row E sz S W (some ⟨g, 0, none⟩) [x] :=
  ⟨by simp [lim], fun i hi => by
    have : i = 0 := by simp at hi; omega
    subst this
    exact ⟨⟨g, 0, none⟩, cs.toList, rfl, rfl, hg, by simpa using hz, fun j u hu => by rw [Nat.zero_mul, Nat.zero_add, Nat.zero_add, h.cell]; simpa using hu, hE⟩⟩
theorem one_F {S : Nat → Prop} {w : World} {cs : List Value} {x : Fu} (h : eF S w cs x) : ∀ u ∈ cs, u.oneCell' = true := by
  obtain ⟨A, a, B, b, C, c, D, d, E, e, F, f, G, g, rfl, -⟩ := h
  intro u hu
  simp only [List.mem_cons, List.not_mem_nil, or_false] at hu
  rcases hu with rfl | rfl | rfl | rfl | rfl | rfl | rfl | rfl | rfl | rfl | rfl | rfl | rfl <;> rfl
theorem one_K {S : Nat → Prop} {w : World} {cs : List Value} {x : Cs} (h : eK S w cs x) : ∀ u ∈ cs, u.oneCell' = true := by
  obtain ⟨A, a, B, b, C, c, D, d, E, e, rfl, -⟩ := h
  intro u hu
  simp only [List.mem_cons, List.not_mem_nil, or_false] at hu
  rcases hu with rfl | rfl | rfl | rfl | rfl | rfl | rfl | rfl | rfl <;> rfl
theorem info_F : (Tryz.prog.info? 39).map (fun i => (i.zero, i.size, i.bytes)) = some (some (.agg #[.string { data := #[] }, .slice none 0 0, .slice none 0 0, .slice none 0 0, .int .i64 0, .int .i64 0, .slice none 0 0, .slice none 0 0, .int .i64 0, .int .i64 0, .slice none 0 0, .bool false, .slice none 0 0]), 13, 224) := by kernel_rfl
theorem info_K : (Tryz.prog.info? 42).map (fun i => (i.zero, i.size, i.bytes)) = some (some (.agg #[.slice none 0 0, .slice none 0 0, .int .i64 0, .int .i64 0, .slice none 0 0, .slice none 0 0, .int .i64 0, .int .i64 0, .slice none 0 0]), 9, 152) := by kernel_rfl
end Go.Proofs.YtbmmdfehhhgkcaaGreat
namespace Go.Proofs.YtbmmdfehhhgkcaaGreat
open Go.RowKit Go.Shelf
set_option linter.unusedVariables false
set_option linter.unusedSimpArgs false

def addC (c : Cs) (f : Fu) : Fu := { f with cl := f.cl ++ [c] }
theorem fitsV_app (k : Nat) (m : Tm) : ∀ (l r : List Cs), fitsV k m (l ++ r) = fitsV k m l ++ fitsV k m r
  | [], r => by rw [fitsV, List.nil_append, List.nil_append]
  | c :: l, r => by
    rw [List.cons_append, fitsV, fitsV, fitsV_app k m l r]
    split <;> rfl
theorem findL_app {del : List Md} {theta : List Tm} {x : Cs × List Tm} : ∀ {l r : List (Cs × List Tm × Int)}, findL del theta l = .ok x → findL del theta (l ++ r) = .ok x
  | [], r, h => by rw [findL] at h; cases h
  | (c, rho, e) :: l, r, h => by
    rw [List.cons_append, findL]
    rw [findL] at h
    split at h
    · rename_i he
      rw [if_pos he]
      split at h
      · cases h
      · rename_i own ho
        split at h
        · rename_i hs
          rw [if_pos hs]
          exact h
        · rename_i hs
          rw [if_neg hs]
          exact findL_app h
    · cases h
theorem findV_add (c : Cs) {f : Fu} {theta : List Tm} {m : Tm} {x : Cs × List Tm} (h : findV f theta m = .ok x) : findV (addC c f) theta m = .ok x := by
  unfold findV addC at *
  dsimp only
  rw [fitsV_app]
  exact findL_app h
def UpOk (ev ev' : Int → List Tm → Tm → Int → Except Int Tm × Int) : Prop := ∀ no theta m s t s', ev no theta m s = (.ok t, s') → ev' no theta m s = (.ok t, s')
theorem callV_add {fs : List Fu} {ev ev' : Int → List Tm → Tm → Int → Except Int Tm × Int} (h : UpOk ev ev') (c : Cs) {x : Cl} {rho : List Tm} {s : Int} {t : Tm} {s' : Int} (q : callV fs ev x rho s = (.ok t, s')) : callV (fs.map (addC c)) ev' x rho s = (.ok t, s') := by
  unfold callV at q ⊢
  rw [List.length_map]
  split
  · rename_i h0
    rw [if_pos h0] at q
    cases q
  · rename_i h0
    rw [if_neg h0] at q
    rw [List.getElem?_map]
    cases hg : fs[x.f.toNat]? with
    | none => rw [hg] at q; cases q
    | some g =>
      rw [hg] at q
      dsimp only [Option.map] at q ⊢
      show (match AllV x.th rho ((sizesV g.del).map fun n => wrap64 (n + (x.ext.length : Int))) with
        | .error e => (Except.error e, s)
        | .ok theta => match FillV rho x.arg (wrap64 ((x.ext.length : Int) + (g.psi.length : Int))) with
          | .error e => (.error e, s)
          | .ok arg => ev' x.f theta arg s) = _
      split
      · rename_i e he
        rw [he] at q
        cases q
      · rename_i th hth
        rw [hth] at q
        dsimp only at q
        split
        · rename_i e he
          rw [he] at q
          cases q
        · rename_i ar har
          rw [har] at q
          exact h _ _ _ _ _ _ q
theorem callsV_add {fs : List Fu} {ev ev' : Int → List Tm → Tm → Int → Except Int Tm × Int} (h : UpOk ev ev') (c : Cs) : ∀ {l : List Cl} {rho : List Tm} {s : Int} {r : List Tm} {s' : Int}, callsV fs ev l rho s = (.ok r, s') → callsV (fs.map (addC c)) ev' l rho s = (.ok r, s')
  | [], rho, s, r, s', q => by
    rw [callsV] at q ⊢
    exact q
  | x :: l, rho, s, r, s', q => by
    rw [callsV] at q ⊢
    cases hc : callV fs ev x rho s with
    | mk z s2 =>
      rw [hc] at q
      cases z with
      | error e => cases q
      | ok t =>
        rw [callV_add h c hc]
        exact callsV_add h c q
theorem evalV_add (c : Cs) (fs : List Fu) : ∀ k, UpOk (evalV fs k) (evalV (fs.map (addC c)) k)
  | 0, no, theta, m, s, t, s', q => by
    rw [evalV] at q
    split at q <;> cases q
  | k + 1, no, theta, m, s, t, s', q => by
    have ih := evalV_add c fs k
    rw [evalV] at q ⊢
    rw [List.length_map]
    split at q
    · cases q
    · rename_i h0
      rw [if_neg h0]
      split at q
      · cases q
      · rename_i h1
        rw [if_neg h1, List.getElem?_map]
        cases hf : fs[no.toNat]? with
        | none => rw [hf] at q; cases q
        | some f =>
          rw [hf] at q
          dsimp only [Option.map] at q ⊢
          cases hfd : findV f theta m with
          | error e => rw [hfd] at q; cases q
          | ok p =>
            obtain ⟨d, rho⟩ := p
            rw [hfd] at q
            rw [findV_add c hfd]
            dsimp only at q ⊢
            cases hc : callsV fs (evalV fs k) d.cs rho (s + 1) with
            | mk z s2 =>
              rw [hc] at q
              cases z with
              | error e => cases q
              | ok all =>
                rw [callsV_add ih c hc]
                exact q
/-- A function behind all others. -/
def Up2 (ev ev' : Int → List Tm → Tm → Int → Except Int Tm × Int) : Prop := ∀ no theta m s, (ev no theta m s).1 ≠ .error 2 → ev' no theta m s = ev no theta m s
theorem get_app {fs : List Fu} {g : Fu} {no : Int} (h : ¬ (no < 0 ∨ (fs.length : Int) ≤ no)) : (fs ++ [g])[no.toNat]? = fs[no.toNat]? := List.getElem?_append_left (by omega)
theorem in_app {fs : List Fu} {g : Fu} {no : Int} (h : ¬ (no < 0 ∨ (fs.length : Int) ≤ no)) : ¬ (no < 0 ∨ (((fs ++ [g]).length : Nat) : Int) ≤ no) := by
  rw [List.length_append, List.length_singleton]
  omega
theorem callV_more {fs : List Fu} {g : Fu} {ev ev' : Int → List Tm → Tm → Int → Except Int Tm × Int} (h : Up2 ev ev') {x : Cl} {rho : List Tm} {s : Int} (q : (callV fs ev x rho s).1 ≠ .error 2) : callV (fs ++ [g]) ev' x rho s = callV fs ev x rho s := by
  unfold callV at q ⊢
  by_cases h0 : x.f < 0 ∨ (fs.length : Int) ≤ x.f
  · rw [if_pos h0] at q
    exact absurd rfl q
  · rw [if_neg h0] at q
    rw [if_neg (in_app h0), if_neg h0, get_app h0]
    cases hg : fs[x.f.toNat]? with
    | none => rfl
    | some g' =>
      rw [hg] at q
      dsimp only at q ⊢
      cases hth : AllV x.th rho ((sizesV g'.del).map fun n => wrap64 (n + (x.ext.length : Int))) with
      | error e => rfl
      | ok th =>
        rw [hth] at q
        dsimp only at q ⊢
        cases har : FillV rho x.arg (wrap64 ((x.ext.length : Int) + (g'.psi.length : Int))) with
        | error e => rfl
        | ok ar =>
          rw [har] at q
          exact h _ _ _ _ q
theorem callsV_more {fs : List Fu} {g : Fu} {ev ev' : Int → List Tm → Tm → Int → Except Int Tm × Int} (h : Up2 ev ev') : ∀ {l : List Cl} {rho : List Tm} {s : Int}, (callsV fs ev l rho s).1 ≠ .error 2 → callsV (fs ++ [g]) ev' l rho s = callsV fs ev l rho s
  | [], rho, s, _ => by rw [callsV, callsV]
  | x :: l, rho, s, q => by
    rw [callsV] at q ⊢
    have hc : (callV fs ev x rho s).1 ≠ .error 2 := fun e => by
      generalize callV fs ev x rho s = z at e q
      obtain ⟨r, s'⟩ := z
      dsimp only at e
      subst e
      exact q rfl
    rw [callV_more h hc]
    rw [callsV]
    generalize callV fs ev x rho s = z at q ⊢
    obtain ⟨r, s'⟩ := z
    cases r with
    | error e => rfl
    | ok t => exact callsV_more h q
theorem evalV_more (fs : List Fu) (g : Fu) : ∀ k, Up2 (evalV fs k) (evalV (fs ++ [g]) k)
  | 0, no, theta, m, s, q => by
    rw [evalV] at q ⊢
    rw [evalV]
    by_cases h0 : no < 0 ∨ (fs.length : Int) ≤ no
    · rw [if_pos h0] at q
      exact absurd rfl q
    · rw [if_neg (in_app h0), if_neg h0]
  | k + 1, no, theta, m, s, q => by
    have ih := evalV_more fs g k
    rw [evalV] at q ⊢
    rw [evalV]
    by_cases h0 : no < 0 ∨ (fs.length : Int) ≤ no
    · rw [if_pos h0] at q
      exact absurd rfl q
    · rw [if_neg h0] at q
      rw [if_neg (in_app h0), if_neg h0]
      split
      · rfl
      · rename_i h1
        rw [if_neg h1] at q
        rw [get_app h0]
        split
        · rfl
        · rename_i f hf
          rw [hf] at q
          dsimp only at q
          split
          · rfl
          · rename_i d rho hfd
            rw [hfd] at q
            dsimp only at q
            have hc : (callsV fs (evalV fs k) d.cs rho (s + 1)).1 ≠ .error 2 := fun e => by
              generalize callsV fs (evalV fs k) d.cs rho (s + 1) = z at e q
              obtain ⟨r, s'⟩ := z
              dsimp only at e
              subst e
              exact q rfl
            rw [callsV_more ih hc]
/-- With a light clause behind, functions are all right. -/
theorem addC_ok {f : Fu} {c : Cs} (h : FuOk f) (g : gK 1048576 c) (hl : clauseB c = true) : FuOk (addC c f) := by
  obtain ⟨⟨k1, k1'⟩, k2, k3, ⟨k4, k4'⟩, k5⟩ := g
  unfold clauseB at hl
  simp only [Bool.and_eq_true, decide_eq_true_eq] at hl
  obtain ⟨m1, m2, m3, m4, m5, m6⟩ := hl
  have lt : ∀ {t : Tm}, cnt t ≤ 1048576 → lightB t 300 60 = true → (mayB t = true → hB 1099511627776 t) ∧ cnt t ≤ 300 := fun h1 h2 => ⟨light_hB h2, by have := light_cnt h1 h2; omega⟩
  have hin : ∀ {d : Cs}, d ∈ (addC c f).cl → d ∈ f.cl ∨ d = c := fun hd => by
    rcases List.mem_append.1 hd with h | h
    · exact .inl h
    · exact .inr (List.mem_singleton.1 h)
  refine ⟨h.psi, h.phi, h.del, h.dctx, fun d hd => ?_, fun d hd t ht => ?_, fun d hd => ?_, fun d hd => ?_, fun d hd x hx => ?_⟩
  all_goals rcases hin hd with hd | rfl
  · exact h.cl d hd
  · exact ⟨⟨(lt k3.2 m3).1, k3.1, k3.2⟩, k1'⟩
  · exact h.th d hd t ht
  · have e := cntL_in ht
    have := lt (t := t) (by have := k2.2; omega) (lights_in m2 ht)
    exact ⟨this.1, by omega⟩
  · exact h.ncs d hd
  · exact k4'
  · exact h.r d hd
  · exact lt k5.2 m4
  · exact h.cs d hd x hx
  · obtain ⟨q1, q2, q3, q4⟩ := k4 x hx
    have hx2 := List.all_eq_true.1 m6 x hx
    unfold callB at hx2
    simp only [Bool.and_eq_true] at hx2
    obtain ⟨n1, n2, n3⟩ := hx2
    refine ⟨⟨fun t ht => ?_, lt q4.2 n3⟩, by have := lights_len n1; omega, q1⟩
    have e := cntL_in ht
    have := lt (t := t) (by have := q3.2; omega) (lights_in n2 ht)
    exact ⟨this.1, by omega⟩
theorem fus_add {fs : List Fu} {c : Cs} (h : FusOk fs) (g : gK 1048576 c) (hl : clauseB c = true) : FusOk (fs.map (addC c)) := fun f hf => by
  obtain ⟨f', hf', rfl⟩ := List.mem_map.1 hf
  exact addC_ok (h f' hf') g hl
theorem fus_more {fs : List Fu} {g : Fu} (h : FusOk fs) (hg : g ∈ fs) : FusOk (fs ++ [g]) := fun f hf => by
  rcases List.mem_append.1 hf with hf | hf
  · exact h f hf
  · rw [List.mem_singleton.1 hf]
    exact h g hg

/-- Some of the functions have the clause behind. -/
def Addd (y : Cs) (w : World) (g : Nat) (fs : List Fu) (k : Nat) : Prop :=
  ∃ cur, Blk w g cur 39 ∧ ∀ i, (hi : i < fs.length) → ∃ cs, cs.length = 13 ∧ eF (fun q => q = g) w cs (if i < k then addC y fs[i] else fs[i]) ∧ ∀ j, j < 13 → cur[i * 13 + j]? = cs[j]?
theorem Addd.start {y : Cs} {S : Nat → Prop} {w : World} {g : Nat} {fs : List Fu} {cur : Array Value} (hb : Blk w g cur 39) (hS : S g) (h : Copied eF 13 S w cur fs) : Addd y w g fs 0 := by
  refine ⟨cur, hb, fun i hi => ?_⟩
  obtain ⟨cs, h1, h2, h3⟩ := h i hi
  rw [if_neg (Nat.not_lt_zero _)]
  exact ⟨cs, h1, lasts_F.step (fun k _ hn q => hn (q ▸ hS)) (fun _ _ _ => rfl) h2, h3⟩
theorem Addd.done {y : Cs} {w : World} {g : Nat} {fs : List Fu} (h : Addd y w g fs fs.length) (hl : fs.length ≤ lim) : Row eF 13 (fun _ => False) w (some ⟨g, 0, none⟩) (fs.map (addC y)) := by
  obtain ⟨cur, hb, hc⟩ := h
  refine ⟨by rw [List.length_map]; exact hl, fun i hi => ?_⟩
  rw [List.length_map] at hi
  obtain ⟨cs, h1, h2, h3⟩ := hc i hi
  rw [if_pos hi] at h2
  refine ⟨⟨g, 0, none⟩, cs, rfl, rfl, fun q => q, h1, fun j u hu => ?_, ?_⟩
  · rw [Nat.zero_add, hb.cell]
    have hj : j < 13 := by have := (List.getElem?_eq_some_iff.1 hu).1; omega
    rw [h3 j hj]
    exact hu
  · rw [List.getElem_map]
    exact lasts_F.step (fun _ _ _ q => q) (fun _ _ _ => rfl) h2
theorem Addd.next {y : Cs} {wr wb : World} {g : Nat} {fs : List Fu} {i : Nat} (hi : i < fs.length) (h : Addd y wr g fs i) (hb : Below wr.heap.size wr wb) {G2 : Option Addr} {c2 : Nat} (hc2 : (fs[i].cl ++ [y]).length ≤ c2) (hrow : Row eK 9 (fun q => q = g) wb G2 (fs[i].cl ++ [y])) :
    Addd y (wb.setCell ⟨g, i * 13 + 12, none⟩ (.slice G2 (fs[i].cl ++ [y]).length c2)) g fs (i + 1) := by
  obtain ⟨cur, hblk, hall⟩ := h
  have hblk2 := hblk.mov hb
  have hfar : ∀ k, ¬ k = g → (wb.setCell ⟨g, i * 13 + 12, none⟩ (.slice G2 (fs[i].cl ++ [y]).length c2)).heap[k]? = wb.heap[k]? := fun k hk => Below.heap_setCell wb _ _ k hk
  refine ⟨_, hblk2.set _ _, fun k hk => ?_⟩
  obtain ⟨cs, h1, h2, h3⟩ := hall k hk
  by_cases hki : k = i
  · subst hki
    rw [if_neg (Nat.lt_irrefl _)] at h2
    rw [if_pos (Nat.lt_succ_self _)]
    have h2' : eF (fun q => q = g) (wb.setCell ⟨g, k * 13 + 12, none⟩ (.slice G2 (fs[k].cl ++ [y]).length c2)) cs fs[k] := lasts_F.step (fun _ _ q => q) (fun k' _ hn => hfar k' hn) (lasts_F.mov h2 hb)
    have hrow' : Row eK 9 (fun q => q = g) (wb.setCell ⟨g, k * 13 + 12, none⟩ (.slice G2 (fs[k].cl ++ [y]).length c2)) G2 (fs[k].cl ++ [y]) := hrow.step lasts_K (by decide) (fun _ _ q => q) (fun k' _ hn => hfar k' hn)
    obtain ⟨A, a, B, b, C, c, D, d, E, e, F, f, G, gg, rfl, q1, q2, q3, q4, q5, q6, q7⟩ := h2'
    refine ⟨_, rfl, ⟨A, a, B, b, C, c, D, d, E, e, F, f, G2, c2, rfl, q1, q2, q3, q4, q5, q6, hc2, hrow'⟩, fun j hj => ?_⟩
    have h4 := h3 j hj
    have hin : k * 13 + 12 < cur.size := by
      have h5 := h3 12 (by omega)
      exact (Array.getElem?_eq_some_iff.1 h5).1
    by_cases e2 : j = 12
    · subst e2
      simp [hin, addC]
    · rw [Array.getElem?_setIfInBounds_ne (by omega), h4]
      have : j < 12 := by omega
      match j, this with
      | 0, _ => rfl
      | 1, _ => rfl
      | 2, _ => rfl
      | 3, _ => rfl
      | 4, _ => rfl
      | 5, _ => rfl
      | 6, _ => rfl
      | 7, _ => rfl
      | 8, _ => rfl
      | 9, _ => rfl
      | 10, _ => rfl
      | 11, _ => rfl
  · have e3 : (k < i + 1) = (k < i) := by apply propext; omega
    refine ⟨cs, h1, ?_, fun j hj => ?_⟩
    · simp only [e3]
      exact lasts_F.step (fun _ _ q => q) (fun k' _ hn => hfar k' hn) (lasts_F.mov h2 hb)
    · rw [Array.getElem?_setIfInBounds_ne (by omega)]
      exact h3 j hj
end Go.Proofs.YtbmmdfehhhgkcaaGreat
namespace Go.Proofs.YtbmmdfehhhgkcaaGreat
open Go.RowKit Go.Shelf
set_option linter.unusedVariables false
set_option linter.unusedSimpArgs false

theorem eK_less {S S' : Nat → Prop} {w : World} {cs : List Value} {x : Cs} (hS : ∀ k, S' k → S k) (h : eK S w cs x) : eK S' w cs x := lasts_K.step (fun k _ hn q => hn (hS k q)) (fun _ _ _ => rfl) h
theorem eF_less {S S' : Nat → Prop} {w : World} {cs : List Value} {x : Fu} (hS : ∀ k, S' k → S k) (h : eF S w cs x) : eF S' w cs x := lasts_F.step (fun k _ hn q => hn (hS k q)) (fun _ _ _ => rfl) h
set_option maxRecDepth 100000 in
set_option maxHeartbeats 32000000 in
theorem EvalBehind_walk (w : World) (fs : List Fu) (A : Option Addr) (a : Nat) (hr : Row eF 13 (fun _ => False) w A fs) (_ : fs.length ≤ a) (gf : ∀ f ∈ fs, gF 1048576 f) (no : Int) (hn1 : -9223372036854775808 ≤ no) (hn2 : no ≤ 9223372036854775807) (theta : List Tm) (T : Option Addr) (ct : Nat) (hT : Reads (fun _ => False) w T theta) (hct : theta.length ≤ ct)
    (m : Tm) (M : Option Addr) (cm : Nat) (hM : Reads (fun _ => False) w M m.a) (hcm : m.a.length ≤ cm) (gm : gT 1048576 m) (fuel : Int) (hf1 : -9223372036854775808 ≤ fuel) (hf2 : fuel ≤ 9223372036854775807) (y : Cs) (cs : List Value) (hk : eK (fun _ => False) w cs y) (gk : gK 1048576 y) :
    Calls Tryz.prog 7 #[.slice A fs.length a, .int .i64 no, .slice T theta.length ct, .agg #[.int .i64 m.k, .int .i64 m.h, .slice M m.a.length cm], .int .i64 fuel, .agg cs.toArray] w fun e w' => e = .returned (.bool true) ∧ Below w.heap.size w w' := by
  have hk0 := hk
  obtain ⟨kA, ka, kB, kb, kC, kc, kD, kd, kE, ke, rfl, -, -, -, hcsr, -⟩ := hk
  have hlc := hcsr.2.1
  unfold lim at hlc
  clear hcsr
  obtain ⟨W0, hW0⟩ : ∃ W0, ((w.alloc (.cells #[.int .i64 m.k, .int .i64 m.h, .slice M m.a.length cm] 25)).alloc (.cells #[.slice kA y.ms.length ka, .slice kB y.th.length kb, .int .i64 y.p.k, .int .i64 y.p.h, .slice kC y.p.a.length kc, .slice kD y.cs.length kd, .int .i64 y.r.k, .int .i64 y.r.h, .slice kE y.r.a.length ke] 42)) = W0 := ⟨_, rfl⟩
  have hb0 : Below w.heap.size w W0 := hW0 ▸ bl_alloc (bl_alloc (Below.refl _ _) _) _
  have e0 : Blk W0 w.heap.size #[.int .i64 m.k, .int .i64 m.h, .slice M m.a.length cm] 25 := hW0 ▸ (Blk.nw _ _ _ _ rfl).al _
  have e1 : Blk W0 (w.heap.size + 1) #[.slice kA y.ms.length ka, .slice kB y.th.length kb, .int .i64 y.p.k, .int .i64 y.p.h, .slice kC y.p.a.length kc, .slice kD y.cs.length kd, .int .i64 y.r.k, .int .i64 y.r.h, .slice kE y.r.a.length ke] 42 := hW0 ▸ Blk.nw _ _ _ _ (by simp)
  have hlf := hr.1
  unfold lim at hlf
  have HB0 := Lib.hid hb0
  have E0 := Lib.hid e0
  have E1 := Lib.hid e1
  have EM : Hid (∀ W, Below W0.heap.size W0 W → W.cell? ⟨w.heap.size, 0, none⟩ = some (.int .i64 m.k) ∧ W.cell? ⟨w.heap.size, 1, none⟩ = some (.int .i64 m.h) ∧ W.cell? ⟨w.heap.size, 2, none⟩ = some (.slice M m.a.length cm)) := Lib.hid (fun W hb => ⟨(e0.mov hb).cell 0, (e0.mov hb).cell 1, (e0.mov hb).cell 2⟩)
  have EK : Hid (∀ W, Below W0.heap.size W0 W → W.cell? ⟨w.heap.size + 1, 0, none⟩ = some (.slice kA y.ms.length ka) ∧ W.cell? ⟨w.heap.size + 1, 1, none⟩ = some (.slice kB y.th.length kb) ∧ W.cell? ⟨w.heap.size + 1, 2, none⟩ = some (.int .i64 y.p.k) ∧ W.cell? ⟨w.heap.size + 1, 3, none⟩ = some (.int .i64 y.p.h) ∧ W.cell? ⟨w.heap.size + 1, 4, none⟩ = some (.slice kC y.p.a.length kc) ∧ W.cell? ⟨w.heap.size + 1, 5, none⟩ = some (.slice kD y.cs.length kd) ∧ W.cell? ⟨w.heap.size + 1, 6, none⟩ = some (.int .i64 y.r.k) ∧ W.cell? ⟨w.heap.size + 1, 7, none⟩ = some (.int .i64 y.r.h) ∧ W.cell? ⟨w.heap.size + 1, 8, none⟩ = some (.slice kE y.r.a.length ke)) := Lib.hid (fun W hb => ⟨(e1.mov hb).cell 0, (e1.mov hb).cell 1, (e1.mov hb).cell 2, (e1.mov hb).cell 3, (e1.mov hb).cell 4, (e1.mov hb).cell 5, (e1.mov hb).cell 6, (e1.mov hb).cell 7, (e1.mov hb).cell 8⟩)
  have HF := Lib.hid (fun (W : World) (hb : Below W0.heap.size W0 W) => LightFuns_calls fs A a W (hr.mov lasts_F (by decide) (bl_then hb0 hb)))
  have HC := Lib.hid (fun (W : World) (hb : Below W0.heap.size W0 W) => Calls21_calls fs A a W (hr.mov lasts_F (by decide) (bl_then hb0 hb)))
  have HS := Lib.hid (fun (W : World) (hb : Below W0.heap.size W0 W) => Lights_calls theta T ct 300 60 W (hT.mov (bl_then hb0 hb)))
  have HL := Lib.hid (fun (W : World) (hb : Below W0.heap.size W0 W) => Light_calls m M cm 300 60 W (hM.mov (bl_then hb0 hb)) hcm)
  have HK := Lib.hid (fun (W : World) (hb : Below W0.heap.size W0 W) => LightClause_calls y _ W (lasts_K.mov hk0 (bl_then hb0 hb)))
  obtain ⟨fb, hfb⟩ : ∃ b, funsB fs = b := ⟨_, rfl⟩
  obtain ⟨sb, hsb⟩ : ∃ b, lightsB theta 300 60 = b := ⟨_, rfl⟩
  obtain ⟨lb, hlb⟩ : ∃ b, lightB m 300 60 = b := ⟨_, rfl⟩
  obtain ⟨kbb, hkb⟩ : ∃ b, clauseB y = b := ⟨_, rfl⟩
  obtain ⟨cb, hcb⟩ : ∃ b, fs2B fs = b := ⟨_, rfl⟩
  rw [hfb] at HF
  rw [hsb] at HS
  rw [hlb] at HL
  rw [hkb] at HK
  rw [hcb] at HC
  by_cases hall : fb = true ∧ sb = true ∧ lb = true ∧ kbb = true ∧ cb = true
  rotate_left
  · clear hb0 e0 e1 hr gf hT hct hM hcm gm hk0 gk hfb hsb hlb hkb hcb hn1 hn2 hf1 hf2
    cases fb <;> cases sb <;> cases lb <;> cases kbb <;> cases cb <;>
    first
    | (exact absurd ⟨rfl, rfl, rfl, rfl, rfl⟩ hall)
    | (clear hall
       go_enter Tryz.func7, Tryz.ntmps7
       go_upto_region 1 with fail
       clear hW0
       go_wp2_with (first
         | (go_at_call 10; refine (awake21_calls _).mono ?_; rintro e w1 ⟨rfl, hw1⟩)
         | (go_at_call 11; refine (HF.out _ hw1).mono ?_; clear HF; rintro e w2 ⟨rfl, hb2⟩; have hw2 := bl_then hw1 hb2)
         | (go_at_call 12; refine (HS.out _ hw2).mono ?_; clear HS; rintro e w3 ⟨rfl, hb3⟩; have hw3 := bl_then hw2 hb3; obtain ⟨m0, m1, m2⟩ := EM.out _ hw3)
         | (go_at_call 13; refine (HL.out _ hw3).mono ?_; clear HL m0 m1 m2; rintro e w4 ⟨rfl, hb4⟩; have hw4 := bl_then hw3 hb4; obtain ⟨k0, k1, k2, k3, k4, k5, k6, k7, k8⟩ := EK.out _ hw4)
         | (go_at_call 26; refine (HK.out _ hw4).mono ?_; clear HK k0 k1 k2 k3 k4 k5 k6 k7 k8; rintro e w5 ⟨rfl, hb5⟩; have hw5 := bl_then hw4 hb5)
         | (go_at_call 14; refine (HC.out _ hw5).mono ?_; clear HC; rintro e w6 ⟨rfl, hb6⟩; have hw6 := bl_then hw5 hb6; have hv6 := bl_then HB0.out hw6; obtain ⟨k0, k1, k2, k3, k4, k5, k6, k7, k8⟩ := EK.out _ hw6; obtain ⟨m0, m1, m2⟩ := EM.out _ hw6))
       go_ret
       exact ⟨rfl, hv6⟩)
  obtain ⟨rfl, rfl, rfl, rfl, rfl⟩ := hall
  by_cases hc2 : 2 < y.cs.length
  · have d0 : decide (2 < y.cs.length) = true := decide_eq_true hc2
    have d0' : decide ((2 : Int) < (y.cs.length : Int)) = true := decide_eq_true (by omega)
    clear hb0 e0 e1 hr gf hT hct hM hcm gm hk0 gk hfb hsb hlb hkb hcb hn1 hn2 hf1 hf2
    go_enter Tryz.func7, Tryz.ntmps7
    go_upto_region 1 with fail
    clear hW0
    go_wp2_with (first
      | (go_at_call 10; refine (awake21_calls _).mono ?_; rintro e w1 ⟨rfl, hw1⟩)
      | (go_at_call 11; refine (HF.out _ hw1).mono ?_; clear HF; rintro e w2 ⟨rfl, hb2⟩; have hw2 := bl_then hw1 hb2)
      | (go_at_call 12; refine (HS.out _ hw2).mono ?_; clear HS; rintro e w3 ⟨rfl, hb3⟩; have hw3 := bl_then hw2 hb3; obtain ⟨m0, m1, m2⟩ := EM.out _ hw3)
      | (go_at_call 13; refine (HL.out _ hw3).mono ?_; clear HL m0 m1 m2; rintro e w4 ⟨rfl, hb4⟩; have hw4 := bl_then hw3 hb4; obtain ⟨k0, k1, k2, k3, k4, k5, k6, k7, k8⟩ := EK.out _ hw4)
      | (go_at_call 26; refine (HK.out _ hw4).mono ?_; clear HK k0 k1 k2 k3 k4 k5 k6 k7 k8; rintro e w5 ⟨rfl, hb5⟩; have hw5 := bl_then hw4 hb5)
      | (go_at_call 14; refine (HC.out _ hw5).mono ?_; clear HC; rintro e w6 ⟨rfl, hb6⟩; have hw6 := bl_then hw5 hb6; have hv6 := bl_then HB0.out hw6; obtain ⟨k0, k1, k2, k3, k4, k5, k6, k7, k8⟩ := EK.out _ hw6; obtain ⟨m0, m1, m2⟩ := EM.out _ hw6))
    go_ret
    exact ⟨rfl, hv6⟩
  have d0 : decide (2 < y.cs.length) = false := decide_eq_false hc2
  have d0' : decide ((2 : Int) < (y.cs.length : Int)) = false := decide_eq_false (by omega)
  by_cases hf9 : 9 < fuel
  · have d1 : decide (9 < fuel) = true := decide_eq_true hf9
    clear hb0 e0 e1 hr gf hT hct hM hcm gm hk0 gk hfb hsb hlb hkb hcb hn1 hn2 hf1 hf2
    go_enter Tryz.func7, Tryz.ntmps7
    go_upto_region 1 with fail
    clear hW0
    go_wp2_with (first
      | (go_at_call 10; refine (awake21_calls _).mono ?_; rintro e w1 ⟨rfl, hw1⟩)
      | (go_at_call 11; refine (HF.out _ hw1).mono ?_; clear HF; rintro e w2 ⟨rfl, hb2⟩; have hw2 := bl_then hw1 hb2)
      | (go_at_call 12; refine (HS.out _ hw2).mono ?_; clear HS; rintro e w3 ⟨rfl, hb3⟩; have hw3 := bl_then hw2 hb3; obtain ⟨m0, m1, m2⟩ := EM.out _ hw3)
      | (go_at_call 13; refine (HL.out _ hw3).mono ?_; clear HL m0 m1 m2; rintro e w4 ⟨rfl, hb4⟩; have hw4 := bl_then hw3 hb4; obtain ⟨k0, k1, k2, k3, k4, k5, k6, k7, k8⟩ := EK.out _ hw4)
      | (go_at_call 26; refine (HK.out _ hw4).mono ?_; clear HK k0 k1 k2 k3 k4 k5 k6 k7 k8; rintro e w5 ⟨rfl, hb5⟩; have hw5 := bl_then hw4 hb5)
      | (go_at_call 14; refine (HC.out _ hw5).mono ?_; clear HC; rintro e w6 ⟨rfl, hb6⟩; have hw6 := bl_then hw5 hb6; have hv6 := bl_then HB0.out hw6; obtain ⟨k0, k1, k2, k3, k4, k5, k6, k7, k8⟩ := EK.out _ hw6; obtain ⟨m0, m1, m2⟩ := EM.out _ hw6))
    go_ret
    exact ⟨rfl, hv6⟩
  have d1 : decide (9 < fuel) = false := decide_eq_false hf9
  by_cases h0 : no < 0
  · have d2 : decide (no < 0) = true := decide_eq_true h0
    clear hb0 e0 e1 hr gf hT hct hM hcm gm hk0 gk hfb hsb hlb hkb hcb hn1 hn2 hf1 hf2
    go_enter Tryz.func7, Tryz.ntmps7
    go_upto_region 1 with fail
    clear hW0
    go_wp2_with (first
      | (go_at_call 10; refine (awake21_calls _).mono ?_; rintro e w1 ⟨rfl, hw1⟩)
      | (go_at_call 11; refine (HF.out _ hw1).mono ?_; clear HF; rintro e w2 ⟨rfl, hb2⟩; have hw2 := bl_then hw1 hb2)
      | (go_at_call 12; refine (HS.out _ hw2).mono ?_; clear HS; rintro e w3 ⟨rfl, hb3⟩; have hw3 := bl_then hw2 hb3; obtain ⟨m0, m1, m2⟩ := EM.out _ hw3)
      | (go_at_call 13; refine (HL.out _ hw3).mono ?_; clear HL m0 m1 m2; rintro e w4 ⟨rfl, hb4⟩; have hw4 := bl_then hw3 hb4; obtain ⟨k0, k1, k2, k3, k4, k5, k6, k7, k8⟩ := EK.out _ hw4)
      | (go_at_call 26; refine (HK.out _ hw4).mono ?_; clear HK k0 k1 k2 k3 k4 k5 k6 k7 k8; rintro e w5 ⟨rfl, hb5⟩; have hw5 := bl_then hw4 hb5)
      | (go_at_call 14; refine (HC.out _ hw5).mono ?_; clear HC; rintro e w6 ⟨rfl, hb6⟩; have hw6 := bl_then hw5 hb6; have hv6 := bl_then HB0.out hw6; obtain ⟨k0, k1, k2, k3, k4, k5, k6, k7, k8⟩ := EK.out _ hw6; obtain ⟨m0, m1, m2⟩ := EM.out _ hw6))
    go_ret
    exact ⟨rfl, hv6⟩
  obtain ⟨j, rfl⟩ := Int.eq_ofNat_of_zero_le (Int.not_lt.1 h0)
  have d2 : decide (((j : Nat) : Int) < 0) = false := by simp
  by_cases hj : ¬ j < fs.length
  · have d3 : decide (fs.length ≤ j) = true := decide_eq_true (by omega)
    have d3' : decide ((fs.length : Int) ≤ (j : Int)) = true := decide_eq_true (by omega)
    clear hb0 e0 e1 hr gf hT hct hM hcm gm hk0 gk hfb hsb hlb hkb hcb hn1 hn2 hf1 hf2
    clear h0
    go_enter Tryz.func7, Tryz.ntmps7
    go_upto_region 1 with fail
    clear hW0
    go_wp2_with (first
      | (go_at_call 10; refine (awake21_calls _).mono ?_; rintro e w1 ⟨rfl, hw1⟩)
      | (go_at_call 11; refine (HF.out _ hw1).mono ?_; clear HF; rintro e w2 ⟨rfl, hb2⟩; have hw2 := bl_then hw1 hb2)
      | (go_at_call 12; refine (HS.out _ hw2).mono ?_; clear HS; rintro e w3 ⟨rfl, hb3⟩; have hw3 := bl_then hw2 hb3; obtain ⟨m0, m1, m2⟩ := EM.out _ hw3)
      | (go_at_call 13; refine (HL.out _ hw3).mono ?_; clear HL m0 m1 m2; rintro e w4 ⟨rfl, hb4⟩; have hw4 := bl_then hw3 hb4; obtain ⟨k0, k1, k2, k3, k4, k5, k6, k7, k8⟩ := EK.out _ hw4)
      | (go_at_call 26; refine (HK.out _ hw4).mono ?_; clear HK k0 k1 k2 k3 k4 k5 k6 k7 k8; rintro e w5 ⟨rfl, hb5⟩; have hw5 := bl_then hw4 hb5)
      | (go_at_call 14; refine (HC.out _ hw5).mono ?_; clear HC; rintro e w6 ⟨rfl, hb6⟩; have hw6 := bl_then hw5 hb6; have hv6 := bl_then HB0.out hw6; obtain ⟨k0, k1, k2, k3, k4, k5, k6, k7, k8⟩ := EK.out _ hw6; obtain ⟨m0, m1, m2⟩ := EM.out _ hw6))
    go_ret
    exact ⟨rfl, hv6⟩
  replace hj : j < fs.length := by omega
  have d3 : decide (fs.length ≤ j) = false := decide_eq_false (by omega)
  have d3' : decide ((fs.length : Int) ≤ (j : Int)) = false := decide_eq_false (by omega)
  obtain ⟨ad1, cs1, rfl, -, -, u0, uj, hE1⟩ := (hr.mov lasts_F (by decide) hb0).at hj
  have hE0 := hE1
  obtain ⟨jA, ja, jB, jb, jC, jc, jD, jd, jE, je, jF, jf, jG, jg, rfl, -⟩ := hE1
  have EF : Hid (∀ W, Below W0.heap.size W0 W → W.cell? (ad1.add (j * 13)) = some (.string fs[j].nm) ∧ W.cell? ⟨(ad1.add (j * 13)).block, (ad1.add (j * 13)).off + 1, none⟩ = some (.slice jA fs[j].sch.length ja) ∧ W.cell? ⟨(ad1.add (j * 13)).block, (ad1.add (j * 13)).off + 2, none⟩ = some (.slice jB fs[j].del.length jb) ∧ W.cell? ⟨(ad1.add (j * 13)).block, (ad1.add (j * 13)).off + 3, none⟩ = some (.slice jC fs[j].psi.length jc) ∧ W.cell? ⟨(ad1.add (j * 13)).block, (ad1.add (j * 13)).off + 4, none⟩ = some (.int .i64 fs[j].a.k) ∧ W.cell? ⟨(ad1.add (j * 13)).block, (ad1.add (j * 13)).off + 5, none⟩ = some (.int .i64 fs[j].a.h) ∧ W.cell? ⟨(ad1.add (j * 13)).block, (ad1.add (j * 13)).off + 6, none⟩ = some (.slice jD fs[j].a.a.length jd) ∧ W.cell? ⟨(ad1.add (j * 13)).block, (ad1.add (j * 13)).off + 7, none⟩ = some (.slice jE fs[j].phi.length je) ∧ W.cell? ⟨(ad1.add (j * 13)).block, (ad1.add (j * 13)).off + 8, none⟩ = some (.int .i64 fs[j].b.k) ∧ W.cell? ⟨(ad1.add (j * 13)).block, (ad1.add (j * 13)).off + 9, none⟩ = some (.int .i64 fs[j].b.h) ∧ W.cell? ⟨(ad1.add (j * 13)).block, (ad1.add (j * 13)).off + 10, none⟩ = some (.slice jF fs[j].b.a.length jf) ∧ W.cell? ⟨(ad1.add (j * 13)).block, (ad1.add (j * 13)).off + 11, none⟩ = some (.bool fs[j].tot) ∧ W.cell? ⟨(ad1.add (j * 13)).block, (ad1.add (j * 13)).off + 12, none⟩ = some (.slice jG fs[j].cl.length jg)) := Lib.hid (fun W hb => ⟨cell_mov (u0 _ rfl) hb, cell_mov (uj 1 _ rfl) hb, cell_mov (uj 2 _ rfl) hb, cell_mov (uj 3 _ rfl) hb, cell_mov (uj 4 _ rfl) hb, cell_mov (uj 5 _ rfl) hb, cell_mov (uj 6 _ rfl) hb, cell_mov (uj 7 _ rfl) hb, cell_mov (uj 8 _ rfl) hb, cell_mov (uj 9 _ rfl) hb, cell_mov (uj 10 _ rfl) hb, cell_mov (uj 11 _ rfl) hb, cell_mov (uj 12 _ rfl) hb⟩)
  have HFJ := Lib.hid (fun (W : World) (hb : Below W0.heap.size W0 W) => lasts_F.step (S' := fun k => W0.heap.size ≤ k) (fun k hk _ q => by omega) (fun k hk _ => hb.block k hk) hE0)
  clear u0 uj hE0
  have HRF := Lib.hid (fun (W : World) (hb : Below W0.heap.size W0 W) => (hr.mov lasts_F (by decide) hb0).step lasts_F (by decide) (S' := fun k => W0.heap.size ≤ k) (fun k hk _ q => by omega) (fun k hk _ => hb.block k hk))
  have HRF0 := Lib.hid (fun (W : World) (hb : Below W0.heap.size W0 W) => (hr.mov lasts_F (by decide) hb0).mov lasts_F (by decide) hb)
  have HKY := Lib.hid (fun (W : World) (hb : Below W0.heap.size W0 W) => lasts_K.step (S' := fun k => W0.heap.size ≤ k) (fun k hk _ q => by omega) (fun k hk _ => hb.block k hk) (lasts_K.mov hk0 hb0))
  obtain ⟨hfo, hl20⟩ := fus_ok gf hfb
  have HNF : Hid (fs.length ≤ 1048576) := Lib.hid (by omega)
  have HNE : Hid (fs ≠ []) := Lib.hid (fun q => by rw [q] at hj; exact absurd hj (Nat.not_lt_zero _))
  have HNL : Hid (∀ i, (hi : i < fs.length) → fs[i].cl.length ≤ 1048576) := Lib.hid (fun i hi => (gf _ (List.getElem_mem hi)).2.2.2.2.2.2.2)
  have HEV : Hid (∀ (fs' : List Fu), FusOk fs' → fs'.length ≤ 1048576 → ∀ (S : Nat → Prop) (W : World) (F : Option Addr) (cf : Nat), (∀ k, S k → k < W.heap.size) → (∀ k, S k → W0.heap.size ≤ k) → Below W0.heap.size W0 W → Row eF 13 S W F fs' → Calls Tryz.prog 15 #[.slice F fs'.length cf, .int .i64 (j : Int), .slice T theta.length ct, .agg #[.int .i64 m.k, .int .i64 m.h, .slice M m.a.length cm], .int .i64 fuel] W (RetQ S (evalV fs' fuel.toNat (j : Int) theta m 0).1 W)) :=
    Lib.hid (fun fs' h1 h2 S W F cf hS1 hS2 hb hF => Eval_calls fs' h1 h2 S F cf (j : Int) fuel theta m T ct M cm 1099511627776 W hf2 hf1 hS1 room_0 hF hct ((hT.mov hb0).step (fun k hk _ q => by have := hS2 k q; omega) (fun k hk _ => hb.block k hk)) hcm ((hM.mov hb0).step (fun k hk _ q => by have := hS2 k q; omega) (fun k hk _ => hb.block k hk)) (hB_lt hlb) gm.2)
  have H1 := HEV.out fs hfo (by omega) (fun _ => False)
  have HE1 := Lib.hid (fun (W : World) (hb : Below W0.heap.size W0 W) => H1 W (some ad1) a (fun _ q => q.elim) (fun _ q => q.elim) hb (HRF0.out W hb))
  have H2 := HEV.out (fs.map (addC y)) (fus_add hfo gk hkb) (by rw [List.length_map]; omega) (fun _ => False)
  rw [List.length_map] at H2
  have HE2 := Lib.hid (fun (W : World) (F : Option Addr) (cf : Nat) (hb : Below W0.heap.size W0 W) (hF : Row eF 13 (fun _ => False) W F (fs.map (addC y))) => H2 W F cf (fun _ q => q.elim) (fun _ q => q.elim) hb hF)
  have hfj : fs[j] ∈ fs := List.getElem_mem hj
  have H3 := HEV.out (fs ++ [fs[j]]) (fus_more hfo hfj) (by simp; omega)
  rw [List.length_append, List.length_singleton] at H3
  have HE3 := Lib.hid H3
  have HUP := Lib.hid (fun t s' => evalV_add y fs fuel.toNat (j : Int) theta m 0 t s')
  have HMO := Lib.hid (evalV_more fs fs[j] fuel.toNat (j : Int) theta m 0)
  obtain ⟨R1, hR1⟩ : ∃ R, evalV fs fuel.toNat (j : Int) theta m 0 = R := ⟨_, rfl⟩
  obtain ⟨R2, hR2⟩ : ∃ R, evalV (fs.map (addC y)) fuel.toNat (j : Int) theta m 0 = R := ⟨_, rfl⟩
  obtain ⟨R3, hR3⟩ : ∃ R, evalV (fs ++ [fs[j]]) fuel.toNat (j : Int) theta m 0 = R := ⟨_, rfl⟩
  rw [hR1] at HE1 HUP HMO
  rw [hR2] at HE2 HUP
  rw [hR3] at HE3 HMO
  have HJ := Lib.hid hj
  clear HEV H1 H2 H3 hR1 hR2 hR3 hfo hfj
  clear hb0 e0 e1 hr gf hT hct hM hcm gm hk0 gk hfb hsb hlb hkb hcb hn1 hn2 hf1 hf2 h0 hl20 hlc hc2 hf9
  go_enter Tryz.func7, Tryz.ntmps7
  go_upto_region 1 with fail
  clear hW0
  go_upto_region 11 with (first
    | (go_at_call 10; refine (awake21_calls _).mono ?_; rintro e w1 ⟨rfl, hw1⟩)
    | (go_at_call 11; refine (HF.out _ hw1).mono ?_; clear HF; rintro e w2 ⟨rfl, hb2⟩; have hw2 := bl_then hw1 hb2)
    | (go_at_call 12; refine (HS.out _ hw2).mono ?_; clear HS; rintro e w3 ⟨rfl, hb3⟩; have hw3 := bl_then hw2 hb3; obtain ⟨m0, m1, m2⟩ := EM.out _ hw3)
    | (go_at_call 13; refine (HL.out _ hw3).mono ?_; clear HL m0 m1 m2; rintro e w4 ⟨rfl, hb4⟩; have hw4 := bl_then hw3 hb4; obtain ⟨k0, k1, k2, k3, k4, k5, k6, k7, k8⟩ := EK.out _ hw4)
    | (go_at_call 26; refine (HK.out _ hw4).mono ?_; clear HK k0 k1 k2 k3 k4 k5 k6 k7 k8; rintro e w5 ⟨rfl, hb5⟩; have hw5 := bl_then hw4 hb5)
    | (go_at_call 14; refine (HC.out _ hw5).mono ?_; clear HC; rintro e w6 ⟨rfl, hb6⟩; have hw6 := bl_then hw5 hb6; have hv6 := bl_then HB0.out hw6; obtain ⟨k0, k1, k2, k3, k4, k5, k6, k7, k8⟩ := EK.out _ hw6; obtain ⟨m0, m1, m2⟩ := EM.out _ hw6)
    | (go_at_call 15; refine (HE1.out _ hw6).mono ?_; clear HE1 m0 m1 m2; rintro e w7 hq; obtain ⟨hb7, K1, H1, B1, N1, C1, X1, rfl, hrc1⟩ := hq.open; clear hq; have hw7 := bl_then hw6 hb7; obtain ⟨WA, hWA⟩ : ∃ WA, w7.alloc (.cells #[.int .i64 K1, .int .i64 H1, .slice B1 N1 C1] 25) = WA := ⟨_, rfl⟩; have hwA : Below W0.heap.size W0 WA := hWA ▸ bl_alloc hw7 _; have bA : Blk WA w7.heap.size #[.int .i64 K1, .int .i64 H1, .slice B1 N1 C1] 25 := hWA ▸ Blk.nw _ _ _ _ rfl; have hrcA := hrc1.mov (hWA ▸ bl_alloc (Below.refl _ _) _ : Below w7.heap.size w7 WA); clear hrc1 k0 k1 k2 k3 k4 k5 k6 k7 k8)
    | (at_builtin; refine wpList_append_row rfl (.tmp 91) lasts_F (fun h => one_F h) 22 rfl Tryz.underlying22 _ info_F rfl (by decide) (by decide) (S := fun k => W0.heap.size ≤ k) (xs := fs) (c := a) (A := some ad1) rfl (HRF.out _ hwA) HNF.out ?_; intro v8 w8 hb8 hv8))
  clear hWA d0 d0' d1 d2 d3 d3'
  have HWA := Lib.hid (And.intro hwA (And.intro bA hrcA))
  clear hwA bA hrcA hw7 hb7 hw6 hb6 hw5 hb5 hw4 hb4 hw3 hb3 hw2 hb2 hw1 hv6
  rcases hv8 with ⟨hnil, -⟩ | ⟨g, cap, cur, rfl, hg, hcap, hblk, hcp⟩
  · exact absurd hnil HNE.out
  have hwz := HWA.out.1.size
  have hadd0 : Addd y w8 g fs 0 := Addd.start hblk (show W0.heap.size ≤ g by omega) hcp
  have HA0 := Lib.hid hadd0
  have HB8 := Lib.hid hb8
  obtain ⟨ad, had⟩ : ∃ ad : Addr, ⟨g, 0, none⟩ = ad := ⟨_, rfl⟩
  have AD := Lib.hid had
  have HG := Lib.hid hg
  have HLF := Lib.hid hlf
  rw [had]
  have HRX := Lib.hid (fun (W : World) (hb : Below W0.heap.size W0 W) => (HRF.out W hb).toX)
  clear had hadd0 hb8 hblk hcp hwz hg HRF HRF0 HNE
  go_wp2_with fail
  go_loopw [22] (fun jv wr => ∃ i : Nat, jv = .int .i64 i ∧ i ≤ fs.length ∧ Below WA.heap.size WA wr ∧ Addd y wr g fs i) (fun jv _ => fs.length - (intOf jv).toNat)
  case atStart => exact ⟨0, rfl, Nat.zero_le _, HB8.out, HA0.out⟩
  case round =>
    clear HA0 HB8
    obtain ⟨i, rfl, hi, hbw, hadd⟩ := hrel
    have hWr := bl_then HWA.out.1 hbw
    have HWR := Lib.hid hWr
    have HBW := Lib.hid hbw
    have HAD := Lib.hid hadd
    by_cases hlt : i < fs.length
    · clear HE2 HE3 HUP HMO EM EF HFJ HJ HLF HRX hcap
      obtain ⟨cur2, hblk2, hall2⟩ := hadd
      obtain ⟨cs, hcl, hE, hcur⟩ := hall2 i hlt
      rw [if_neg (Nat.lt_irrefl _)] at hE
      obtain ⟨fA, fa, fB, fb, fC, fc, fD, fd, fE, fe, fF, ff, fG, fg, rfl, -, -, -, -, -, -, hfg, hrg⟩ := hE
      have c12 : cur2[i * 13 + 12]? = some (.slice fG fs[i].cl.length fg) := hcur 12 (by omega)
      have hgl : g < wr.heap.size := hblk2.lt
      have had2 : (⟨(ad.add (i * 13)).block, (ad.add (i * 13)).off + 12, none⟩ : Addr) = ⟨g, i * 13 + 12, none⟩ := by
        rw [← AD.out, add_plain, Nat.zero_add]
      have HBLK := Lib.hid hblk2
      have HC12 := Lib.hid c12
      have HAD2 := Lib.hid had2
      have HGL := Lib.hid hgl
      have hce : wr.cell? ⟨(ad.add (i * 13)).block, (ad.add (i * 13)).off + 12, none⟩ = some (.slice fG fs[i].cl.length fg) := by rw [had2, hblk2.cell]; exact c12
      have hltb : (ad.add (i * 13)).block < wr.heap.size := by rw [← AD.out, add_plain]; exact hgl
      have HRG : Hid (RowX eK 9 (fun q => q = g) wr fG fs[i].cl) := Lib.hid hrg.toX
      have HLG := Lib.hid (HNL.out i hlt)
      have HL2 : Hid (fs[i].cl.length + [y].length ≤ 2097152) := Lib.hid (by have := HLG.out; simp only [List.length_cons, List.length_nil]; omega)
      have HL3 : Hid ((fs[i].cl ++ [y]).length ≤ lim) := Lib.hid (by have := HLG.out; unfold lim; simp only [List.length_append, List.length_cons, List.length_nil]; omega)
      have HL4 : Hid ((fs[i].cl ++ [y]).length = fs[i].cl.length + 1) := Lib.hid (by simp)
      have HEY := Lib.hid (fun (v1 : Value) (wa W : World) (hm : MineR eK 9 42 wr.heap.size (fun q => q = g) wa v1 fs[i].cl) (hb : Below W0.heap.size W0 W) => eK_less (S' := fun k => k = g ∨ v1.ownBlock = some k) (fun k q => by (have h1 := HWR.out.size; have h2 := HG.out; have h3 := HWA.out.1.size; rcases q with q | q; omega; (have := hm.ge k q; omega))) (HKY.out W hb))
      obtain ⟨k0, k1, k2, k3, k4, k5, k6, k7, k8⟩ := EK.out _ hWr
      have lk := (E1.out.mov hWr).lt
      clear hblk2 hall2 hcl hcur c12 had2 hfg hrg hWr hbw hgl HNL HNF E0
      go_upto_region 14 with fail
      go_region_law (first
        | (refine step_rows1 lasts_K (fun h => one_K h) 37 Tryz.underlying37 _ info_K rfl (by decide) (by decide) rfl (.tmp 105) rfl wr (fun q => q = g) fs[i].cl fG fg (by rfl) ?hb HRG.out HLG.out ?_
           case hb => repeat (first | exact Below.refl _ _ | refine bl_alloc ?_ _ | refine Below.drew ?_)
           intro v1 wa hm1 hba hbx hat1
           obtain ⟨p0, p1, p2, p3, p4, p5, p6, p7, p8⟩ := EK.out _ (bl_then HWR.out hba)
           have lka := (E1.out.mov (bl_then HWR.out hba)).lt)
        | (refine step_rows2 lasts_K (fun h => one_K h) 37 Tryz.underlying37 _ info_K rfl (by decide) (by decide) rfl (.tmp 106) (.tmp 108) rfl wr (fun q => q = g) v1 fs[i].cl [y] (some ⟨wa.heap.size, 0, none⟩) 1 (by rfl) (by rfl) (hm1.mov lasts_K (bl_alloc (Below.refl _ _) _)) (bl_alloc hba _) (rowX_one (Blk.nw _ _ _ _ rfl) rfl (HEY.out v1 wa _ hm1 (bl_then HWR.out (bl_alloc hba _)))) HL2.out ?_
           intro v2 wb hm2 hbb hat2 hgr2
           obtain ⟨G2, c2, rfl, hc2, hrow2, hge2⟩ := hm2.row lasts_K (by decide) HL3.out (fun q => q = g) (fun k q => ⟨q, fun e => by (have h1 := hm2.ge _ e; have h2 := HGL.out; omega)⟩)
           have hfz : wb.frozen? ⟨(ad.add (i * 13)).block, (ad.add (i * 13)).off + 12, none⟩ = false := by rw [HAD2.out]; exact (HBLK.out.mov hbb).frozen _
           have hce2 : wb.cell? ⟨(ad.add (i * 13)).block, (ad.add (i * 13)).off + 12, none⟩ = some (.slice fG fs[i].cl.length fg) := by rw [HAD2.out, (HBLK.out.mov hbb).cell]; exact HC12.out)
        | (refine step_rows2 lasts_K (fun h => one_K h) 37 Tryz.underlying37 _ info_K rfl (by decide) (by decide) rfl (.tmp 106) (.tmp 108) rfl wr (fun q => q = g) v1 fs[i].cl [y] (some ⟨wr.heap.size, 0, none⟩) 1 (by rfl) (by rfl) hm1 hba (rowX_one (Blk.mov (Blk.drew (Blk.nw wr _ _ _ rfl)) hbx) rfl (HEY.out v1 wa _ hm1 (bl_then HWR.out hba))) HL2.out ?_
           intro v2 wb hm2 hbb hat2 hgr2
           obtain ⟨G2, c2, rfl, hc2, hrow2, hge2⟩ := hm2.row lasts_K (by decide) HL3.out (fun q => q = g) (fun k q => ⟨q, fun e => by (have h1 := hm2.ge _ e; have h2 := HGL.out; omega)⟩)
           have hfz : wb.frozen? ⟨(ad.add (i * 13)).block, (ad.add (i * 13)).off + 12, none⟩ = false := by rw [HAD2.out]; exact (HBLK.out.mov hbb).frozen _
           have hce2 : wb.cell? ⟨(ad.add (i * 13)).block, (ad.add (i * 13)).off + 12, none⟩ = some (.slice fG fs[i].cl.length fg) := by rw [HAD2.out, (HBLK.out.mov hbb).cell]; exact HC12.out))
      all_goals
        have hnx := HAD.out.next hlt hbb hc2 hrow2
        rw [HL4.out] at hnx
        have HNX := Lib.hid hnx
        have HBB := Lib.hid hbb
        clear hnx hrow2 hm2 hm1 hbb hba hbx
        go_wp2_with fail
        rw [HAD2.out]
        exact ⟨⟨i + 1, by go_num, hlt, bl_set (bl_then HBW.out HBB.out) (p := ⟨g, i * 13 + 12, none⟩) HG.out _, HNX.out⟩, by simp [intOf]; omega⟩
    · obtain rfl : i = fs.length := by omega
      clear hadd hWr hbw hi HKY HNL EK
      have HROW2 : Hid (Row eF 13 (fun _ => False) wr (some ad) (fs.map (addC y))) := Lib.hid (AD.out ▸ HAD.out.done (by unfold lim; exact HLF.out))
      obtain ⟨m0, m1, m2⟩ := EM.out _ HWR.out
      go_upto_region 16 with (go_at_call 15; refine (HE2.out _ (some ad) cap HWR.out HROW2.out).mono ?_; clear HE2 m0 m1 m2; rintro e w9 hq; obtain ⟨hb9, K2, H2, B2, N2, C2, X2, rfl, hrc2⟩ := hq.open; clear hq; obtain ⟨WB, hWB⟩ : ∃ WB, w9.alloc (.cells #[.int .i64 K2, .int .i64 H2, .slice B2 N2 C2] 25) = WB := ⟨_, rfl⟩; have hwB : Below wr.heap.size wr WB := hWB ▸ bl_alloc hb9 _; have bB : Blk WB w9.heap.size #[.int .i64 K2, .int .i64 H2, .slice B2 N2 C2] 25 := hWB ▸ Blk.nw _ _ _ _ rfl; have hrcB := hrc2.mov (hWB ▸ bl_alloc (Below.refl _ _) _ : Below w9.heap.size w9 WB); clear hrc2)
      clear hWB
      have HWB := Lib.hid (show Below W0.heap.size W0 WB ∧ Below WA.heap.size WA WB ∧ Blk WB w9.heap.size #[.int .i64 K2, .int .i64 H2, .slice B2 N2 C2] 25 ∧ RetC (fun _ => False) R2.1 K2 H2 B2 N2 C2 X2 WB from ⟨bl_then HWR.out hwB, bl_then HBW.out hwB, bB, hrcB⟩)
      have hlb9 : w9.heap.size < WB.heap.size := bB.lt
      clear hwB bB hrcB hb9 HROW2 HAD HBW HWR AD HG HLF hcap hlb9
      have hj' := HJ.out
      have HSS : Hid (∀ W, Below WB.heap.size WB W → (Below WB.heap.size WB W ∧ W.cell? ⟨w.heap.size, 0, none⟩ = some (.int .i64 m.k) ∧ W.cell? ⟨w.heap.size, 1, none⟩ = some (.int .i64 m.h) ∧ W.cell? ⟨w.heap.size, 2, none⟩ = some (.slice M m.a.length cm) ∧ W.cell? (ad1.add (j * 13)) = some (.string fs[j].nm) ∧ W.cell? ⟨(ad1.add (j * 13)).block, (ad1.add (j * 13)).off + 1, none⟩ = some (.slice jA fs[j].sch.length ja) ∧ W.cell? ⟨(ad1.add (j * 13)).block, (ad1.add (j * 13)).off + 2, none⟩ = some (.slice jB fs[j].del.length jb) ∧ W.cell? ⟨(ad1.add (j * 13)).block, (ad1.add (j * 13)).off + 3, none⟩ = some (.slice jC fs[j].psi.length jc) ∧ W.cell? ⟨(ad1.add (j * 13)).block, (ad1.add (j * 13)).off + 4, none⟩ = some (.int .i64 fs[j].a.k) ∧ W.cell? ⟨(ad1.add (j * 13)).block, (ad1.add (j * 13)).off + 5, none⟩ = some (.int .i64 fs[j].a.h) ∧ W.cell? ⟨(ad1.add (j * 13)).block, (ad1.add (j * 13)).off + 6, none⟩ = some (.slice jD fs[j].a.a.length jd) ∧ W.cell? ⟨(ad1.add (j * 13)).block, (ad1.add (j * 13)).off + 7, none⟩ = some (.slice jE fs[j].phi.length je) ∧ W.cell? ⟨(ad1.add (j * 13)).block, (ad1.add (j * 13)).off + 8, none⟩ = some (.int .i64 fs[j].b.k) ∧ W.cell? ⟨(ad1.add (j * 13)).block, (ad1.add (j * 13)).off + 9, none⟩ = some (.int .i64 fs[j].b.h) ∧ W.cell? ⟨(ad1.add (j * 13)).block, (ad1.add (j * 13)).off + 10, none⟩ = some (.slice jF fs[j].b.a.length jf) ∧ W.cell? ⟨(ad1.add (j * 13)).block, (ad1.add (j * 13)).off + 11, none⟩ = some (.bool fs[j].tot) ∧ W.cell? ⟨(ad1.add (j * 13)).block, (ad1.add (j * 13)).off + 12, none⟩ = some (.slice jG fs[j].cl.length jg))) := Lib.hid (fun W hb => by obtain ⟨m0, m1, m2⟩ := EM.out _ (bl_then HWB.out.1 hb); obtain ⟨u0, u1, u2, u3, u4, u5, u6, u7, u8, u9, u10, u11, u12⟩ := EF.out _ (bl_then HWB.out.1 hb); exact ⟨hb, m0, m1, m2, u0, u1, u2, u3, u4, u5, u6, u7, u8, u9, u10, u11, u12⟩)
      have HFX : Hid (RowX eF 13 (fun k => W0.heap.size ≤ k) WB (some ad1) fs) := Lib.hid ((HRX.out WB HWB.out.1))
      have HLN : Hid (fs.length ≤ 1048576) := HNF
      have HL2 : Hid (fs.length + [fs[j]].length ≤ 2097152) := Lib.hid (by have := HNF.out; simp only [List.length_cons, List.length_nil]; omega)
      have HL3 : Hid ((fs ++ [fs[j]]).length ≤ lim) := Lib.hid (by have := HNF.out; unfold lim; simp only [List.length_append, List.length_cons, List.length_nil]; omega)
      have HEF := Lib.hid (fun (v1 : Value) (wa W : World) (hm : MineR eF 13 39 WB.heap.size (fun k => W0.heap.size ≤ k) wa v1 fs) (hb : Below W0.heap.size W0 W) => eF_less (S' := fun k => W0.heap.size ≤ k ∨ v1.ownBlock = some k) (fun k q => by (have h1 := HWB.out.1.size; rcases q with q | q; exact q; (have := hm.ge k q; omega))) (HFJ.out W hb))
      obtain ⟨-, m0, m1, m2, u0, u1, u2, u3, u4, u5, u6, u7, u8, u9, u10, u11, u12⟩ := HSS.out _ (Below.refl _ _)
      go_cut [25, 26] (fun s25 s26 wx => ∃ gz K3 H3 B3 N3 C3 X3, s25 = .pointer (some ⟨gz, 0, none⟩) ∧ s26 = .int .i64 X3 ∧ Below WB.heap.size WB wx ∧ Blk wx gz #[.int .i64 K3, .int .i64 H3, .slice B3 N3 C3] 25 ∧ RetC (fun _ => False) R3.1 K3 H3 B3 N3 C3 X3 wx)
      case first =>
        clear HUP HMO EM EF HFJ HWA HNF HRX E0 HB0
        go_region_held2 (fun W => (Below WB.heap.size WB W ∧ W.cell? ⟨w.heap.size, 0, none⟩ = some (.int .i64 m.k) ∧ W.cell? ⟨w.heap.size, 1, none⟩ = some (.int .i64 m.h) ∧ W.cell? ⟨w.heap.size, 2, none⟩ = some (.slice M m.a.length cm) ∧ W.cell? (ad1.add (j * 13)) = some (.string fs[j].nm) ∧ W.cell? ⟨(ad1.add (j * 13)).block, (ad1.add (j * 13)).off + 1, none⟩ = some (.slice jA fs[j].sch.length ja) ∧ W.cell? ⟨(ad1.add (j * 13)).block, (ad1.add (j * 13)).off + 2, none⟩ = some (.slice jB fs[j].del.length jb) ∧ W.cell? ⟨(ad1.add (j * 13)).block, (ad1.add (j * 13)).off + 3, none⟩ = some (.slice jC fs[j].psi.length jc) ∧ W.cell? ⟨(ad1.add (j * 13)).block, (ad1.add (j * 13)).off + 4, none⟩ = some (.int .i64 fs[j].a.k) ∧ W.cell? ⟨(ad1.add (j * 13)).block, (ad1.add (j * 13)).off + 5, none⟩ = some (.int .i64 fs[j].a.h) ∧ W.cell? ⟨(ad1.add (j * 13)).block, (ad1.add (j * 13)).off + 6, none⟩ = some (.slice jD fs[j].a.a.length jd) ∧ W.cell? ⟨(ad1.add (j * 13)).block, (ad1.add (j * 13)).off + 7, none⟩ = some (.slice jE fs[j].phi.length je) ∧ W.cell? ⟨(ad1.add (j * 13)).block, (ad1.add (j * 13)).off + 8, none⟩ = some (.int .i64 fs[j].b.k) ∧ W.cell? ⟨(ad1.add (j * 13)).block, (ad1.add (j * 13)).off + 9, none⟩ = some (.int .i64 fs[j].b.h) ∧ W.cell? ⟨(ad1.add (j * 13)).block, (ad1.add (j * 13)).off + 10, none⟩ = some (.slice jF fs[j].b.a.length jf) ∧ W.cell? ⟨(ad1.add (j * 13)).block, (ad1.add (j * 13)).off + 11, none⟩ = some (.bool fs[j].tot) ∧ W.cell? ⟨(ad1.add (j * 13)).block, (ad1.add (j * 13)).off + 12, none⟩ = some (.slice jG fs[j].cl.length jg)))
          ((refine HSS.out _ ?_; (repeat (first | exact hx10 | exact hbb | exact hba | exact Below.refl _ _ | refine bl_alloc ?_ _ | refine Below.drew ?_ | refine bl_set3 ?_ (by (have h5 := hx10.size; have h6 := hbb.size; have h7 := hba.size; (try simp only [World.size_alloc, World.size_drew]); omega))))))
          (first
            | (refine step_rows1 lasts_F (fun h => one_F h) 22 Tryz.underlying22 _ info_F rfl (by decide) (by decide) rfl (.tmp 122) rfl WB (fun k => W0.heap.size ≤ k) fs (some ad1) a (by rfl) ?hb HFX.out HLN.out ?_
               case hb => repeat (first | exact Below.refl _ _ | refine bl_alloc ?_ _ | refine Below.drew ?_)
               intro v1 wa hm1 hba hbx hat1)
            | (refine step_rows2 lasts_F (fun h => one_F h) 22 Tryz.underlying22 _ info_F rfl (by decide) (by decide) rfl (.tmp 123) (.tmp 128) rfl WB (fun k => W0.heap.size ≤ k) v1 fs [fs[j]] (some ⟨wa.heap.size, 0, none⟩) 1 (by rfl) (by rfl) ?hm ?hb ?hrow HL2.out ?_
               case hm => repeat (first | exact hm1 | refine MineR.mov lasts_F ?_ (bl_alloc (Below.refl _ _) _))
               case hb => repeat (first | exact hx10 | exact hbb | exact hba | exact Below.refl _ _ | refine bl_alloc ?_ _ | refine Below.drew ?_)
               case hrow =>
                 refine rowX_one (cs := #[.string fs[j].nm, .slice jA fs[j].sch.length ja, .slice jB fs[j].del.length jb, .slice jC fs[j].psi.length jc, .int .i64 fs[j].a.k, .int .i64 fs[j].a.h, .slice jD fs[j].a.a.length jd, .slice jE fs[j].phi.length je, .int .i64 fs[j].b.k, .int .i64 fs[j].b.h, .slice jF fs[j].b.a.length jf, .bool fs[j].tot, .slice jG fs[j].cl.length jg]) (t := 39) ?hblk rfl (HEF.out v1 wa _ hm1 ?hb2)
                 case hblk => repeat (first | (with_reducible refine Blk.drew ?_) | ((with_reducible refine Blk.grown ?_ hgr2 ?_); rotate_left; (intro q; first | (have h2 := hm1.lt _ q.symm; omega) | (rcases hat1 with e1 | e1; (rw [e1] at q; cases q); (rw [e1] at q; have q' := Option.some.inj q; (try simp only [World.size_alloc, World.size_drew] at q'); omega)))) | (with_reducible refine Blk.mov ?_ hbx) | ((with_reducible refine Blk.nw _ _ _ _ ?_); simp; done) | (with_reducible refine Blk.al ?_ _))
                 case hb2 => refine bl_then HWB.out.1 ?_; repeat (first | exact hx10 | exact hbb | exact hba | exact Below.refl _ _ | refine bl_alloc ?_ _ | refine Below.drew ?_)
               intro v2 wb hm2 hbb hat2 hgr2
               obtain ⟨G2, c2, rfl, hc2, hrow2, hge2⟩ := hm2.row lasts_F (by decide) HL3.out (fun _ => False) (fun _ q => q.elim))
            | (refine step_rows2 lasts_F (fun h => one_F h) 22 Tryz.underlying22 _ info_F rfl (by decide) (by decide) rfl (.tmp 123) (.tmp 128) rfl WB (fun k => W0.heap.size ≤ k) v1 fs [fs[j]] (some ⟨WB.heap.size, 0, none⟩) 1 (by rfl) (by rfl) ?hm ?hb ?hrow HL2.out ?_
               case hm => repeat (first | exact hm1 | refine MineR.mov lasts_F ?_ (bl_alloc (Below.refl _ _) _))
               case hb => repeat (first | exact hx10 | exact hbb | exact hba | exact Below.refl _ _ | refine bl_alloc ?_ _ | refine Below.drew ?_)
               case hrow =>
                 refine rowX_one (cs := #[.string fs[j].nm, .slice jA fs[j].sch.length ja, .slice jB fs[j].del.length jb, .slice jC fs[j].psi.length jc, .int .i64 fs[j].a.k, .int .i64 fs[j].a.h, .slice jD fs[j].a.a.length jd, .slice jE fs[j].phi.length je, .int .i64 fs[j].b.k, .int .i64 fs[j].b.h, .slice jF fs[j].b.a.length jf, .bool fs[j].tot, .slice jG fs[j].cl.length jg]) (t := 39) ?hblk rfl (HEF.out v1 wa _ hm1 ?hb2)
                 case hblk => repeat (first | (with_reducible refine Blk.drew ?_) | ((with_reducible refine Blk.grown ?_ hgr2 ?_); rotate_left; (intro q; first | (have h2 := hm1.lt _ q.symm; omega) | (rcases hat1 with e1 | e1; (rw [e1] at q; cases q); (rw [e1] at q; have q' := Option.some.inj q; (try simp only [World.size_alloc, World.size_drew] at q'); omega)))) | (with_reducible refine Blk.mov ?_ hbx) | ((with_reducible refine Blk.nw _ _ _ _ ?_); simp; done) | (with_reducible refine Blk.al ?_ _))
                 case hb2 => refine bl_then HWB.out.1 ?_; repeat (first | exact hx10 | exact hbb | exact hba | exact Below.refl _ _ | refine bl_alloc ?_ _ | refine Below.drew ?_)
               intro v2 wb hm2 hbb hat2 hgr2
               obtain ⟨G2, c2, rfl, hc2, hrow2, hge2⟩ := hm2.row lasts_F (by decide) HL3.out (fun _ => False) (fun _ q => q.elim))
            | (refine step_rows2 lasts_F (fun h => one_F h) 22 Tryz.underlying22 _ info_F rfl (by decide) (by decide) rfl (.tmp 123) (.tmp 128) rfl WB (fun k => W0.heap.size ≤ k) v1 fs [fs[j]] (some ⟨wa.heap.size + 1, 0, none⟩) 1 (by rfl) (by rfl) ?hm ?hb ?hrow HL2.out ?_
               case hm => repeat (first | exact hm1 | refine MineR.mov lasts_F ?_ (bl_alloc (Below.refl _ _) _))
               case hb => repeat (first | exact hx10 | exact hbb | exact hba | exact Below.refl _ _ | refine bl_alloc ?_ _ | refine Below.drew ?_)
               case hrow =>
                 refine rowX_one (cs := #[.string fs[j].nm, .slice jA fs[j].sch.length ja, .slice jB fs[j].del.length jb, .slice jC fs[j].psi.length jc, .int .i64 fs[j].a.k, .int .i64 fs[j].a.h, .slice jD fs[j].a.a.length jd, .slice jE fs[j].phi.length je, .int .i64 fs[j].b.k, .int .i64 fs[j].b.h, .slice jF fs[j].b.a.length jf, .bool fs[j].tot, .slice jG fs[j].cl.length jg]) (t := 39) ?hblk rfl (HEF.out v1 wa _ hm1 ?hb2)
                 case hblk => repeat (first | (with_reducible refine Blk.drew ?_) | ((with_reducible refine Blk.grown ?_ hgr2 ?_); rotate_left; (intro q; first | (have h2 := hm1.lt _ q.symm; omega) | (rcases hat1 with e1 | e1; (rw [e1] at q; cases q); (rw [e1] at q; have q' := Option.some.inj q; (try simp only [World.size_alloc, World.size_drew] at q'); omega)))) | (with_reducible refine Blk.mov ?_ hbx) | ((with_reducible refine Blk.nw _ _ _ _ ?_); simp; done) | (with_reducible refine Blk.al ?_ _))
                 case hb2 => refine bl_then HWB.out.1 ?_; repeat (first | exact hx10 | exact hbb | exact hba | exact Below.refl _ _ | refine bl_alloc ?_ _ | refine Below.drew ?_)
               intro v2 wb hm2 hbb hat2 hgr2
               obtain ⟨G2, c2, rfl, hc2, hrow2, hge2⟩ := hm2.row lasts_F (by decide) HL3.out (fun _ => False) (fun _ q => q.elim))
            | (refine step_rows2 lasts_F (fun h => one_F h) 22 Tryz.underlying22 _ info_F rfl (by decide) (by decide) rfl (.tmp 123) (.tmp 128) rfl WB (fun k => W0.heap.size ≤ k) v1 fs [fs[j]] (some ⟨WB.heap.size + 1, 0, none⟩) 1 (by rfl) (by rfl) ?hm ?hb ?hrow HL2.out ?_
               case hm => repeat (first | exact hm1 | refine MineR.mov lasts_F ?_ (bl_alloc (Below.refl _ _) _))
               case hb => repeat (first | exact hx10 | exact hbb | exact hba | exact Below.refl _ _ | refine bl_alloc ?_ _ | refine Below.drew ?_)
               case hrow =>
                 refine rowX_one (cs := #[.string fs[j].nm, .slice jA fs[j].sch.length ja, .slice jB fs[j].del.length jb, .slice jC fs[j].psi.length jc, .int .i64 fs[j].a.k, .int .i64 fs[j].a.h, .slice jD fs[j].a.a.length jd, .slice jE fs[j].phi.length je, .int .i64 fs[j].b.k, .int .i64 fs[j].b.h, .slice jF fs[j].b.a.length jf, .bool fs[j].tot, .slice jG fs[j].cl.length jg]) (t := 39) ?hblk rfl (HEF.out v1 wa _ hm1 ?hb2)
                 case hblk => repeat (first | (with_reducible refine Blk.drew ?_) | ((with_reducible refine Blk.grown ?_ hgr2 ?_); rotate_left; (intro q; first | (have h2 := hm1.lt _ q.symm; omega) | (rcases hat1 with e1 | e1; (rw [e1] at q; cases q); (rw [e1] at q; have q' := Option.some.inj q; (try simp only [World.size_alloc, World.size_drew] at q'); omega)))) | (with_reducible refine Blk.mov ?_ hbx) | ((with_reducible refine Blk.nw _ _ _ _ ?_); simp; done) | (with_reducible refine Blk.al ?_ _))
                 case hb2 => refine bl_then HWB.out.1 ?_; repeat (first | exact hx10 | exact hbb | exact hba | exact Below.refl _ _ | refine bl_alloc ?_ _ | refine Below.drew ?_)
               intro v2 wb hm2 hbb hat2 hgr2
               obtain ⟨G2, c2, rfl, hc2, hrow2, hge2⟩ := hm2.row lasts_F (by decide) HL3.out (fun _ => False) (fun _ q => q.elim))
            | (go_at_call 15
               first
                 | (refine callsZ (WB.heap.size) (cs := #[.int .i64 0, .int .i64 0, .slice none 0 0]) (t := 25) ?hz (fun hz => ?_)
                    case hz => repeat (first | (with_reducible refine Blk.drew ?_) | ((with_reducible refine Blk.grown ?_ hgr2 ?_); rotate_left; (intro q; first | (have h2 := hm1.lt _ q.symm; omega) | (rcases hat1 with e1 | e1; (rw [e1] at q; cases q); (rw [e1] at q; have q' := Option.some.inj q; (try simp only [World.size_alloc, World.size_drew] at q'); omega)))) | (with_reducible refine Blk.mov ?_ hbx) | ((with_reducible refine Blk.nw _ _ _ _ ?_); simp; done) | (with_reducible refine Blk.al ?_ _))
                    have hown : (Value.slice G2 (fs ++ [fs[j]]).length c2).ownBlock ≠ some (WB.heap.size) := by
                      intro q
                      first
                        | (have h2 := hm2.lt _ q; omega)
                        | (have h5 := hbx.size
                           have h6 := hba.size
                           (try simp only [World.size_alloc, World.size_drew] at h5 hat1 hat2)
                           rcases hat2 with e2 | e2
                           · rw [e2] at q
                             first
                               | (have h2 := hm1.lt _ q; omega)
                               | (rcases hat1 with e1 | e1
                                  · rw [e1] at q; cases q
                                  · rw [e1] at q; have q' := Option.some.inj q; omega)
                           · rw [e2] at q; have q' := Option.some.inj q; omega)
                    have hgz : W0.heap.size ≤ (WB.heap.size) := by (have h1 := HWB.out.1.size; have h2 := hba.size; have h3 := hbb.size; omega)
                    have hrz := hm2.rowS lasts_F (by decide) HL3.out (fun k => k = (WB.heap.size)) (fun k q => ⟨by rw [q]; exact hgz, by rw [q]; exact hown⟩)
                    refine (HE3.out (fun k => k = (WB.heap.size)) _ G2 c2 (fun k q => by rw [q]; exact hz.lt) (fun k q => by rw [q]; exact hgz) ?hb3 ?hrow3).mono ?_
                    case hb3 => refine bl_then HWB.out.1 ?_; repeat (first | exact hx10 | exact hbb | exact hba | exact Below.refl _ _ | refine bl_alloc ?_ _ | refine Below.drew ?_)
                    case hrow3 => repeat (first | exact hrz | refine Row.mov lasts_F (by decide) ?_ (bl_alloc (Below.refl _ _) _))
                    rintro e w10 hq
                    obtain ⟨hb10, K3, H3, B3, N3, C3, X3, rfl, hrc3⟩ := hq.open
                    have hx10 : Below WB.heap.size WB w10 := (by refine bl_then ?_ hb10; repeat (first | exact hx10 | exact hbb | exact hba | exact Below.refl _ _ | refine bl_alloc ?_ _ | refine Below.drew ?_))
                    have zb := hz.mov hb10
                    have z0 := zb.cell 0
                    have z1 := zb.cell 1
                    have z2 := zb.cell 2
                    have y0 := zb.frozen 0
                    have y1 := zb.frozen 1
                    have y2 := zb.frozen 2
                    have lz := zb.lt
                    have hgb : WB.heap.size ≤ (WB.heap.size) := by (have h2 := hba.size; have h3 := hbb.size; omega)
                    clear hq)
                 | (refine callsZ (WB.heap.size + 1) (cs := #[.int .i64 0, .int .i64 0, .slice none 0 0]) (t := 25) ?hz (fun hz => ?_)
                    case hz => repeat (first | (with_reducible refine Blk.drew ?_) | ((with_reducible refine Blk.grown ?_ hgr2 ?_); rotate_left; (intro q; first | (have h2 := hm1.lt _ q.symm; omega) | (rcases hat1 with e1 | e1; (rw [e1] at q; cases q); (rw [e1] at q; have q' := Option.some.inj q; (try simp only [World.size_alloc, World.size_drew] at q'); omega)))) | (with_reducible refine Blk.mov ?_ hbx) | ((with_reducible refine Blk.nw _ _ _ _ ?_); simp; done) | (with_reducible refine Blk.al ?_ _))
                    have hown : (Value.slice G2 (fs ++ [fs[j]]).length c2).ownBlock ≠ some (WB.heap.size + 1) := by
                      intro q
                      first
                        | (have h2 := hm2.lt _ q; omega)
                        | (have h5 := hbx.size
                           have h6 := hba.size
                           (try simp only [World.size_alloc, World.size_drew] at h5 hat1 hat2)
                           rcases hat2 with e2 | e2
                           · rw [e2] at q
                             first
                               | (have h2 := hm1.lt _ q; omega)
                               | (rcases hat1 with e1 | e1
                                  · rw [e1] at q; cases q
                                  · rw [e1] at q; have q' := Option.some.inj q; omega)
                           · rw [e2] at q; have q' := Option.some.inj q; omega)
                    have hgz : W0.heap.size ≤ (WB.heap.size + 1) := by (have h1 := HWB.out.1.size; have h2 := hba.size; have h3 := hbb.size; omega)
                    have hrz := hm2.rowS lasts_F (by decide) HL3.out (fun k => k = (WB.heap.size + 1)) (fun k q => ⟨by rw [q]; exact hgz, by rw [q]; exact hown⟩)
                    refine (HE3.out (fun k => k = (WB.heap.size + 1)) _ G2 c2 (fun k q => by rw [q]; exact hz.lt) (fun k q => by rw [q]; exact hgz) ?hb3 ?hrow3).mono ?_
                    case hb3 => refine bl_then HWB.out.1 ?_; repeat (first | exact hx10 | exact hbb | exact hba | exact Below.refl _ _ | refine bl_alloc ?_ _ | refine Below.drew ?_)
                    case hrow3 => repeat (first | exact hrz | refine Row.mov lasts_F (by decide) ?_ (bl_alloc (Below.refl _ _) _))
                    rintro e w10 hq
                    obtain ⟨hb10, K3, H3, B3, N3, C3, X3, rfl, hrc3⟩ := hq.open
                    have hx10 : Below WB.heap.size WB w10 := (by refine bl_then ?_ hb10; repeat (first | exact hx10 | exact hbb | exact hba | exact Below.refl _ _ | refine bl_alloc ?_ _ | refine Below.drew ?_))
                    have zb := hz.mov hb10
                    have z0 := zb.cell 0
                    have z1 := zb.cell 1
                    have z2 := zb.cell 2
                    have y0 := zb.frozen 0
                    have y1 := zb.frozen 1
                    have y2 := zb.frozen 2
                    have lz := zb.lt
                    have hgb : WB.heap.size ≤ (WB.heap.size + 1) := by (have h2 := hba.size; have h3 := hbb.size; omega)
                    clear hq)
                 | (refine callsZ (wa.heap.size) (cs := #[.int .i64 0, .int .i64 0, .slice none 0 0]) (t := 25) ?hz (fun hz => ?_)
                    case hz => repeat (first | (with_reducible refine Blk.drew ?_) | ((with_reducible refine Blk.grown ?_ hgr2 ?_); rotate_left; (intro q; first | (have h2 := hm1.lt _ q.symm; omega) | (rcases hat1 with e1 | e1; (rw [e1] at q; cases q); (rw [e1] at q; have q' := Option.some.inj q; (try simp only [World.size_alloc, World.size_drew] at q'); omega)))) | (with_reducible refine Blk.mov ?_ hbx) | ((with_reducible refine Blk.nw _ _ _ _ ?_); simp; done) | (with_reducible refine Blk.al ?_ _))
                    have hown : (Value.slice G2 (fs ++ [fs[j]]).length c2).ownBlock ≠ some (wa.heap.size) := by
                      intro q
                      first
                        | (have h2 := hm2.lt _ q; omega)
                        | (have h5 := hbx.size
                           have h6 := hba.size
                           (try simp only [World.size_alloc, World.size_drew] at h5 hat1 hat2)
                           rcases hat2 with e2 | e2
                           · rw [e2] at q
                             first
                               | (have h2 := hm1.lt _ q; omega)
                               | (rcases hat1 with e1 | e1
                                  · rw [e1] at q; cases q
                                  · rw [e1] at q; have q' := Option.some.inj q; omega)
                           · rw [e2] at q; have q' := Option.some.inj q; omega)
                    have hgz : W0.heap.size ≤ (wa.heap.size) := by (have h1 := HWB.out.1.size; have h2 := hba.size; have h3 := hbb.size; omega)
                    have hrz := hm2.rowS lasts_F (by decide) HL3.out (fun k => k = (wa.heap.size)) (fun k q => ⟨by rw [q]; exact hgz, by rw [q]; exact hown⟩)
                    refine (HE3.out (fun k => k = (wa.heap.size)) _ G2 c2 (fun k q => by rw [q]; exact hz.lt) (fun k q => by rw [q]; exact hgz) ?hb3 ?hrow3).mono ?_
                    case hb3 => refine bl_then HWB.out.1 ?_; repeat (first | exact hx10 | exact hbb | exact hba | exact Below.refl _ _ | refine bl_alloc ?_ _ | refine Below.drew ?_)
                    case hrow3 => repeat (first | exact hrz | refine Row.mov lasts_F (by decide) ?_ (bl_alloc (Below.refl _ _) _))
                    rintro e w10 hq
                    obtain ⟨hb10, K3, H3, B3, N3, C3, X3, rfl, hrc3⟩ := hq.open
                    have hx10 : Below WB.heap.size WB w10 := (by refine bl_then ?_ hb10; repeat (first | exact hx10 | exact hbb | exact hba | exact Below.refl _ _ | refine bl_alloc ?_ _ | refine Below.drew ?_))
                    have zb := hz.mov hb10
                    have z0 := zb.cell 0
                    have z1 := zb.cell 1
                    have z2 := zb.cell 2
                    have y0 := zb.frozen 0
                    have y1 := zb.frozen 1
                    have y2 := zb.frozen 2
                    have lz := zb.lt
                    have hgb : WB.heap.size ≤ (wa.heap.size) := by (have h2 := hba.size; have h3 := hbb.size; omega)
                    clear hq)
                 | (refine callsZ (wa.heap.size + 1) (cs := #[.int .i64 0, .int .i64 0, .slice none 0 0]) (t := 25) ?hz (fun hz => ?_)
                    case hz => repeat (first | (with_reducible refine Blk.drew ?_) | ((with_reducible refine Blk.grown ?_ hgr2 ?_); rotate_left; (intro q; first | (have h2 := hm1.lt _ q.symm; omega) | (rcases hat1 with e1 | e1; (rw [e1] at q; cases q); (rw [e1] at q; have q' := Option.some.inj q; (try simp only [World.size_alloc, World.size_drew] at q'); omega)))) | (with_reducible refine Blk.mov ?_ hbx) | ((with_reducible refine Blk.nw _ _ _ _ ?_); simp; done) | (with_reducible refine Blk.al ?_ _))
                    have hown : (Value.slice G2 (fs ++ [fs[j]]).length c2).ownBlock ≠ some (wa.heap.size + 1) := by
                      intro q
                      first
                        | (have h2 := hm2.lt _ q; omega)
                        | (have h5 := hbx.size
                           have h6 := hba.size
                           (try simp only [World.size_alloc, World.size_drew] at h5 hat1 hat2)
                           rcases hat2 with e2 | e2
                           · rw [e2] at q
                             first
                               | (have h2 := hm1.lt _ q; omega)
                               | (rcases hat1 with e1 | e1
                                  · rw [e1] at q; cases q
                                  · rw [e1] at q; have q' := Option.some.inj q; omega)
                           · rw [e2] at q; have q' := Option.some.inj q; omega)
                    have hgz : W0.heap.size ≤ (wa.heap.size + 1) := by (have h1 := HWB.out.1.size; have h2 := hba.size; have h3 := hbb.size; omega)
                    have hrz := hm2.rowS lasts_F (by decide) HL3.out (fun k => k = (wa.heap.size + 1)) (fun k q => ⟨by rw [q]; exact hgz, by rw [q]; exact hown⟩)
                    refine (HE3.out (fun k => k = (wa.heap.size + 1)) _ G2 c2 (fun k q => by rw [q]; exact hz.lt) (fun k q => by rw [q]; exact hgz) ?hb3 ?hrow3).mono ?_
                    case hb3 => refine bl_then HWB.out.1 ?_; repeat (first | exact hx10 | exact hbb | exact hba | exact Below.refl _ _ | refine bl_alloc ?_ _ | refine Below.drew ?_)
                    case hrow3 => repeat (first | exact hrz | refine Row.mov lasts_F (by decide) ?_ (bl_alloc (Below.refl _ _) _))
                    rintro e w10 hq
                    obtain ⟨hb10, K3, H3, B3, N3, C3, X3, rfl, hrc3⟩ := hq.open
                    have hx10 : Below WB.heap.size WB w10 := (by refine bl_then ?_ hb10; repeat (first | exact hx10 | exact hbb | exact hba | exact Below.refl _ _ | refine bl_alloc ?_ _ | refine Below.drew ?_))
                    have zb := hz.mov hb10
                    have z0 := zb.cell 0
                    have z1 := zb.cell 1
                    have z2 := zb.cell 2
                    have y0 := zb.frozen 0
                    have y1 := zb.frozen 1
                    have y2 := zb.frozen 2
                    have lz := zb.lt
                    have hgb : WB.heap.size ≤ (wa.heap.size + 1) := by (have h2 := hba.size; have h3 := hbb.size; omega)
                    clear hq)
                 | (refine callsZ (wb.heap.size) (cs := #[.int .i64 0, .int .i64 0, .slice none 0 0]) (t := 25) ?hz (fun hz => ?_)
                    case hz => repeat (first | (with_reducible refine Blk.drew ?_) | ((with_reducible refine Blk.grown ?_ hgr2 ?_); rotate_left; (intro q; first | (have h2 := hm1.lt _ q.symm; omega) | (rcases hat1 with e1 | e1; (rw [e1] at q; cases q); (rw [e1] at q; have q' := Option.some.inj q; (try simp only [World.size_alloc, World.size_drew] at q'); omega)))) | (with_reducible refine Blk.mov ?_ hbx) | ((with_reducible refine Blk.nw _ _ _ _ ?_); simp; done) | (with_reducible refine Blk.al ?_ _))
                    have hown : (Value.slice G2 (fs ++ [fs[j]]).length c2).ownBlock ≠ some (wb.heap.size) := by
                      intro q
                      first
                        | (have h2 := hm2.lt _ q; omega)
                        | (have h5 := hbx.size
                           have h6 := hba.size
                           (try simp only [World.size_alloc, World.size_drew] at h5 hat1 hat2)
                           rcases hat2 with e2 | e2
                           · rw [e2] at q
                             first
                               | (have h2 := hm1.lt _ q; omega)
                               | (rcases hat1 with e1 | e1
                                  · rw [e1] at q; cases q
                                  · rw [e1] at q; have q' := Option.some.inj q; omega)
                           · rw [e2] at q; have q' := Option.some.inj q; omega)
                    have hgz : W0.heap.size ≤ (wb.heap.size) := by (have h1 := HWB.out.1.size; have h2 := hba.size; have h3 := hbb.size; omega)
                    have hrz := hm2.rowS lasts_F (by decide) HL3.out (fun k => k = (wb.heap.size)) (fun k q => ⟨by rw [q]; exact hgz, by rw [q]; exact hown⟩)
                    refine (HE3.out (fun k => k = (wb.heap.size)) _ G2 c2 (fun k q => by rw [q]; exact hz.lt) (fun k q => by rw [q]; exact hgz) ?hb3 ?hrow3).mono ?_
                    case hb3 => refine bl_then HWB.out.1 ?_; repeat (first | exact hx10 | exact hbb | exact hba | exact Below.refl _ _ | refine bl_alloc ?_ _ | refine Below.drew ?_)
                    case hrow3 => repeat (first | exact hrz | refine Row.mov lasts_F (by decide) ?_ (bl_alloc (Below.refl _ _) _))
                    rintro e w10 hq
                    obtain ⟨hb10, K3, H3, B3, N3, C3, X3, rfl, hrc3⟩ := hq.open
                    have hx10 : Below WB.heap.size WB w10 := (by refine bl_then ?_ hb10; repeat (first | exact hx10 | exact hbb | exact hba | exact Below.refl _ _ | refine bl_alloc ?_ _ | refine Below.drew ?_))
                    have zb := hz.mov hb10
                    have z0 := zb.cell 0
                    have z1 := zb.cell 1
                    have z2 := zb.cell 2
                    have y0 := zb.frozen 0
                    have y1 := zb.frozen 1
                    have y2 := zb.frozen 2
                    have lz := zb.lt
                    have hgb : WB.heap.size ≤ (wb.heap.size) := by (have h2 := hba.size; have h3 := hbb.size; omega)
                    clear hq)
                 | (refine (HE3.out (fun _ => False) _ G2 c2 (fun _ q => q.elim) (fun _ q => q.elim) ?hb3 ?hrow3).mono ?_
                    case hb3 => refine bl_then HWB.out.1 ?_; repeat (first | exact hx10 | exact hbb | exact hba | exact Below.refl _ _ | refine bl_alloc ?_ _ | refine Below.drew ?_)
                    case hrow3 => repeat (first | exact hrow2 | refine Row.mov lasts_F (by decide) ?_ (bl_alloc (Below.refl _ _) _))
                    rintro e w10 hq
                    obtain ⟨hb10, K3, H3, B3, N3, C3, X3, rfl, hrc3⟩ := hq.open
                    have hx10 : Below WB.heap.size WB w10 := (by refine bl_then ?_ hb10; repeat (first | exact hx10 | exact hbb | exact hba | exact Below.refl _ _ | refine bl_alloc ?_ _ | refine Below.drew ?_))
                    clear hq)))
        all_goals
          go_wp2_with fail
          go_meet
          first
            | exact ⟨_, _, _, _, _, _, _, rfl, rfl, bl_set3 hx10 hgb, zb.set3 _ _ _, (hrc3.set3 rfl _ _ _).less (fun _ q => q.elim)⟩
            | exact ⟨_, _, _, _, _, _, _, rfl, rfl, bl_alloc hx10 _, Blk.nw _ _ _ _ rfl, hrc3.mov (bl_alloc (Below.refl _ _) _)⟩
      case rest =>
        obtain ⟨gz, K3, H3, B3, N3, C3, X3, rfl, rfl, hxc, bz, hrc3⟩ := hcut
        clear HSS HFX HLN HL2 HL3 HEF HE3 HFJ EF EM HRX HNF HJ hj' m0 m1 m2 u0 u1 u2 u3 u4 u5 u6 u7 u8 u9 u10 u11 u12
        have hvc := bl_then HB0.out (bl_then HWB.out.1 hxc)
        have HVC := Lib.hid hvc
        have b19 := HWA.out.2.1.mov (bl_then HWB.out.2.1 hxc)
        have b23 := HWB.out.2.2.1.mov hxc
        have s0 := b19.cell 0
        have s1 := b19.cell 1
        have s2 := b19.cell 2
        have t0 := b23.cell 0
        have t1 := b23.cell 1
        have t2 := b23.cell 2
        have v0 := bz.cell 0
        have v1 := bz.cell 1
        have v2 := bz.cell 2
        have hrc1 := HWA.out.2.2.mov (bl_then HWB.out.2.1 hxc)
        have hrc2 := HWB.out.2.2.2.mov hxc
        have HUP' := HUP.out
        have HMO' := HMO.out
        clear hvc b19 b23 bz HUP HMO HWA HWB hxc
        rcases hrc1 with ⟨hR1, hx1, rfl, rfl, rfl, rfl, rfl⟩ | ⟨u1, hR1, rfl, rfl, rfl, rfl, hc1, hr1⟩
        · have d0 : (X1 != 0) = true := by simpa using hx1
          by_cases h2 : X1 = 2
          · subst h2
            clear hrc2 hrc3 HUP' HMO' hx1 hR1
            go_wp2_with fail
            go_ret
            exact ⟨by simp, HVC.out⟩
          · have d1 : (X1 == 2) = false := by simpa using h2
            have hR3 : R3.1 = .error X1 := by rw [HMO' (by rw [hR1]; simpa using h2), hR1]
            rcases hrc3 with ⟨hq, -, rfl, rfl, rfl, rfl, rfl⟩ | ⟨u3, hq, -⟩
            · rw [hR3] at hq
              obtain rfl := Except.error.inj hq
              clear hrc2 HUP' HMO' hx1 hR1 hR3 hq
              go_wp2_with (go_at_call 18; refine (Same_calls ⟨0, 0, []⟩ ⟨0, 0, []⟩ none 0 none 0 _ (.nil _) (Nat.le_refl _) (.nil _) (Nat.le_refl _)).mono ?_; rintro e w13 ⟨rfl, hb13⟩; rw [sameB_self]; have hv13 := bl_then HVC.out hb13)
              go_ret
              exact ⟨by simp, hv13⟩
            · rw [hR3] at hq
              cases hq
        · obtain ⟨r1, s1'⟩ := R1
          dsimp only at hR1
          subst hR1
          have hR2 := HUP' u1 s1' rfl
          have hR3 := HMO' (by simp)
          subst hR2 hR3
          rcases hrc2 with ⟨hq, -⟩ | ⟨u2, hq, rfl, rfl, rfl, rfl, hc2, hr2⟩
          · cases hq
          obtain rfl := Except.ok.inj hq
          rcases hrc3 with ⟨hq3, -⟩ | ⟨u3, hq3, rfl, rfl, rfl, rfl, hc3, hr3⟩
          · cases hq3
          obtain rfl := Except.ok.inj hq3
          have HR1 := Lib.hid (And.intro hr1 hc1)
          have HR2 := Lib.hid (And.intro hr2 hc2)
          have HR3 := Lib.hid (And.intro hr3 hc3)
          clear HUP' HMO' hr1 hr2 hr3 hc1 hc2 hc3 hq hq3
          go_upto_region 18 with (go_at_call 18; refine (Same_calls u1 u1 B1 C1 B2 C2 wc HR1.out.1 HR1.out.2 HR2.out.1 HR2.out.2).mono ?_; rintro e w13 ⟨rfl, hb13⟩; rw [sameB_self]; have hv13 := bl_then HVC.out hb13)
          have s0 := cell_mov s0 hb13
          have s1 := cell_mov s1 hb13
          have s2 := cell_mov s2 hb13
          have v0 := cell_mov v0 hb13
          have v1 := cell_mov v1 hb13
          have v2 := cell_mov v2 hb13
          have HR1' := Lib.hid (And.intro (HR1.out.1.mov hb13) HR1.out.2)
          have HR3' := Lib.hid (And.intro (HR3.out.1.mov hb13) HR3.out.2)
          clear HR1 HR2 HR3 t0 t1 t2 hb13
          go_wp2_with (go_at_call 18; refine (Same_calls u1 u1 B1 C1 B3 C3 w13 HR1'.out.1 HR1'.out.2 HR3'.out.1 HR3'.out.2).mono ?_; rintro e w14 ⟨rfl, hb14⟩; rw [sameB_self]; have hv14 := bl_then hv13 hb14)
          go_ret
          exact ⟨by simp, hv14⟩
theorem EvalBehind_row (w : World) (fs : List Fu) (A : Option Addr) (a : Nat) (hr : Row eF 13 (fun _ => False) w A fs) (ha : fs.length ≤ a) (gf : ∀ f ∈ fs, gF 1048576 f) (no : Int) (hn : -9223372036854775808 ≤ no ∧ no ≤ 9223372036854775807) (theta : List Tm) (T : Option Addr) (ct : Nat) (hT : Reads (fun _ => False) w T theta) (hct : theta.length ≤ ct) (_ : okL theta)
    (m : Tm) (M : Option Addr) (cm : Nat) (hM : Reads (fun _ => False) w M m.a) (hcm : m.a.length ≤ cm) (gm : okT m) (fuel : Int) (hf : -9223372036854775808 ≤ fuel ∧ fuel ≤ 9223372036854775807) (y : Cs) (cs : List Value) (hk : eK (fun _ => False) w cs y) (gk : gK 1048576 y) (hb : cnt m ≤ 1048576) :
    Calls Tryz.prog 7 #[.slice A fs.length a, .int .i64 no, .slice T theta.length ct, .agg #[.int .i64 m.k, .int .i64 m.h, .slice M m.a.length cm], .int .i64 fuel, .agg cs.toArray] w fun e w' => e = .returned (.bool true) ∧ Below w.heap.size w w' :=
  EvalBehind_walk w fs A a hr ha gf no hn.1 hn.2 theta T ct hT hct m M cm hM hcm ⟨gm, hb⟩ fuel hf.1 hf.2 y cs hk gk
end Go.Proofs.YtbmmdfehhhgkcaaGreat
