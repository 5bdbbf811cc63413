/- A row of metas, clauses, functions .., copied by 'append(nil, xs...)'. -/
import Derived.Test.YtbmmdfehhhgkcaaGreatDT
import Derived.Test.YtbmmdfehhhgkcaaGreatBA
import Derived.Test.YtbmmdfehhhgkcaaGreatRU
namespace Go.Proofs.YtbmmdfehhhgkcaaGreat
open Go.RowKit Go.Shelf

theorem flat_get {α : Type} {sz : Nat} (hz : 0 < sz) : ∀ (css : List (List α)), (∀ c ∈ css, c.length = sz) → ∀ k, css.flatten[k]? = (css[k / sz]?).bind fun c => c[k % sz]?
  | [], _, k => by simp
  | c :: css, h, k => by
    rw [List.flatten_cons]
    have hc : c.length = sz := h c (by simp)
    rcases Nat.lt_or_ge k sz with hk | hk
    · rw [List.getElem?_append_left (by omega), Nat.div_eq_of_lt hk, Nat.mod_eq_of_lt hk]
      rfl
    · rw [List.getElem?_append_right (by omega), flat_get hz css (fun d hd => h d (List.mem_cons_of_mem _ hd)), hc]
      have e1 : k / sz = (k - sz) / sz + 1 := by
        rw [← Nat.add_div_right _ hz, Nat.sub_add_cancel hk]
      have e2 : k % sz = (k - sz) % sz := by
        rw [← Nat.add_mod_right (k - sz) sz, Nat.sub_add_cancel hk]
      rw [e1, e2, List.getElem?_cons_succ]
theorem flat_at {α : Type} {sz : Nat} (hz : 0 < sz) {css : List (List α)} (h : ∀ c ∈ css, c.length = sz) {i j : Nat} (hi : i < css.length) (hj : j < sz) : css.flatten[i * sz + j]? = css[i][j]? := by
  rw [flat_get hz css h, Nat.mul_comm, Nat.mul_add_div hz, Nat.div_eq_of_lt hj, Nat.add_zero, List.getElem?_eq_getElem hi, Nat.mul_add_mod, Nat.mod_eq_of_lt hj]
  rfl
theorem flat_len {α : Type} {sz : Nat} : ∀ (css : List (List α)), (∀ c ∈ css, c.length = sz) → css.flatten.length = css.length * sz
  | [], _ => by simp
  | c :: css, h => by
    rw [List.flatten_cons, List.length_append, flat_len css (fun d hd => h d (List.mem_cons_of_mem _ hd)), h c (by simp), List.length_cons, Nat.add_mul]
    omega

/-- What the copy is: block g holds the cells of each. -/
def Copied {α : Type} (E : (Nat → Prop) → World → List Value → α → Prop) (sz : Nat) (S : Nat → Prop) (w : World) (cur : Array Value) (xs : List α) : Prop :=
  ∀ i, (hi : i < xs.length) → ∃ cs, cs.length = sz ∧ E S w cs xs[i] ∧ ∀ j, j < sz → cur[i * sz + j]? = cs[j]?

theorem run_append_row {α : Type} {E : (Nat → Prop) → World → List Value → α → Prop} (hE : Lasts E) (hone : ∀ {S w cs x}, E S w cs x → ∀ u ∈ cs, u.oneCell' = true) {sz bys : Nat} {T e : TypeId} (hT : Tryz.prog.underlying T = some (.slice e)) (z : Value)
    (hinfo : (Tryz.prog.info? e).map (fun i => (i.zero, i.size, i.bytes)) = some (some z, sz, bys)) (hzs : z.cells.size = sz) (hz : 0 < sz) (hby : bys ≤ 400) (ty : TypeId) {S : Nat → Prop} {W : World} {A : Option Addr} {xs : List α} {c : Nat} (hr : Row E sz S W A xs) (hlim : xs.length ≤ 1048576) :
    ∃ v1 w1, (Builtin.append_ #[T, T] ty #[.slice none 0 0, .slice A xs.length c]).run Tryz.prog W = .ok v1 w1 ∧ Below W.heap.size W w1 ∧
      ((xs = [] ∧ v1 = .slice none 0 0) ∨ ∃ g cap cur, v1 = .slice (some ⟨g, 0, none⟩) xs.length cap ∧ W.heap.size ≤ g ∧ xs.length ≤ cap ∧ Blk w1 g cur e ∧ Copied E sz S w1 cur xs) := by
  obtain ⟨i0, hi, hzz⟩ := Option.map_eq_some_iff.1 hinfo
  simp only [Prod.mk.injEq] at hzz
  obtain ⟨hz0, hz1, hz2⟩ := hzz
  have hown := World.ownsRow_nil W W.heap.size e sz
  have hmul : xs.length * bys ≤ 1048576 * 400 := Nat.mul_le_mul hlim hby
  rcases Nat.eq_zero_or_pos xs.length with h0 | h0
  · have hnil := List.eq_nil_of_length_eq_zero h0
    rw [h0]
    cases A with
    | none => exact ⟨_, W, run_append_none T W.heap.size e i0 sz hT hi ty _ 0 [] hown c, Below.refl _ _, .inl ⟨hnil, rfl⟩⟩
    | some ad =>
      obtain ⟨v', w', hrun, k2, k3, k4, k5⟩ := run_append_own_at (P := Tryz.prog) W W.heap.size T ty e i0 z sz bys hT hi hz0 hz1 hz2 hzs hz _ 0 [] hown ad 0 c [] (by simp) (by simp) (by simp) (by simp [maxLen]) (by omega) (Nat.le_refl _)
      have hv := k4.2 ⟨rfl, rfl⟩
      exact ⟨v', w', hrun, ⟨k3.os, k3.tape, k3.output, k3.size, fun k hk => k3.block k hk (by simp [Value.ownBlock])⟩, .inl ⟨hnil, hv⟩⟩
  · have each : ∀ i, i < xs.length → ∃ cs : List Value, ∀ (hi : i < xs.length), cs.length = sz ∧ (∀ ad, A = some ad → ∀ j u, cs[j]? = some u → W.cell? (ad.add (i * sz + j)) = some u) ∧ E S W cs xs[i] := by
      intro i hi
      obtain ⟨ad, cs, h1, h2, h3, h4, h5, h6⟩ := hr.2 i hi
      refine ⟨cs, fun _ => ⟨h4, fun ad' e' j u hu => ?_, h6⟩⟩
      rw [h1] at e'
      obtain rfl := Option.some.inj e'
      obtain ⟨b, o, sp⟩ := ad
      dsimp only at h2
      subst h2
      rw [add_plain]
      exact h5 j u hu
    obtain ⟨css, hcl, hcs⟩ := build xs.length each
    have hlen : ∀ c ∈ css, c.length = sz := fun c hc => by
      obtain ⟨i, hi, rfl⟩ := List.getElem_of_mem hc
      exact (hcs i hi (by omega)).1
    obtain ⟨ad, cs0, hA, _⟩ := hr.2 0 h0
    subst hA
    have hnews : ∀ k u, css.flatten[k]? = some u → W.cell? (ad.add k) = some u := fun k u hu => by
      rw [flat_get hz css hlen] at hu
      obtain ⟨cs, hc1, hc2⟩ := Option.bind_eq_some_iff.1 hu
      obtain ⟨hlt, rfl⟩ := List.getElem?_eq_some_iff.1 hc1
      have := (hcs _ hlt (by omega)).2.1 ad rfl _ u hc2
      rw [Nat.div_add_mod' k sz] at this
      exact this
    have hall : ∀ u ∈ css.flatten, u.oneCell' = true := fun u hu => by
      obtain ⟨cs, hc1, hc2⟩ := List.mem_flatten.1 hu
      obtain ⟨i, hi, rfl⟩ := List.getElem_of_mem hc1
      exact hone (hcs i hi (by omega)).2.2 u hc2
    obtain ⟨v', w', hrun, k2, k3, k4, k5⟩ := run_append_own_at (P := Tryz.prog) W W.heap.size T ty e i0 z sz bys hT hi hz0 hz1 hz2 hzs hz _ 0 [] hown ad xs.length c css.flatten (by rw [flat_len css hlen, hcl]) hnews hall (by simp only [maxLen]; omega) (by rw [Nat.zero_add]; omega) (Nat.le_refl _)
    have hb : Below W.heap.size W w' := ⟨k3.os, k3.tape, k3.output, k3.size, fun k hk => k3.block k hk (by simp [Value.ownBlock])⟩
    refine ⟨v', w', hrun, hb, .inr ?_⟩
    rcases k2.2 with ⟨hv, hn⟩ | ⟨g, cap, cur, rfl, hg, hh, hcap, _, hsz, htake⟩
    · omega
    · rw [Nat.zero_add] at hcap htake
      refine ⟨g, cap, cur, by rw [Nat.zero_add], hg, hcap, hh, fun i hi => ?_⟩
      refine ⟨css[i], (hcs i (by omega) hi).1, hE.step (fun _ _ q => q) (fun k hk _ => hb.block k hk) (hcs i (by omega) hi).2.2, fun j hj => ?_⟩
      have hlt : i * sz + j < xs.length * sz := by
        have := Nat.mul_le_mul_right sz (show i + 1 ≤ xs.length from hi)
        rw [Nat.add_mul] at this
        omega
      rw [← flat_at hz hlen (by omega : i < css.length) hj, ← List.nil_append css.flatten, ← htake, List.getElem?_take, if_pos hlt]
      simp

/-- At the operation. -/
theorem wpList_append_row {ops : Array Oper} {rest : List Oper} {o : Oper} {a : Act} {Q : Exit → Act → World → Prop} (hgd : o.guard = none) (x : Operand) {α : Type} {E : (Nat → Prop) → World → List Value → α → Prop} (hE : Lasts E)
    (hone : ∀ {S w cs x}, E S w cs x → ∀ u ∈ cs, u.oneCell' = true) {sz bys : Nat} (T : TypeId) {e : TypeId} (ho : o.op = .call { callee := .builtin .append, args := #[.const (.slice none 0 0), x], argTypes := #[T, T] }) (hT : Tryz.prog.underlying T = some (.slice e)) (z : Value)
    (hinfo : (Tryz.prog.info? e).map (fun i => (i.zero, i.size, i.bytes)) = some (some z, sz, bys)) (hzs : z.cells.size = sz) (hz : 0 < sz) (hby : bys ≤ 400) {S : Nat → Prop} {W : World} {A : Option Addr} {xs : List α} {c : Nat} (hx : a.eval x = .slice A xs.length c) (hr : Row E sz S W A xs) (hlim : xs.length ≤ 1048576)
    (h : ∀ v1 w1, Below W.heap.size W w1 → ((xs = [] ∧ v1 = .slice none 0 0) ∨ ∃ g cap cur, v1 = .slice (some ⟨g, 0, none⟩) xs.length cap ∧ W.heap.size ≤ g ∧ xs.length ≤ cap ∧ Blk w1 g cur e ∧ Copied E sz S w1 cur xs) → wpList Tryz.prog ops Q rest (a.put o.dst v1) w1) :
    wpList Tryz.prog ops Q (o :: rest) a W := by
  refine wpList_plain hgd fun K hK => ?_
  obtain ⟨v1, w1, hrun, h2, h3⟩ := run_append_row hE hone hT z hinfo hzs hz hby o.type hr hlim (c := c)
  have hc : a.eval (.const (.slice none 0 0)) = .slice none 0 0 := rfl
  unfold Oper.wp execOp
  simp only [ho, resolve, invoke, builtin, Sem.run_bind, Sem.run_pure, Result.andThen_ok, List.map_toArray, List.map_cons, List.map_nil, hc, hx, hrun]
  exact hK _ _ (h v1 w1 h2 h3)
end Go.Proofs.YtbmmdfehhhgkcaaGreat
