/- Rows of terms that a call makes itself, by appending. What comes back of a call that makes a term. -/
import Derived.Test.YtbmmdfehhhgkcaaGreatT3
namespace Go.Proofs.YtbmmdfehhhgkcaaGreat
open Go.RowKit Go.Shelf

theorem infoTm : (Tryz.prog.info? 25).map (fun i => (i.zero, i.size, i.bytes)) = some (some (.agg #[.int .i64 0, .int .i64 0, .slice none 0 0]), 3, 40) := by kernel_rfl

/-- A term's three cells, its parts at B. -/
def tmc (t : Tm) (q : Option Addr × Nat) : List Value := [.int .i64 t.k, .int .i64 t.h, .slice q.1 t.a.length q.2]
def tmcs : List Tm → List (Option Addr × Nat) → List Value
  | t :: ts, q :: qs => tmc t q ++ tmcs ts qs
  | _, _ => []
theorem tmcs_length : ∀ (ts : List Tm) (qs : List (Option Addr × Nat)), qs.length = ts.length → (tmcs ts qs).length = ts.length * 3
  | [], [], _ => rfl
  | [], _ :: _, h => by simp at h
  | _ :: _, [], h => by simp at h
  | t :: ts, q :: qs, h => by simp [tmcs, tmc, tmcs_length ts qs (by simpa using h)]; omega
theorem tmcs_snoc (t : Tm) (q : Option Addr × Nat) : ∀ (ts : List Tm) (qs : List (Option Addr × Nat)), qs.length = ts.length → tmcs (ts ++ [t]) (qs ++ [q]) = tmcs ts qs ++ tmc t q
  | [], [], _ => by simp [tmcs]
  | [], _ :: _, h => by simp at h
  | _ :: _, [], h => by simp at h
  | s :: ts, r :: qs, h => by simp [tmcs, tmcs_snoc t q ts qs (by simpa using h)]
theorem tmcs_at : ∀ (ts : List Tm) (qs : List (Option Addr × Nat)), qs.length = ts.length → ∀ i, (hi : i < ts.length) → (hq : i < qs.length) →
    (tmcs ts qs)[i * 3]? = some (.int .i64 ts[i].k) ∧ (tmcs ts qs)[i * 3 + 1]? = some (.int .i64 ts[i].h) ∧ (tmcs ts qs)[i * 3 + 2]? = some (.slice qs[i].1 ts[i].a.length qs[i].2)
  | [], _, _, i, hi, _ => absurd hi (by simp)
  | _ :: _, [], h, _, _, _ => by simp at h
  | t :: ts, q :: qs, h, 0, _, _ => by simp [tmcs, tmc]
  | t :: ts, q :: qs, h, i + 1, hi, hq => by
    have r := tmcs_at ts qs (by simpa using h) i (by simpa using hi) (by simpa using hq)
    have e : (i + 1) * 3 = i * 3 + 3 := by omega
    simp only [tmcs, tmc, e, List.cons_append, List.nil_append, List.getElem?_cons_succ, List.getElem_cons_succ]
    exact r

/-- v is a row of one's own (from block base on) that reads as ts; neither it nor what it leads to lies in S. -/
def Mine (base : Nat) (S : Nat → Prop) (w : World) (v : Value) (ts : List Tm) : Prop :=
  ts.length ≤ lim ∧ (∀ k, v.ownBlock = some k → ¬ S k) ∧ ∃ qs : List (Option Addr × Nat), qs.length = ts.length ∧ w.ownsRow base 25 3 v ts.length (tmcs ts qs) ∧
    ∀ i, (hi : i < ts.length) → (hq : i < qs.length) → ts[i].a.length ≤ qs[i].2 ∧ Reads (fun k => S k ∨ v.ownBlock = some k) w qs[i].1 ts[i].a

section
variable {base : Nat} {S : Nat → Prop} {w w' : World} {v : Value} {ts : List Tm}
theorem Mine.nil (base : Nat) (S : Nat → Prop) (w : World) : Mine base S w (.slice none 0 0) [] :=
  ⟨by simp, by simp [Value.ownBlock], [], rfl, ⟨by simp [tmcs], .inl ⟨rfl, rfl⟩⟩, fun i hi => absurd hi (by simp)⟩
theorem Mine.lt (h : Mine base S w v ts) : ∀ k, v.ownBlock = some k → k < w.heap.size := by
  intro k hk
  obtain ⟨_, _, qs, _, ho, _⟩ := h
  rcases ho.2 with ⟨rfl, _⟩ | ⟨g, cap, cur, rfl, _, hh, _⟩
  · simp [Value.ownBlock] at hk
  · have : g = k := by simpa [Value.ownBlock] using hk
    subst this
    exact (Array.getElem?_eq_some_iff.1 hh).1
theorem Mine.ge (h : Mine base S w v ts) : ∀ k, v.ownBlock = some k → base ≤ k := by
  intro k hk
  obtain ⟨_, _, qs, _, ho, _⟩ := h
  rcases ho.2 with ⟨rfl, _⟩ | ⟨g, cap, cur, rfl, hb, hh, _⟩
  · simp [Value.ownBlock] at hk
  · have : g = k := by simpa [Value.ownBlock] using hk
    subst this
    exact hb
theorem Mine.step (hb : ∀ k, k < w.heap.size → ¬ S k → w'.heap[k]? = w.heap[k]?) (h : Mine base S w v ts) : Mine base S w' v ts := by
  have hlt := h.lt
  obtain ⟨h0, h1, qs, h2, ho, h3⟩ := h
  refine ⟨h0, h1, qs, h2, ⟨ho.1, ?_⟩, fun i hi hq => ⟨(h3 i hi hq).1, (h3 i hi hq).2.step (fun k _ hk => hk) (fun k hk hs => hb k hk (fun q => hs (.inl q)))⟩⟩
  rcases ho.2 with h4 | ⟨g, cap, cur, rfl, hg, hh, r⟩
  · exact .inl h4
  · exact .inr ⟨g, cap, cur, rfl, hg, (hb g (hlt g rfl) (h1 g rfl)).trans hh, r⟩
theorem Mine.mov (h : Mine base S w v ts) (hb : Below w.heap.size w w') : Mine base S w' v ts := h.step (fun k hk _ => hb.block k hk)
theorem Mine.set (h : Mine base S w v ts) {p : Addr} (hp : S p.block) (u : Value) : Mine base S (w.setCell p u) v ts :=
  h.step (fun k _ hs => Below.heap_setCell w p u k (fun e => hs (e ▸ hp)))
theorem Mine.slice (h : Mine base S w v ts) : ∃ A c, v = .slice A ts.length c := by
  obtain ⟨_, _, qs, h2, ho, _⟩ := h
  rcases ho.2 with ⟨rfl, e⟩ | ⟨g, cap, cur, rfl, _⟩
  · exact ⟨none, 0, by rw [e]⟩
  · exact ⟨_, cap, rfl⟩
theorem Mine.reads (h : Mine base S w v ts) : ∃ A c, v = .slice A ts.length c ∧ ts.length ≤ c ∧ Reads S w A ts := by
  have h' := h
  obtain ⟨h0, h1, qs, h2, ho, h3⟩ := h
  rcases ho.2 with ⟨rfl, e⟩ | ⟨g, cap, cur, rfl, hg, hh, hcap, hm, hsz, htake⟩
  · obtain rfl := List.eq_nil_of_length_eq_zero e
    exact ⟨none, 0, rfl, by simp, .nil _⟩
  · refine ⟨_, cap, rfl, hcap, .row g 0 ts (fun i => (qs.getD i (none, 0)).1) (fun i => (qs.getD i (none, 0)).2) (h1 g rfl) h0 (fun i hi => ?_) (fun i hi => ?_)⟩
    · have hq : i < qs.length := by omega
      obtain ⟨a0, a1, a2⟩ := tmcs_at ts qs h2 i hi hq
      have hcell : ∀ j u, (tmcs ts qs)[j]? = some u → w.cell? ⟨g, j, none⟩ = some u := fun j u e => by
        have := ho.cells (g := g) rfl j u e
        rwa [add_plain, Nat.zero_add] at this
      have e1 : qs.getD i (none, 0) = qs[i] := by simp [List.getD_eq_getElem?_getD, hq]
      rw [e1]
      refine ⟨hcell _ _ (by rw [Nat.zero_add, Nat.mul_comm]; exact a0), hcell _ _ (by rw [Nat.zero_add, Nat.mul_comm]; exact a1), hcell _ _ (by rw [Nat.zero_add, Nat.mul_comm]; exact a2), (h3 i hi hq).1⟩
    · have hq : i < qs.length := by omega
      have e1 : qs.getD i (none, 0) = qs[i] := by simp [List.getD_eq_getElem?_getD, hq]
      show Reads S w (qs.getD i (none, 0)).1 _
      rw [e1]
      exact (h3 i hi hq).2.step (fun k _ hk q => hk (.inl q)) (fun _ _ _ => rfl)
end

/-- 'append(v, t)': behind 'at_builtin'. -/
theorem append_tm {ops : Array Oper} {rest : List Oper} {o : Oper} {a : Act} {Q : Exit → Act → World → Prop} (hgd : o.guard = none) (s x : Operand)
    (ho : o.op = .call { callee := .builtin .append, args := #[s, x], argTypes := #[23, 23] })
    (base : Nat) (S : Nat → Prop) {W : World} (v : Value) (ts : List Tm) (t : Tm) (B : Option Addr) (c : Nat) (hs : a.eval s = v) {g : Nat} (hx : a.eval x = .slice (some ⟨g, 0, none⟩) 1 1) (hgs : g = W.heap.size)
    (HM : Mine base S W v ts) (hr : Reads (fun k => S k ∨ v.ownBlock = some k) W B t.a) (hc : t.a.length ≤ c) (hS : ∀ k, S k → k < W.heap.size) (hbase : base ≤ W.heap.size) (hl : ts.length + 1 ≤ lim)
    (h : ∀ v1 w1, Mine base S w1 v1 (ts ++ [t]) → W.grownBy w1 v.ownBlock → wpList Tryz.prog ops Q rest (a.put o.dst v1) w1) :
    wpList Tryz.prog ops Q (o :: rest) a (W.alloc (.cells #[.int .i64 t.k, .int .i64 t.h, .slice B t.a.length c] 25)) := by
  subst hgs
  have hlt := HM.lt
  obtain ⟨h0, h1, qs, h2, hown, h3⟩ := HM
  obtain ⟨i0, hi, hzz⟩ := Option.map_eq_some_iff.1 infoTm
  simp only [Prod.mk.injEq] at hzz
  obtain ⟨hz0, hz1, hz2⟩ := hzz
  unfold lim at hl
  have hm : ts.length ≤ 140737488355328 := by omega
  refine wpList_append_own_at (W.alloc (.cells #[.int .i64 t.k, .int .i64 t.h, .slice B t.a.length c] 25)) hgd s x 23 ho base 25 i0 _ 3 40 Tryz.underlying23 hi hz0 hz1 hz2 rfl (by decide) v ts.length (tmcs ts qs) hs (hown.alloc _) ⟨W.heap.size, 0, none⟩ 1 1 (tmc t (B, c)) hx rfl
    (fun j u e => ?_) (by simp [tmc, Value.oneCell']) (by simp only [maxLen]; omega) (by omega) (by simp; omega) ?_
  · rw [add_plain, Nat.zero_add]
    have hb := (Blk.new W #[.int .i64 t.k, .int .i64 t.h, .slice B t.a.length c] 25).cell j
    rw [hb]
    simpa [tmc] using e
  · intro v1 w1 hown1 hg _ hat
    have hg' : W.grownBy w1 v.ownBlock := World.grownBy.trans (World.grownBy_alloc W _ _) hg
    refine h v1 w1 ⟨by rw [List.length_append]; unfold lim; simpa using hl, fun k hk => ?_, qs ++ [(B, c)], by simp [h2], by rw [tmcs_snoc _ _ _ _ h2]; simpa using hown1, fun i hi hq => ?_⟩ hg'
    · rcases hat with e | e
      · exact h1 k (by rw [← e]; exact hk)
      · rw [e] at hk
        injection hk with hk
        intro q
        have := hS k q
        simp at hk
        omega
    · have key : ∀ (A : Option Addr) (l : List Tm), Reads (fun k => S k ∨ v.ownBlock = some k) W A l → Reads (fun k => S k ∨ v1.ownBlock = some k) w1 A l := by
        intro A l hl
        refine hl.step (fun k hk hn q => ?_) (fun k hk hn => hg'.block k hk (fun q => hn (.inr q.symm)))
        rcases q with q | q
        · exact hn (.inl q)
        · rcases hat with e | e
          · exact hn (.inr (by rw [← e]; exact q))
          · rw [e] at q
            injection q with q
            simp at q
            omega
      by_cases hlt2 : i < ts.length
      · have hq2 : i < qs.length := by omega
        rw [List.getElem_append_left hlt2, List.getElem_append_left hq2]
        exact ⟨(h3 i hlt2 hq2).1, key _ _ (h3 i hlt2 hq2).2⟩
      · obtain rfl : i = ts.length := by simp at hi; omega
        have e1 : (ts ++ [t])[ts.length]'hi = t := by simp
        have e2 : (qs ++ [(B, c)])[ts.length]'hq = (B, c) := by simp [← h2]
        rw [e1, e2]
        exact ⟨hc, key _ _ hr⟩

theorem bl_grown {a w w1 : World} (h : Below a.heap.size a w) {row : Option Nat} (hg : w.grownBy w1 row) (hr : ∀ k, row = some k → a.heap.size ≤ k) : Below a.heap.size a w1 := h.grown hg h.size hr
theorem bl_set3 {a w : World} (h : Below a.heap.size a w) {g : Nat} (hg : a.heap.size ≤ g) {x y z : Value} : Below a.heap.size a (((w.setCell ⟨g, 0, none⟩ x).setCell ⟨g, 1, none⟩ y).setCell ⟨g, 2, none⟩ z) :=
  bl_set (bl_set (bl_set h hg _) hg _) hg _
theorem Blk.set {W : World} {g : Nat} {cs : Array Value} {t : TypeId} (h : Blk W g cs t) (j : Nat) (u : Value) : Blk (W.setCell ⟨g, j, none⟩ u) g (cs.setIfInBounds j u) t := by
  obtain ⟨hlt, hk⟩ := Array.getElem?_eq_some_iff.1 h
  show (W.heap.modify g _)[g]? = _
  rw [Array.getElem?_eq_getElem (by rw [Array.size_modify]; exact hlt), Array.getElem_modify_self, hk]
  rfl
theorem Blk.far {W : World} {g : Nat} {cs : Array Value} {t : TypeId} (h : Blk W g cs t) {p : Addr} (hp : g ≠ p.block) (u : Value) : Blk (W.setCell p u) g cs t := (Below.heap_setCell W p u g hp).trans h
theorem Blk.grown {W W' : World} {g : Nat} {cs : Array Value} {t : TypeId} (h : Blk W g cs t) {row : Option Nat} (hg : W.grownBy W' row) (hne : some g ≠ row) : Blk W' g cs t := (hg.block g h.lt hne).trans h
theorem Blk.set3 {W : World} {g : Nat} {a b c : Value} {t : TypeId} (h : Blk W g #[a, b, c] t) (x y z : Value) : Blk (((W.setCell ⟨g, 0, none⟩ x).setCell ⟨g, 1, none⟩ y).setCell ⟨g, 2, none⟩ z) g #[x, y, z] t := ((h.set 0 x).set 1 y).set 2 z
theorem Reads.set {S : Nat → Prop} {w : World} {A : Option Addr} {ts : List Tm} (h : Reads S w A ts) {p : Addr} (hp : S p.block) (u : Value) : Reads S (w.setCell p u) A ts :=
  h.step (fun _ _ hk => hk) (fun k _ hs => Below.heap_setCell w p u k (fun e => hs (e ▸ hp)))
theorem Reads.set3 {S : Nat → Prop} {w : World} {A : Option Addr} {ts : List Tm} (h : Reads S w A ts) {g : Nat} (hp : S g) {x y z : Value} : Reads S (((w.setCell ⟨g, 0, none⟩ x).setCell ⟨g, 1, none⟩ y).setCell ⟨g, 2, none⟩ z) A ts :=
  ((h.set (p := ⟨g, 0, none⟩) hp x).set (p := ⟨g, 1, none⟩) hp y).set (p := ⟨g, 2, none⟩) hp z
/-- A term in a variable and one thing more, handed back. -/
theorem res_tm {fn : Func} {p u : Tmp} (h : fn.results = #[.cell p 25, .tmp u]) (tmps : Array Value) (W : World) (g : Nat) (x y z : Value) (hp : tmps[p]?.getD undef = .pointer (some ⟨g, 0, none⟩)) (hb : Blk W g #[x, y, z] 25) :
    (results fn tmps).run Tryz.prog W = .ok (.tuple #[.agg #[x, y, z], tmps[u]?.getD undef]) W := by
  have q0 := hb.cell 0
  have q1 := hb.cell 1
  have q2 := hb.cell 2
  simp [results, h, hp, go_sem, q0, q1, q2]
theorem res_tm1 {fn : Func} {p : Tmp} (h : fn.results = #[.cell p 25]) (tmps : Array Value) (W : World) (g : Nat) (x y z : Value) (hp : tmps[p]?.getD undef = .pointer (some ⟨g, 0, none⟩)) (hb : Blk W g #[x, y, z] 25) :
    (results fn tmps).run Tryz.prog W = .ok (.agg #[x, y, z]) W := by
  have q0 := hb.cell 0
  have q1 := hb.cell 1
  have q2 := hb.cell 2
  simp [results, h, hp, go_sem, q0, q1, q2]

theorem lastN_tst {kk n : Int} {ts : List Tm} {i : Nat} (hlt : i < ts.length) :
    lastN (isB kk) (ts.drop (i + 1)) n = if ((kk == 1 || kk == 3) && ((i : Int) == (ts.length : Int) - 1)) = true then wrap64 (n + 1) else n := by
  have e : isB kk = (kk == 1 || kk == 3) := rfl
  rw [lastN_of n hlt, e]
  by_cases h : i + 1 = ts.length
  · have : ((i : Int) == (ts.length : Int) - 1) = true := by simp; omega
    simp [this, h]
  · have : ((i : Int) == (ts.length : Int) - 1) = false := by simp; omega
    simp [this, h]

theorem bl_undrew {w w' : World} (h : Below w.drew.heap.size w.drew w') : Below w.heap.size w w' := ⟨h.os, h.tape, h.output, h.size, h.block⟩
end Go.Proofs.YtbmmdfehhhgkcaaGreat
namespace Go.Proofs.YtbmmdfehhhgkcaaGreat
open Go.RowKit Go.Shelf

def S3 (S : Nat → Prop) (g : Nat) : Nat → Prop := fun k => S k ∨ (g ≤ k ∧ k ≤ g + 2)
abbrev zeroTm : Value := .agg #[.int .i64 0, .int .i64 0, .slice none 0 0]
/-- What comes back: a term and true, or the nought and false. -/
def RetT (S : Nat → Prop) (r : Option Tm) (w : World) (e : Ending) (w' : World) : Prop :=
  Below w.heap.size w w' ∧ ((r = none ∧ e = .returned (.tuple #[zeroTm, .bool false])) ∨
    ∃ u B c, r = some u ∧ e = .returned (.tuple #[.agg #[.int .i64 u.k, .int .i64 u.h, .slice B u.a.length c], .bool true]) ∧ u.a.length ≤ c ∧ Reads S w' B u.a)

/-- What comes back: a term. -/
def RetU (S : Nat → Prop) (u : Tm) (w : World) (e : Ending) (w' : World) : Prop :=
  Below w.heap.size w w' ∧ ∃ B c, e = .returned (.agg #[.int .i64 u.k, .int .i64 u.h, .slice B u.a.length c]) ∧ u.a.length ≤ c ∧ Reads S w' B u.a
end Go.Proofs.YtbmmdfehhhgkcaaGreat
