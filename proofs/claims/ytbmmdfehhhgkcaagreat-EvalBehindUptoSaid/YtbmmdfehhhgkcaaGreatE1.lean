/- A range over a function whose items lead into memory that the function itself lays: what a yield asks is told of the world at hand. Rows of truth values that a call makes itself, by appending. The contracts of metas.Params and metas.Sizes. The contracts of match.Whole, meta.All and slices.EqualFunc at rows of terms. -/
import Derived.Test.YtbmmdfehhhgkcaaGreatT3
import Derived.Test.YtbmmdfehhhgkcaaGreatDT
import Derived.Test.YtbmmdfehhhgkcaaGreatMV
import Derived.Test.YtbmmdfehhhgkcaaGreatBI
import Derived.Test.YtbmmdfehhhgkcaaGreatLF
import Derived.Test.YtbmmdfehhhgkcaaGreatMT
namespace Go.Proofs.YtbmmdfehhhgkcaaGreat
open Go.RowKit Go.Shelf
set_option linter.unusedVariables false
set_option linter.unusedSimpArgs false

/-- All cells lie as they lay. -/
abbrev Kz : World → World → Prop := KC (fun _ => False)
theorem kz_below {A B : World} (h : Below A.heap.size A B) : Kz A B := KC.of_below h
theorem kz_put {W : World} {l : Nat} {o : Obj} (o' : Obj) (h : W.heap[l]? = some o) (hc : o.isCells = false) : Kz W (W.putObj l o') := KC.putObj W l o o' h hc
/-- What a caller's own walk leaves: blocks below n lie as they lay, and so do all cells. -/
structure Kw (n : Nat) (A B : World) : Prop where
  below : Below n A B
  cells : Kz A B
theorem Kw.refl (n : Nat) (A : World) : Kw n A A := ⟨Below.refl _ _, KC.refl _ _⟩
theorem Kw.trans {n : Nat} {A B C : World} (h : Kw n A B) (k : Kw n B C) : Kw n A C := ⟨h.below.trans k.below, h.cells.trans k.cells⟩
theorem Kw.of {n : Nat} {A B : World} (hn : n ≤ A.heap.size) (h : Below A.heap.size A B) : Kw n A B := ⟨h.mono hn, kz_below h⟩
theorem Kw.put {n : Nat} {W : World} {l : Nat} {o : Obj} (o' : Obj) (hn : n ≤ l) (h : W.heap[l]? = some o) (hc : o.isCells = false) : Kw n W (W.putObj l o') :=
  ⟨(Below.refl n W).grown (grownBy_putObj' W l o') (by have := (Array.getElem?_eq_some_iff.1 h).1; omega) (fun k e => by cases e; omega), kz_put o' h hc⟩

/-- A function that is ranged over: whatever it yields, Has tells of it in the world at hand; S of all that it yields, Sp of what it yielded where it was stopped. -/
def Gives {α : Type} (m g : Nat) (lb : Array Value) (encs : α → Array Value) (Has : α → World → Prop) (S Sp : List α → Prop) (w : World) : Prop :=
  ∀ (l : Nat) (J Jx : List α → World → Prop) (W : World), Below w.heap.size w W → (∀ s A B, J s A → Below A.heap.size A B → J s B) →
    (∀ pre x W1, J pre W1 → Has x W1 → YieldAt Fence.wide (m - 1) Tryz.prog l (encs x) W1 fun e W' =>
      (e = .returned (.bool true) ∧ J (pre ++ [x]) W' ∧ Kz W1 W' ∧ Below w.heap.size W1 W') ∨ (e = .returned (.bool false) ∧ Jx (pre ++ [x]) W')) →
    J [] W → CallsIn Fence.wide m Tryz.prog g (#[.func (.yield l) #[] #[]] ++ lb) W fun e W' => (∃ v, e = .returned v) ∧ ((∃ xs, S xs ∧ J xs W') ∨ (∃ pre, Sp pre ∧ Jx pre W'))

/-- How a round's body may be left. -/
def roundEnd {α : Type} (n : Nat) (I : List α → World → Prop) (Ix : Code → List α → World → Prop) (xs : List α) (W : World) : Exit → Act → World → Prop
  | .normal, _, W' => (KeepsFrom n W W' ∧ Below n W W' ∧ Kz W W') ∧ I xs W'
  | .ret, _, W' => KeepsFrom n W W' ∧ Ix .ret xs W'
  | .exit id, _, W' => KeepsFrom n W W' ∧ Ix (.exit id) xs W'
  | .goto t, _, W' => KeepsFrom n W W' ∧ Ix (.goto t) xs W'
  | .panic _, _, _ => False
  | .outgrown, _, _ => False

theorem range_gives {α : Type} {g : Operand} {ps : Array Tmp} {assign body : Code} {Q : Exit → Act → World → Prop} {a : Act} {w : World} {m : Nat} (h1 : 1 ≤ m) {gf : Nat} {lb : Array Value} (hg : a.eval g = .func (.func gf) #[] lb)
    (eg : ∀ args w, (callFunc gf args).run Tryz.prog w = .ok (.enter gf args) w) {encs : α → Array Value} {Has : α → World → Prop} {S Sp : List α → Prop} (hseq : Gives (m - 1) gf lb encs Has S Sp w) (hps : ∀ x, (encs x).size = ps.size)
    (I : List α → World → Prop) (Ix : Code → List α → World → Prop) (hI : ∀ s A B, I s A → Kw w.heap.size A B → I s B) (hIx : ∀ c s A B, Ix c s A → Kw w.heap.size A B → Ix c s B) (h0 : I [] w)
    (hround : ∀ (l : Nat) (pre : List α) (x : α) (W : World) (K : Act → World → Prop), I pre W → Has x W →
      (∀ a' W', Below W.heap.size W W' → (∀ W2, Kw w.heap.size W' W2 → body.wpIn (Fence.wide.inRound l) (m - 1 - 1) Tryz.prog (roundEnd w.heap.size I Ix (pre ++ [x]) W2) a' W2) → K a' W') →
      assign.wpIn (Fence.wide.inRound l) (m - 1 - 1) Tryz.prog (Exit.then K (fun _ _ _ => False)) { tmps := (ps.zip (encs x)).foldl (fun t (p, v) => t.setIfInBounds p v) a.tmps, defers := [] } W)
    (hdone : ∀ (D : Nat) (xs : List α) (W : World), w.heap.size ≤ D → S xs → I xs W → W.heap[D]? = some (.deferred (some [])) → Q .normal { a with defers := { target := .collected D, args := #[] } :: a.defers } W)
    (hstop : ∀ (D : Nat) (c : Code) (pre : List α) (W : World), w.heap.size ≤ D → Sp pre → Ix c pre W → W.heap[D]? = some (.deferred (some [])) → c.wpIn Fence.wide m Tryz.prog Q { a with defers := { target := .collected D, args := #[] } :: a.defers } W) :
    (Code.rangeFunc g ps assign body).wpIn Fence.wide m Tryz.prog Q a w := by
  refine wpIn_rangeFunc fun fn hfn => ?_
  let rc : LoopState → Option Code → Loop := fun st pe => { state := st, pending := pe, fn, tmps := a.tmps, params := ps, assign, body, defers := w.heap.size }
  have hb : Below w.heap.size w ((w.alloc (.deferred (some []))).alloc (.loop (rc .ready none))) := bl_alloc (bl_alloc (Below.refl _ _) _) _
  refine ⟨w.heap.size + 1, [{ target := .collected w.heap.size, args := #[] }], (w.alloc (.deferred (some []))).alloc (.loop (rc .ready none)), { target := .fn (.func gf) lb, args := #[.func (.yield (w.heap.size + 1)) #[] #[]] }, (w.alloc (.deferred (some []))).alloc (.loop (rc .ready none)), gf,
    #[.func (.yield (w.heap.size + 1)) #[] #[]] ++ lb, (w.alloc (.deferred (some []))).alloc (.loop (rc .ready none)), run_enterLoop_outer _ _ _ _ _, by simp only [resolve, hg]; simp [go_sem], fun f' hf' => trivial, by simp [invoke, go_sem, eg], fun _ => h1, ?_⟩
  have hl0 : ((w.alloc (.deferred (some []))).alloc (.loop (rc .ready none))).heap[w.heap.size + 1]? = some (.loop (rc .ready none)) := by
    have := World.alloc_heap_new (w.alloc (.deferred (some []))) (.loop (rc .ready none))
    rwa [World.size_alloc] at this
  have hd0 : ((w.alloc (.deferred (some []))).alloc (.loop (rc .ready none))).heap[w.heap.size]? = some (.deferred (some [])) := (Below.heap_alloc _ _ _ (by simp)).trans (World.alloc_heap_new w _)
  have hlt : ∀ {A B : World} {k : Nat} {o : Obj}, A.heap[k]? = some o → Below A.heap.size A B → B.heap[k]? = some o := fun h hb => (hb.block _ (Array.getElem?_eq_some_iff.1 h).1).trans h
  refine (hseq (w.heap.size + 1)
    (fun pre W => I pre W ∧ W.heap[w.heap.size + 1]? = some (.loop (rc .ready none)) ∧ W.heap[w.heap.size]? = some (.deferred (some [])))
    (fun pre W => ∃ c, Ix c pre W ∧ W.heap[w.heap.size + 1]? = some (.loop (rc .done (some c))) ∧ W.heap[w.heap.size]? = some (.deferred (some [])))
    _ hb (fun s A B h hab => ⟨hI s A B h.1 (Kw.of (by have := (Array.getElem?_eq_some_iff.1 h.2.2).1; omega) hab), hlt h.2.1 hab, hlt h.2.2 hab⟩) ?_ ⟨hI _ _ _ h0 (Kw.of (Nat.le_refl _) hb), hl0, hd0⟩).mono ?_
  · rintro pre x W ⟨hi, hl, hd⟩ hx
    refine ⟨fn, _, assign, body, run_yield (P := Tryz.prog) (args := encs x) hl (hps x), roundIn_of_wpIn hfn (hround _ pre x W _ hi hx fun a' W' hbW hbody => ?_)⟩
    have hl' := hlt hl hbW
    have hd' := hlt hd hbW
    have hlw := (Array.getElem?_eq_some_iff.1 hl').1
    have hdw := (Array.getElem?_eq_some_iff.1 hd).1
    refine ⟨_, run_beginRound hl' rfl, ?_⟩
    have hl2 : (W'.putObj (w.heap.size + 1) (.loop { rc .ready none with state := .busy })).heap[w.heap.size + 1]? = some (.loop { rc .ready none with state := .busy }) := World.putObj_heap_same hlw
    have hd2 : (W'.putObj (w.heap.size + 1) (.loop { rc .ready none with state := .busy })).heap[w.heap.size]? = some (.deferred (some [])) := (World.putObj_heap_other (by omega)).trans hd'
    have hk2 : Kw w.heap.size W' (W'.putObj (w.heap.size + 1) (.loop { rc .ready none with state := .busy })) := Kw.put _ (by omega) hl' rfl
    refine wpIn_mono (hbody _ hk2) ?_
    have fin : ∀ (j : Option Code) (W3 : World), KeepsFrom w.heap.size (W'.putObj (w.heap.size + 1) (.loop { rc .ready none with state := .busy })) W3 →
        (Instr.endRound (w.heap.size + 1) j).run Tryz.prog W3 = .ok (.bool j.isNone) (W3.putObj (w.heap.size + 1) (.loop (rc (if j.isNone then .ready else .done) j))) ∧ W3.heap[w.heap.size + 1]? = some (.loop { rc .ready none with state := .busy }) ∧
        (W3.putObj (w.heap.size + 1) (.loop (rc (if j.isNone then .ready else .done) j))).heap[w.heap.size + 1]? = some (.loop (rc (if j.isNone then .ready else .done) j)) ∧
        (W3.putObj (w.heap.size + 1) (.loop (rc (if j.isNone then .ready else .done) j))).heap[w.heap.size]? = some (.deferred (some [])) := fun j W3 hk3 => by
      have hl3 := hk3.same _ _ (by omega) hl2 rfl
      exact ⟨run_endRound (P := Tryz.prog) j hl3, hl3, World.putObj_heap_same (Array.getElem?_eq_some_iff.1 hl3).1, (World.putObj_heap_other (by omega)).trans (hk3.same _ _ (Nat.le_refl _) hd2 rfl)⟩
    have left : ∀ (c : Code) (W3 : World), KeepsFrom w.heap.size (W'.putObj (w.heap.size + 1) (.loop { rc .ready none with state := .busy })) W3 → Ix c (pre ++ [x]) W3 → ∃ v W4, (Instr.endRound (w.heap.size + 1) (some c)).run Tryz.prog W3 = .ok v W4 ∧
        ((Ending.returned v = .returned (.bool true) ∧ (I (pre ++ [x]) W4 ∧ W4.heap[w.heap.size + 1]? = some (.loop (rc .ready none)) ∧ W4.heap[w.heap.size]? = some (.deferred (some []))) ∧ Kz W W4 ∧ Below w.heap.size W W4) ∨
          (Ending.returned v = .returned (.bool false) ∧ ∃ c, Ix c (pre ++ [x]) W4 ∧ W4.heap[w.heap.size + 1]? = some (.loop (rc .done (some c))) ∧ W4.heap[w.heap.size]? = some (.deferred (some [])))) := fun c W3 hk3 hi3 => by
      obtain ⟨hr, hl3, hl4, hd4⟩ := fin (some c) W3 hk3
      exact ⟨_, _, hr, .inr ⟨rfl, c, hIx _ _ _ _ hi3 (Kw.put _ (by omega) hl3 rfl), hl4, hd4⟩⟩
    rintro e a3 W3 hp
    cases e with
    | normal =>
      obtain ⟨⟨hk3, hb3, hz3⟩, hi3⟩ := hp
      obtain ⟨hr, hl3, hl4, hd4⟩ := fin none W3 hk3
      have hk4 : Kw w.heap.size W3 _ := Kw.put (.loop (rc .ready none)) (by omega) hl3 rfl
      have hkk := (((Kw.of (by omega) hbW).trans hk2).trans ⟨hb3, hz3⟩).trans hk4
      exact ⟨_, _, hr, .inl ⟨rfl, ⟨hI _ _ _ hi3 hk4, hl4, hd4⟩, hkk.cells, hkk.below⟩⟩
    | ret => exact left .ret W3 hp.1 hp.2
    | exit id => exact left (.exit id) W3 hp.1 hp.2
    | goto t => exact left (.goto t) W3 hp.1 hp.2
    | panic ch => exact hp.elim
    | outgrown => exact hp.elim
  · rintro e W2 ⟨⟨v, rfl⟩, (⟨xs, hS, hi, hl, hd⟩ | ⟨pre, hSp, c, hi, hl, hd⟩)⟩
    · exact ⟨none, _, run_endLoop (P := Tryz.prog) hl (by simp [rc]), hdone _ xs _ (Nat.le_refl _) hS (hI _ _ _ hi (Kw.put _ (by omega) hl rfl)) ((World.putObj_heap_other (by omega)).trans hd)⟩
    · exact ⟨some c, _, run_endLoop (P := Tryz.prog) hl (by simp [rc]), hstop _ c pre _ (Nat.le_refl _) hSp (hIx c _ _ _ hi (Kw.put _ (by omega) hl rfl)) ((World.putObj_heap_other (by omega)).trans hd)⟩
end Go.Proofs.YtbmmdfehhhgkcaaGreat
namespace Go.Proofs.YtbmmdfehhhgkcaaGreat
open Go.RowKit Go.Shelf
set_option linter.unusedVariables false
set_option linter.unusedSimpArgs false

theorem infoBo : (Tryz.prog.info? 4).map (fun i => (i.zero, i.size, i.bytes)) = some (some (.bool false), 1, 1) := by kernel_rfl
def boos (bs : List Bool) : List Value := bs.map (.bool ·)
/-- v is a row of one's own (from block base on) that reads as bs. -/
def MineO (base : Nat) (w : World) (v : Value) (bs : List Bool) : Prop := w.ownsRow base 4 1 v bs.length (boos bs)
section
variable {base : Nat} {w w' : World} {v : Value} {bs : List Bool}
theorem MineO.nil (base : Nat) (w : World) : MineO base w (.slice none 0 0) [] := ⟨by simp [boos], .inl ⟨rfl, rfl⟩⟩
theorem MineO.ge (h : MineO base w v bs) : ∀ k, v.ownBlock = some k → base ≤ k := by
  intro k hk
  rcases h.2 with ⟨rfl, _⟩ | ⟨g, cap, cur, rfl, hb, hh, _⟩
  · simp [Value.ownBlock] at hk
  · have : g = k := by simpa [Value.ownBlock] using hk
    subst this
    exact hb
theorem MineO.mov (h : MineO base w v bs) (hb : Below w.heap.size w w') : MineO base w' v bs := by
  refine ⟨h.1, ?_⟩
  rcases h.2 with h4 | ⟨g, cap, cur, rfl, hg, hh, r⟩
  · exact .inl h4
  · exact .inr ⟨g, cap, cur, rfl, hg, (hb.block g (Array.getElem?_eq_some_iff.1 hh).1).trans hh, r⟩
theorem MineO.slice (h : MineO base w v bs) : ∃ A c, v = .slice A bs.length c := by
  rcases h.2 with ⟨rfl, e⟩ | ⟨g, cap, cur, rfl, _⟩
  · exact ⟨none, 0, by rw [e]⟩
  · exact ⟨_, cap, rfl⟩
theorem MineO.reads (h : MineO base w v bs) (hl : bs.length ≤ lim) : ∃ A c, v = .slice A bs.length c ∧ bs.length ≤ c ∧ RowBo w A bs := by
  rcases h.2 with ⟨rfl, e⟩ | ⟨g, cap, cur, rfl, hg, hh, hcap, hm, hsz, htake⟩
  · obtain rfl := List.eq_nil_of_length_eq_zero e
    exact ⟨none, 0, rfl, by simp, Nat.zero_le _, fun i hi => absurd hi (Nat.not_lt_zero i)⟩
  · refine ⟨_, cap, rfl, hcap, hl, fun i hi => ⟨_, rfl, ?_⟩⟩
    exact World.ownsRow.cells h (g := g) rfl i _ (by simp [boos, List.getElem?_eq_getElem hi])
end
/-- 'append(v, b)': behind 'at_builtin'. -/
theorem append_bool {ops : Array Oper} {rest : List Oper} {o : Oper} {a : Act} {Q : Exit → Act → World → Prop} (hgd : o.guard = none) (s x : Operand)
    (ho : o.op = .call { callee := .builtin .append, args := #[s, x], argTypes := #[46, 46] })
    (base : Nat) {W : World} (v : Value) (bs : List Bool) (b : Bool) (hs : a.eval s = v) {g : Nat} (hx : a.eval x = .slice (some ⟨g, 0, none⟩) 1 1) (hgs : g = W.heap.size)
    (HM : MineO base W v bs) (hbase : base ≤ W.heap.size) (hl : bs.length + 1 ≤ lim)
    (h : ∀ v1 w1, MineO base w1 v1 (bs ++ [b]) → W.grownBy w1 v.ownBlock → wpList Tryz.prog ops Q rest (a.put o.dst v1) w1) :
    wpList Tryz.prog ops Q (o :: rest) a (W.alloc (.cells #[.bool b] 4)) := by
  subst hgs
  obtain ⟨i0, hi, hzz⟩ := Option.map_eq_some_iff.1 infoBo
  simp only [Prod.mk.injEq] at hzz
  obtain ⟨hz0, hz1, hz2⟩ := hzz
  unfold lim at hl
  refine wpList_append_own_at (W.alloc (.cells #[.bool b] 4)) hgd s x 46 ho base 4 i0 _ 1 1 Tryz.underlying46 hi hz0 hz1 hz2 rfl (by decide) v bs.length (boos bs) hs (World.ownsRow.alloc HM _) ⟨W.heap.size, 0, none⟩ 1 1 [.bool b] hx rfl
    (cell_one_new _ _ _) (by simp [Value.oneCell']) (by simp only [maxLen]; omega) (by omega) (by simp; omega) ?_
  intro v1 w1 hown1 hg _ hat
  refine h v1 w1 ?_ (World.grownBy.trans (World.grownBy_alloc W _ _) hg)
  unfold MineO
  rw [List.length_append, show boos (bs ++ [b]) = boos bs ++ [.bool b] from by simp [boos]]
  exact hown1

/-- Which metas are parameters; how great the contexts are. -/
def paramsV (l : List Md) : List Bool := l.map Md.p
def sizesV (l : List Md) : List Int := l.map fun m => (m.ctx.length : Int)

theorem take_at {α β : Type} (f : α → β) {l : List α} {i : Nat} (h : i < l.length) : (l.take i).map f ++ [f l[i]] = (l.take (i + 1)).map f := by
  rw [List.take_add_one, List.map_append]
  simp [h]
structure PaRel (l : List Md) (w : World) (i : Nat) (v : Value) (wr : World) : Prop where
  le : i ≤ l.length
  below : Below w.heap.size w wr
  mine : MineO w.heap.size wr v (paramsV (l.take i))

set_option maxRecDepth 100000 in
set_option maxHeartbeats 4000000 in
theorem Params_calls (l : List Md) (A : Option Addr) (c : Nat) (w : World) (hr : Row eM 5 (fun _ => False) w A l) :
    Calls Tryz.prog 20 #[.slice A l.length c] w fun e w' => Below w.heap.size w w' ∧ ∃ B d, e = .returned (.slice B l.length d) ∧ l.length ≤ d ∧ RowBo w' B (paramsV l) := by
  have hlen := hr.1
  have hll := hlen
  unfold lim at hlen
  go_enter Tryz.func20, Tryz.ntmps20
  go_wp2_with fail
  go_loopw [8, 3, 5] (fun j v _ wr => ∃ i : Nat, j = .int .i64 i ∧ PaRel l w i v wr) (fun j _ _ _ => l.length - (intOf j).toNat)
  case atStart => exact ⟨0, rfl, Nat.zero_le _, Below.refl _ _, MineO.nil _ _⟩
  case round =>
    obtain ⟨i, rfl, hrel⟩ := hrel
    have hbw := hrel.below
    by_cases hlt : i < l.length
    · obtain ⟨ad, cs, rfl, -, hcl, k0, kj, B1, d1, B2, d2', hcs, hd1, hr1, hd2, hr2⟩ := (hr.mov lasts_M (by decide) hbw).at hlt
      rw [hcs] at k0 kj
      have c0 := k0 _ rfl
      have c1 := kj 1 _ rfl
      have c2 := kj 2 _ rfl
      have c3 := kj 3 _ rfl
      have c4 := kj 4 _ rfl
      clear k0 kj hcs hcl
      have hbs := hbw.size
      have HMI := Lib.hid hrel.mine
      have hge := HMI.out.ge
      clear hrel
      go_wp2_with (at_builtin; refine append_bool rfl _ _ rfl w.heap.size u3 (paramsV (l.take i)) l[i].p rfl rfl (by simp) (HMI.out.mov (bl_alloc (Below.refl _ _) _)) ?bb ?ll ?_
                   case bb => (simp; omega)
                   case ll => (simp [paramsV]; unfold lim; omega)
                   intro v1 w1 hv1 hg1 
                   have hx2 := bl_grown (bl_then hbw (bl_alloc (Below.refl wr.heap.size wr) _)) hg1 (fun k hk => hge k hk)
                   clear hg1)
      exact ⟨⟨i + 1, by go_num, hlt, hx2, by unfold paramsV at hv1 ⊢; rw [take_at _ hlt] at hv1; exact hv1⟩, by simp [intOf]; omega⟩
    · obtain rfl : i = l.length := by have := hrel.le; omega
      have hm := hrel.mine
      rw [List.take_length] at hm
      obtain ⟨A3, d3, rfl, h3, hr3⟩ := hm.reads (by simp [paramsV]; unfold lim; omega)
      have eL : (paramsV l).length = l.length := by simp [paramsV]
      have HR := Lib.hid hr3
      have H3 := Lib.hid h3
      have EL := Lib.hid eL
      clear hrel hm h3 hr3 eL
      go_wp2_with fail
      go_ret
      refine ⟨hbw, A3, d3, ?_, by simpa [paramsV] using H3.out, HR.out⟩
      rw [← EL.out]
      rfl
structure SiRel (l : List Md) (w : World) (i : Nat) (v : Value) (wr : World) : Prop where
  le : i ≤ l.length
  below : Below w.heap.size w wr
  mine : MineI w.heap.size wr v (sizesV (l.take i))

set_option maxRecDepth 100000 in
set_option maxHeartbeats 4000000 in
theorem Sizes_calls (l : List Md) (A : Option Addr) (c : Nat) (w : World) (hr : Row eM 5 (fun _ => False) w A l) :
    Calls Tryz.prog 23 #[.slice A l.length c] w fun e w' => Below w.heap.size w w' ∧ ∃ B d, e = .returned (.slice B l.length d) ∧ l.length ≤ d ∧ RdI (fun _ => False) w' B (sizesV l) := by
  have hlen := hr.1
  have hll := hlen
  unfold lim at hlen
  go_enter Tryz.func23, Tryz.ntmps23
  go_wp2_with fail
  go_loopw [8, 3, 5] (fun j v _ wr => ∃ i : Nat, j = .int .i64 i ∧ SiRel l w i v wr) (fun j _ _ _ => l.length - (intOf j).toNat)
  case atStart => exact ⟨0, rfl, Nat.zero_le _, Below.refl _ _, MineI.nil _ _⟩
  case round =>
    obtain ⟨i, rfl, hrel⟩ := hrel
    have hbw := hrel.below
    by_cases hlt : i < l.length
    · obtain ⟨ad, cs, rfl, -, hcl, k0, kj, B1, d1, B2, d2', hcs, hd1, hr1, hd2, hr2⟩ := (hr.mov lasts_M (by decide) hbw).at hlt
      rw [hcs] at k0 kj
      have c0 := k0 _ rfl
      have c1 := kj 1 _ rfl
      have c2 := kj 2 _ rfl
      have c3 := kj 3 _ rfl
      have c4 := kj 4 _ rfl
      clear k0 kj hcs hcl
      have hbs := hbw.size
      have HMI := Lib.hid hrel.mine
      have hge := HMI.out.ge
      clear hrel
      go_wp2_with (at_builtin; refine append_int rfl _ _ rfl w.heap.size u3 (sizesV (l.take i)) ((l[i].ctx.length : Nat) : Int) rfl rfl (by simp) (HMI.out.mov (bl_alloc (Below.refl _ _) _)) ?bb ?ll ?_
                   case bb => (simp; omega)
                   case ll => (simp [sizesV]; unfold limI; omega)
                   intro v1 w1 hv1 hg1 _
                   have hx2 := bl_grown (bl_then hbw (bl_alloc (Below.refl wr.heap.size wr) _)) hg1 (fun k hk => hge k hk)
                   clear hg1)
      exact ⟨⟨i + 1, by go_num, hlt, hx2, by unfold sizesV at hv1 ⊢; rw [take_at _ hlt] at hv1; exact hv1⟩, by simp [intOf]; omega⟩
    · obtain rfl : i = l.length := by have := hrel.le; omega
      have hm := hrel.mine
      rw [List.take_length] at hm
      obtain ⟨A3, d3, rfl, h3, hr3⟩ := hm.reads (by simp [sizesV]; unfold limI; omega)
      have eL : (sizesV l).length = l.length := by simp [sizesV]
      have HR := Lib.hid hr3
      have H3 := Lib.hid h3
      have EL := Lib.hid eL
      clear hrel hm h3 hr3 eL
      go_wp2_with fail
      go_ret
      refine ⟨hbw, A3, d3, ?_, by simpa [sizesV] using H3.out, HR.out⟩
      rw [← EL.out]
      rfl
end Go.Proofs.YtbmmdfehhhgkcaaGreat
namespace Go.Proofs.YtbmmdfehhhgkcaaGreat
open Go.RowKit Go.Shelf
set_option linter.unusedVariables false
set_option linter.unusedSimpArgs false

set_option maxRecDepth 100000 in
set_option maxHeartbeats 2000000 in
theorem whole1_calls (x : Bd) (A : Option Addr) (c : Nat) (w : World) :
    Calls Tryz.prog 41 #[.agg #[.bool x.is, .int .i64 x.t.k, .int .i64 x.t.h, .slice A x.t.a.length c]] w fun e w' => e = .returned (.bool (!x.is)) ∧ Below w.heap.size w w' := by
  go_enter Tryz.func41, Tryz.ntmps41
  go_wp2_with fail
  go_ret
  exact ⟨rfl, bl_alloc (Below.refl _ _) _⟩

/-- Metas that are all something. -/
def RetWh (S : Nat → Prop) (bs : List Bd) (w : World) (e : Ending) (w' : World) : Prop :=
  Below w.heap.size w w' ∧ ((bs.any (fun x => !x.is) = true ∧ e = .returned (.tuple #[.slice none 0 0, .bool false])) ∨
    (bs.any (fun x => !x.is) = false ∧ ∃ B d, e = .returned (.tuple #[.slice B bs.length d, .bool true]) ∧ bs.length ≤ d ∧ Reads S w' B (toldV bs)))
set_option maxRecDepth 100000 in
set_option maxHeartbeats 4000000 in
theorem Whole_calls (S : Nat → Prop) (bs : List Bd) (A : Option Addr) (c : Nat) (w : World) (hS : ∀ k, S k → k < w.heap.size) (hr : RowB S w A bs) :
    Calls Tryz.prog 21 #[.slice A bs.length c] w (RetWh S bs w) := by
  have HCF := Lib.hid (ContainsFuncB_calls 41 (enters_of Tryz.func41 (by kernel_rfl) rfl) #[] (fun x => !x.is) bs A c w (fun i hi B d W _ h2 h3 => whole1_calls bs[i] B d W) (hr.step (fun _ _ _ q => q.elim) (Below.refl _ _)))
  have HT := Lib.hid (fun (W : World) (hb : Below w.heap.size w W) => told_calls S bs A c W (fun k q => Nat.lt_of_lt_of_le (hS k q) hb.size) (hr.mov hb))
  obtain ⟨b, hb⟩ : ∃ b, bs.any (fun x => !x.is) = b := ⟨_, rfl⟩
  rw [hb] at HCF
  have HB := Lib.hid hb
  clear hb hr hS
  cases b
  · go_enter Tryz.func21, Tryz.ntmps21
    go_wp2_with (first
      | (go_at_call 39; refine HCF.out.mono ?_; clear HCF; rintro e w1 ⟨rfl, hb1⟩)
      | (go_at_call 42; refine (HT.out _ hb1).mono ?_; clear HT; rintro e w2 ⟨hb2, B, d, rfl, hd, hr2⟩))
    go_ret2
    exact ⟨bl_then hb1 hb2, .inr ⟨HB.out, B, d, rfl, hd, hr2⟩⟩
  · go_enter Tryz.func21, Tryz.ntmps21
    go_wp2_with (first
      | (go_at_call 39; refine HCF.out.mono ?_; clear HCF; rintro e w1 ⟨rfl, hb1⟩))
    go_ret2
    exact ⟨hb1, .inl ⟨HB.out, rfl⟩⟩

/-- Terms, each in a context of so many. -/
noncomputable def allF (rho : List Tm) (ns : List Int) (i : Nat) (t : Tm) : Except Int Tm := FillV rho t ((ns[i]?).getD 0)
noncomputable def AllV (l rho : List Tm) (ns : List Int) : Except Int (List Tm) := if ns.length = l.length then eachX (allF rho ns) 0 l else .error 1

set_option maxRecDepth 100000 in
set_option maxHeartbeats 8000000 in
theorem all1_calls (S : Nat → Prop) (g2 g3 : Nat) (rho : List Tm) (ns : List Int) (R : Option Addr) (cr : Nat) (N : Option Addr) (cn : Nat) (i : Nat) (hi : i < ns.length) (t : Tm) (B : Option Addr) (d : Nat) (w : World)
    (hS : ∀ k, S k → k < w.heap.size) (h2 : Boxed w g2 23 (.slice R rho.length cr)) (h3 : Boxed w g3 52 (.slice N ns.length cn)) (hN : RdI (fun _ => False) w N ns) (hd : t.a.length ≤ d) (hr : Reads S w B t.a)
    (hF : ∀ W, Below w.heap.size w W → ∀ S2 : Nat → Prop, (∀ k, S2 k → k < W.heap.size) → (∀ k, k < w.heap.size → S2 k → S k) → Reads S2 W B t.a → Calls Tryz.prog 25 #[.agg #[.int .i64 t.k, .int .i64 t.h, .slice B t.a.length d], .slice R rho.length cr, .int .i64 ns[i]] W (RetQ S2 (FillV rho t ns[i]) W)) :
    Calls Tryz.prog 44 #[.int .i64 i, .agg #[.int .i64 t.k, .int .i64 t.h, .slice B t.a.length d], .pointer (some ⟨g2, 0, none⟩), .pointer (some ⟨g3, 0, none⟩)] w (RetQ S (allF rho ns i t) w) := by
  have e0 : allF rho ns i t = FillV rho t ns[i] := by simp [allF, List.getElem?_eq_getElem hi]
  rw [e0]
  have hll := hN.1
  unfold limI at hll
  have hb0 : Below w.heap.size w ((w.alloc (.cells #[.int .i64 t.k, .int .i64 t.h, .slice B t.a.length d] 25)).alloc (.cells #[.int .i64 0, .int .i64 0, .slice none 0 0] 25)) := bl_alloc (bl_alloc (Below.refl _ _) _) _
  have e1 := Blk.new (w.alloc (.cells #[.int .i64 t.k, .int .i64 t.h, .slice B t.a.length d] 25)) #[.int .i64 0, .int .i64 0, .slice none 0 0] 25
  simp only [World.size_alloc] at e1
  have e0' := (Blk.new w #[.int .i64 t.k, .int .i64 t.h, .slice B t.a.length d] 25).al (.cells #[.int .i64 0, .int .i64 0, .slice none 0 0] 25)
  obtain ⟨W0, hW0⟩ : ∃ W0, ((w.alloc (.cells #[.int .i64 t.k, .int .i64 t.h, .slice B t.a.length d] 25)).alloc (.cells #[.int .i64 0, .int .i64 0, .slice none 0 0] 25)) = W0 := ⟨_, rfl⟩
  have hz0 : W0.heap.size = w.heap.size + 2 := by rw [← hW0]; simp
  rw [hW0] at hb0 e1 e0'
  have HI := Lib.hid (fun (W : World) (hb : Below W0.heap.size W0 W) => hF _ (bl_then hb0 hb) (fun k => S k ∨ k = w.heap.size + 1) (fun k q => by have := hb.size; rcases q with q | q; (have := hS k q; omega); (subst q; omega)) (fun k hk q => by rcases q with q | q; exact q; omega) (hr.step (fun k hk hn q => by rcases q with q | q; exact hn q; omega) (fun k hk _ => (bl_then hb0 hb).block k hk)))
  have HB0 := Lib.hid hb0
  have E1 := Lib.hid e1
  have f0 := (boxed_mov h2 hb0).cell
  have f1 := (boxed_mov h3 hb0).cell
  have l0 := (boxed_mov h2 hb0).lt
  have l1 := (boxed_mov h3 hb0).lt
  have p0 := e0'.cell 0
  have p1 := e0'.cell 1
  have p2 := e0'.cell 2
  obtain ⟨ad, rfl, -, cn0⟩ := hN.2 i hi
  replace cn0 := cell_mov cn0 hb0
  have HS := Lib.hid hS
  generalize FillV rho t ns[i] = fv at *
  generalize ns[i] = nn at *
  have HZ0 := Lib.hid hz0
  clear hb0 e1 hF hS h2 h3 hr hN e0 e0' hz0
  go_enter Tryz.func44, Tryz.ntmps44
  go_upto_region 1 with fail
  clear hW0
  go_region_law (rw [if_pos (by rfl)]; go_simp; go_at_call 25; refine (HI.out _ (Below.refl _ _).drew).mono ?_; clear HI; rintro e w3 hq; obtain ⟨hb3, k, h, B3, n3, c3, x, rfl, hrc⟩ := hq.open; clear hq; have hx3 := bl_undrew hb3; have z := E1.out.mov hx3; have z0 := z.cell 0; have z1 := z.cell 1; have z2 := z.cell 2; have y0 := z.frozen 0; have y1 := z.frozen 1; have y2 := z.frozen 2; have HZ := Lib.hid z; clear z)
  all_goals
    go_wp2_with fail
    refine bodyPost_ret (res_tm rfl _ _ _ _ _ _ rfl (HZ.out.set3 (.int .i64 k) (.int .i64 h) (.slice B3 n3 c3))) rfl ?_
    exact ((hrc.set3 (.inr rfl) _ _ _).less (fun k q => .inl q)).close (bl_set3 (bl_then HB0.out hx3) (Nat.le_succ _))

set_option maxRecDepth 100000 in
set_option maxHeartbeats 8000000 in
theorem All_calls (S : Nat → Prop) (l rho : List Tm) (ns : List Int) (A : Option Addr) (c : Nat) (R : Option Addr) (cr : Nat) (N : Option Addr) (cn : Nat) (w : World) (hcr : rho.length ≤ cr) (B : Int) (hB0 : 0 ≤ B) (htop : B + stepB * 4000 ≤ 1152921504606846976)
    (hS : ∀ k, S k → k < w.heap.size) (hr : Reads S w A l) (hR : ReadsE S w R rho) (hN : RdI (fun _ => False) w N ns) (hl : ∀ t ∈ l, (mayB t = true → hB B t) ∧ cnt t ≤ 1048576) (hrho : ∀ x ∈ rho, (mayB x = true → hB B x) ∧ cnt x ≤ 1048576) :
    Calls Tryz.prog 22 #[.slice A l.length c, .slice R rho.length cr, .slice N ns.length cn] w (RetQL S (AllV l rho ns) w) := by
  have hln := hN.1
  have hlr := hr.len
  unfold limI at hln
  unfold lim at hlr
  have e2 := (Boxed.new w 23 (.slice R rho.length cr)).alloc (.cells #[.slice N ns.length cn] 52)
  have e3 := Boxed.new (w.alloc (.cells #[.slice R rho.length cr] 23)) 52 (.slice N ns.length cn)
  simp only [World.size_alloc] at e3
  have hb0 : Below w.heap.size w ((w.alloc (.cells #[.slice R rho.length cr] 23)).alloc (.cells #[.slice N ns.length cn] 52)) := bl_alloc (bl_alloc (Below.refl _ _) _) _
  obtain ⟨W0, hW0⟩ : ∃ W0, ((w.alloc (.cells #[.slice R rho.length cr] 23)).alloc (.cells #[.slice N ns.length cn] 52)) = W0 := ⟨_, rfl⟩
  rw [hW0] at e2 e3 hb0
  have hmf : ∀ (fn : Fn) (first cap : Array Value) (w : World), (Instr.makeFunc fn first cap).run Tryz.prog w = .ok (.func fn first cap) w := fun _ _ _ _ => rfl
  have f3 := e3.cell
  have l3 := e3.lt
  have HB0 := Lib.hid hb0
  by_cases hq : ns.length = l.length
  · have eV : AllV l rho ns = eachX (allF rho ns) 0 l := by unfold AllV; rw [if_pos hq]
    rw [eV]
    have HE := Lib.hid (eachX_calls 44 (enters_of Tryz.func44 (by kernel_rfl) rfl) #[] #[.pointer (some ⟨w.heap.size, 0, none⟩), .pointer (some ⟨w.heap.size + 1, 0, none⟩)] (allF rho ns) S l A c W0 (fun k q => Nat.lt_of_lt_of_le (hS k q) hb0.size)
      (fun i hi S2 B2 d W h1 h2 h3 h4 h5 => by
        have hW := bl_then hb0 h3
        refine all1_calls S2 _ _ rho ns R cr N cn i (by omega) l[i] B2 d W h1 (boxed_mov e2 h3) (boxed_mov e3 h3) (hN.mov hW) h5 h4 (fun W2 hb S3 k1 k2 k3 => ?_)
        have hT : ∀ k, k < w.heap.size → ¬ S k → ¬ S3 k := fun k hk hn q => hn (h2 k (Nat.lt_of_lt_of_le hk hb0.size) (k2 k (Nat.lt_of_lt_of_le hk hW.size) q))
        exact Fill_callsE S3 rho R cr hcr B hB0 htop l[i] B2 d _ W2 k1 k3 h5 (hR.step hT (bl_then hW hb)) (hl _ (List.getElem_mem hi)).1 (hl _ (List.getElem_mem hi)).2 hrho)
      (hr.mov hb0))
    have hne : ((ns.length : Int) != (l.length : Int)) = false := by simp [hq]
    have HQ := Lib.hid hq
    have hfr : w.heap.size < W0.heap.size := by omega
    generalize eachX (allF rho ns) 0 l = ev at *
    clear e2 e3 hb0 hq hr hR hN hl hrho eV hS
    go_enter Tryz.func22, Tryz.ntmps22
    go_wp2_with (go_at_call 43; clear hW0; refine HE.out.mono ?_; clear HE; rintro e w4 ⟨hb4, (⟨x, rfl, hx0, rfl⟩ | ⟨us, B4, c4, rfl, rfl, hc4, hr4⟩)⟩)
    all_goals go_ret2
    · exact ⟨bl_then HB0.out hb4, .inl ⟨x, rfl, hx0, rfl⟩⟩
    · exact ⟨bl_then HB0.out hb4, .inr ⟨us, B4, c4, rfl, rfl, hc4, hr4⟩⟩
  · have eV : AllV l rho ns = .error 1 := by unfold AllV; rw [if_neg hq]
    rw [eV]
    have hne : ((ns.length : Int) != (l.length : Int)) = true := by simp; omega
    have HQ := Lib.hid hq
    clear e2 e3 hb0 hq hr hR hN hl hrho eV hS
    go_enter Tryz.func22, Tryz.ntmps22
    go_wp2_with fail
    go_ret2
    exact ⟨HB0.out, .inl ⟨1, rfl, by decide, rfl⟩⟩

structure EqRel (ts ss : List Tm) (w : World) (i : Nat) (wr : World) : Prop where
  le : i ≤ ts.length
  below : Below w.heap.size w wr
  rest : sameL (ts.drop i) (ss.drop i) = sameL ts ss
set_option maxRecDepth 100000 in
set_option maxHeartbeats 8000000 in
theorem EqualFunc_calls (ts ss : List Tm) (A : Option Addr) (c : Nat) (B : Option Addr) (d : Nat) (w : World) (hr : Reads (fun _ => False) w A ts) (hs : Reads (fun _ => False) w B ss) :
    Calls Tryz.prog 70 #[.slice A ts.length c, .slice B ss.length d, .func (.func 18) #[] #[]] w fun e w' => e = .returned (.bool (sameL ts ss)) ∧ Below w.heap.size w w' := by
  have h1 := hr.len
  have h2 := hs.len
  unfold lim at h1 h2
  by_cases hq : ts.length = ss.length
  · have hne : ((ts.length : Int) != (ss.length : Int)) = false := by simp [hq]
    have HQ := Lib.hid hq
    clear hq
    go_enter Tryz.func70, Tryz.ntmps70
    go_wp2_with fail
    go_loopw [17] (fun j wr => ∃ i : Nat, j = .int .i64 i ∧ EqRel ts ss w i wr) (fun j _ => ts.length - (intOf j).toNat)
    case atStart => exact ⟨0, rfl, Nat.zero_le _, Below.refl _ _, rfl⟩
    case round =>
      obtain ⟨i, rfl, hrel⟩ := hrel
      have hbw := hrel.below
      by_cases hlt : i < ts.length
      · have hlt2 : i < ss.length := by rw [← HQ.out]; exact hlt
        obtain ⟨ad, B1, d1, rfl, -, c0, c1, c2, hd, hsub⟩ := (hr.mov hbw).at hlt
        obtain ⟨ad2, B2, d2, rfl, -, v0, v1, v2, hd2, hsub2⟩ := (hs.mov hbw).at hlt2
        have hwx : Below wr.heap.size wr (wr.alloc (.cells #[.int .i64 ts[i].k, .int .i64 ts[i].h, .slice B1 ts[i].a.length d1] 25)) := bl_alloc (Below.refl _ _) _
        have x0 := cell_mov v0 hwx
        have x1 := cell_mov v1 hwx
        have x2 := cell_mov v2 hwx
        clear v0 v1 v2 hwx
        have HC := Lib.hid (fun (W : World) (hb : Below wr.heap.size wr W) => Same_calls ts[i] ss[i] B1 d1 B2 d2 W (hsub.mov hb) hd (hsub2.mov hb) hd2)
        have hres := hrel.rest
        rw [List.drop_eq_getElem_cons hlt, List.drop_eq_getElem_cons hlt2, sameL] at hres
        obtain ⟨b, hb⟩ : ∃ b, sameB ts[i] ss[i] = b := ⟨_, rfl⟩
        rw [hb] at HC hres
        have HR := Lib.hid hres
        clear hb hres hrel hsub hsub2
        cases b
        all_goals
          go_wp2_with (refine (HC.out _ ?bel).mono ?_; (case bel => exact bl_alloc (bl_alloc (Below.refl _ _) _) _); clear HC; rintro e w1 ⟨rfl, hb1⟩)
        · go_ret
          exact ⟨ret_bool (by rw [← HR.out]; rfl), bl_then hbw (bl_then (bl_alloc (bl_alloc (Below.refl _ _) _) _) hb1)⟩
        · exact ⟨⟨i + 1, by go_num, hlt, bl_then hbw (bl_then (bl_alloc (bl_alloc (Below.refl _ _) _) _) hb1), by rw [← HR.out, Bool.true_and]⟩, by simp [intOf]; omega⟩
      · obtain rfl : i = ts.length := by have := hrel.le; omega
        have hres := hrel.rest
        rw [List.drop_length, HQ.out, List.drop_length] at hres
        have HR := Lib.hid hres
        clear hres hrel
        go_wp2_with fail
        go_ret
        exact ⟨ret_bool (by rw [← HR.out]; rfl), hbw⟩
  · have hne : ((ts.length : Int) != (ss.length : Int)) = true := by simp; omega
    rw [sameL_ne hq]
    clear hq
    go_enter Tryz.func70, Tryz.ntmps70
    go_wp2_with fail
    go_ret
    exact ⟨rfl, Below.refl _ _⟩
end Go.Proofs.YtbmmdfehhhgkcaaGreat
