/- The contracts of slices.Grow of a nil row, and of slices.Concat of two rows. -/
import Derived.Test.YtbmmdfehhhgkcaaGreatBA
import Derived.Test.YtbmmdfehhhgkcaaGreatGL
import Derived.Lib.AppendZeros
import Derived.IntWalk
namespace Go.Proofs.YtbmmdfehhhgkcaaGreat
open Go.RowKit Go.Shelf
set_option linter.unusedVariables false
set_option linter.unusedSimpArgs false

/-- 'append(nil, make(n)...)', at the operation. -/
theorem wpList_append_make {ops : Array Oper} {rest : List Oper} {o : Oper} {a : Act} {Q : Exit → Act → World → Prop} (hgd : o.guard = none) (x y : Operand)
    (ho : o.op = .call { callee := .builtin .append, args := #[x, y], argTypes := #[23, 3] }) (base : Nat) (S : Nat → Prop) {W : World} (n : Nat) (hn : 0 < n) (hl : n ≤ lim) (hx : a.eval x = .slice none 0 0) (hy : a.eval y = .int .i64 n)
    (hb : base ≤ W.heap.size) (hS : ∀ k, S k → k < W.heap.size)
    (h : ∀ g cap w1, Below W.heap.size W w1 → g = W.heap.size → n ≤ cap → Mine base S w1 (.slice (some ⟨g, 0, none⟩) 0 cap) [] → wpList Tryz.prog ops Q rest (a.put o.dst (.slice (some ⟨g, 0, none⟩) n cap)) w1) : wpList Tryz.prog ops Q (o :: rest) a W := by
  obtain ⟨i0, hi, hzz⟩ := Option.map_eq_some_iff.1 infoTm
  simp only [Prod.mk.injEq] at hzz
  obtain ⟨hz0, hz1, hz2⟩ := hzz
  unfold lim at hl
  have hm : grownCap W n 0 25 ≤ maxLen := grownCap_le_maxLen W n 0 _ (by simp only [maxLen]; omega)
  have hge := grownCap_ge W n 0 25
  have hrun := Lib.run_append_nil_zeros (P := Tryz.prog) W 23 3 o.type 25 i0 _ .i64 .i64 Tryz.underlying23 (by kernel_rfl) hi hz0 n hn (by rw [hz1]; decide) (by omega) (by rw [hz2]; omega)
  refine wpList_plain hgd fun K hK => ?_
  unfold Oper.wp execOp
  simp only [ho, resolve, invoke, builtin, Sem.run_bind, Sem.run_pure, Result.andThen_ok, List.map_toArray, List.map_cons, List.map_nil, hx, hy, hrun]
  refine hK _ _ (h W.heap.size _ _ (bl_alloc (Below.refl _ _).drew _) rfl hge ?_)
  have hzs : (Builtin.zeroCells (Value.agg #[.int .i64 0, .int .i64 0, .slice none 0 0]).cells n ++ Builtin.zeroCells (Value.agg #[.int .i64 0, .int .i64 0, .slice none 0 0]).cells (grownCap W n 0 25 - n)).size = grownCap W n 0 25 * 3 := by
    rw [Array.size_append, size_zeroCells, size_zeroCells, show (Value.agg #[.int .i64 0, .int .i64 0, .slice none 0 0]).cells.size = 3 from rfl]
    omega
  exact ⟨Nat.zero_le _, fun k hk q => by simp [Value.ownBlock] at hk; have := hS k q; omega, [], rfl, ⟨rfl, .inr ⟨W.heap.size, _, _, rfl, hb, World.alloc_heap_new W.drew _, Nat.zero_le _, hm, hzs, by simp [tmcs]⟩⟩, fun i hi => absurd hi (Nat.not_lt_zero _)⟩

theorem GrowNone_calls (base : Nat) (S : Nat → Prop) (n : Nat) (w : World) (hb : base ≤ w.heap.size) (hS : ∀ k, S k → k < w.heap.size) (hl : n ≤ lim) :
    Calls Tryz.prog 131 #[.slice none 0 0, .int .i64 n] w fun e w' => Below w.heap.size w w' ∧ ∃ v, e = .returned v ∧ Mine base S w' v [] ∧ (∀ k, v.ownBlock = some k → w.heap.size ≤ k) := by
  have hl' := hl
  unfold lim at hl'
  rcases Nat.eq_zero_or_pos n with rfl | hn
  · go_enter Tryz.func131, Tryz.ntmps131
    go_wp2
    go_ret
    exact ⟨Below.refl _ _, _, rfl, Mine.nil _ _ _, fun k hk => by simp [Value.ownBlock] at hk⟩
  · have h0 : (0 : Int) < (n : Int) := by omega
    have h1 : ¬ ((n : Int) < 0) := by omega
    have hw : IntKind.i64.wrap ((n : Int) - 0) = (n : Int) := by rw [Int.sub_zero]; exact IntWalk.i64_in _ (by omega)
    go_enter Tryz.func131, Tryz.ntmps131
    go_wp2_with (at_builtin; refine wpList_append_make rfl (.tmp 20) (.tmp 21) rfl base S n hn hl rfl rfl hb hS ?_; intro g cap w1 hb1 hg hcap hm; subst hg)
    go_ret
    exact ⟨hb1, _, rfl, hm, fun k hk => by simp [Value.ownBlock] at hk; omega⟩

set_option maxHeartbeats 8000000 in
theorem Concat_calls (S : Nat → Prop) (ts us : List Tm) (A B : Option Addr) (a b g : Nat) (w : World) (hS : ∀ k, S k → k < w.heap.size) (hg : Blk w g #[.slice A ts.length a, .slice B us.length b] 23) (hr : Reads S w A ts) (ha : ts.length ≤ a) (hr2 : Reads S w B us) (hb : us.length ≤ b) (hl : ts.length + us.length ≤ lim) :
    Calls Tryz.prog 117 #[.slice (some ⟨g, 0, none⟩) 2 2] w fun e w' => Below w.heap.size w w' ∧ ∃ C c, e = .returned (.slice C (ts ++ us).length c) ∧ (ts ++ us).length ≤ c ∧ Reads S w' C (ts ++ us) := by
  have hl' := hl
  unfold lim at hl'
  have q0 := hg.cell 0
  have q1 := hg.cell 1
  have HG := Lib.hid hg
  have HR := Lib.hid hr
  have HR2 := Lib.hid hr2
  have HSS := Lib.hid hS
  have hw1 : IntKind.i64.wrap (0 + (ts.length : Int)) = (ts.length : Int) := by rw [Int.zero_add]; exact IntWalk.i64_in _ (by omega)
  have hw2 : IntKind.i64.wrap ((ts.length : Int) + (us.length : Int)) = ((ts.length + us.length : Nat) : Int) := by push_cast; exact IntWalk.i64_in _ (by omega)
  have HGR : Hid (Calls Tryz.prog 131 #[.slice none 0 0, .int .i64 ((ts.length + us.length : Nat) : Int)] w fun e w' => Below w.heap.size w w' ∧ ∃ v, e = .returned v ∧ Mine w.heap.size S w' v [] ∧ (∀ k, v.ownBlock = some k → w.heap.size ≤ k)) := GrowNone_calls _ S _ w (Nat.le_refl _) hS hl
  obtain ⟨sm, hsm⟩ : ∃ z : Int, ((ts.length + us.length : Nat) : Int) = z := ⟨_, rfl⟩
  rw [hsm] at hw2 HGR
  have hs0 : 0 ≤ sm := by omega
  have hs1 : ¬ sm < 0 := by omega
  have ht1 : ¬ (ts.length : Int) < 0 := by omega
  clear hg hr hr2 hS
  go_enter Tryz.func117, Tryz.ntmps117
  go_wp2_with fail
  go_loop [3, 11] (fun z j => (j = .int .i64 0 ∧ z = .int .i64 0) ∨ (j = .int .i64 1 ∧ z = .int .i64 (ts.length : Int)) ∨ (j = .int .i64 2 ∧ z = .int .i64 sm)) (fun _ j => 2 - (intOf j).toNat)
  case atStart => exact .inl ⟨rfl, rfl⟩
  case round =>
    rcases hrel with ⟨rfl, rfl⟩ | ⟨rfl, rfl⟩ | ⟨rfl, rfl⟩
    · go_wp2_with fail
      go_round
      case rel => exact .inr (.inl ⟨rfl, rfl⟩)
      case measure => simp [intOf]
    · go_wp2_with fail
      go_round
      case rel => exact .inr (.inr ⟨rfl, rfl⟩)
      case measure => simp [intOf]
    · go_wp2_with (go_at_call 131; refine HGR.out.mono ?_; clear HGR; rintro e w1 ⟨hb1, v0, rfl, hm0, hv0⟩)
      have HB1 := Lib.hid hb1
      have HM0 := Lib.hid hm0
      clear q0 q1 hb1 hm0 hv0
      go_loopw [6, 27] (fun v j wr => ∃ l : List Tm, ((j = .int .i64 0 ∧ l = []) ∨ (j = .int .i64 1 ∧ l = ts) ∨ (j = .int .i64 2 ∧ l = ts ++ us)) ∧ Below w.heap.size w wr ∧ Mine w.heap.size S wr v l) (fun _ j _ => 2 - (intOf j).toNat)
      case atStart => exact ⟨[], .inl ⟨rfl, rfl⟩, HB1.out, HM0.out⟩
      case round =>
        clear HB1 HM0
        obtain ⟨l, hj, hbw, hm⟩ := hrel
        have hg2 := HG.out.mov hbw
        have q0 := hg2.cell 0
        have q1 := hg2.cell 1
        have hml := hm.lt
        have hmg := hm.ge
        have hrs : ∀ (C : Option Addr) (z : List Tm) (v : Value), Mine w.heap.size S wr v l → Reads S w C z → Reads (fun k => S k ∨ v.ownBlock = some k) wr C z := fun C z v hm q => q.step (fun k hk hn q => q.elim hn (fun q => by have := hm.ge k q; omega)) (fun k hk _ => hbw.block k hk)
        rcases hj with ⟨rfl, rfl⟩ | ⟨rfl, rfl⟩ | ⟨rfl, rfl⟩
        · go_wp2_with (at_builtin; refine wpList_append_tms rfl (.tmp 31) (.tmp 32) rfl w.heap.size S _ [] ts A a rfl rfl hm (hrs _ _ _ hm HR.out) (fun k q => Nat.lt_of_lt_of_le (HSS.out k q) hbw.size) hbw.size (by simp only [List.length_nil]; unfold lim; omega) ?_; intro v1 w1 hm1 hg1 hat1)
          exact ⟨⟨_, .inr (.inl ⟨rfl, rfl⟩), bl_grown hbw hg1 (fun k e => hmg k e), hm1⟩, by simp [intOf]⟩
        · go_wp2_with (at_builtin; refine wpList_append_tms rfl (.tmp 31) (.tmp 32) rfl w.heap.size S _ l us B b rfl rfl hm (hrs _ _ _ hm HR2.out) (fun k q => Nat.lt_of_lt_of_le (HSS.out k q) hbw.size) hbw.size (by unfold lim; omega) ?_; intro v1 w1 hm1 hg1 hat1)
          exact ⟨⟨_, .inr (.inr ⟨rfl, rfl⟩), bl_grown hbw hg1 (fun k e => hmg k e), hm1⟩, by simp [intOf]⟩
        · obtain ⟨C, d, rfl, hd, hrd⟩ := hm.reads
          have HRD := Lib.hid hrd
          clear hrd hm hrs
          go_wp2_with fail
          go_ret
          exact ⟨hbw, C, d, rfl, hd, HRD.out⟩
end Go.Proofs.YtbmmdfehhhgkcaaGreat
