/- The contracts of subst.done's closure, and of done. -/
import Derived.Test.YtaliphgdahpagaaU6
import Derived.Tactics
import Derived.Tactics2
import Derived.Defers
import Derived.Recover
import Derived.Laws.Pointers
namespace Go.Proofs.Ytaliphgdahpagaa
open Go.RowKit Go.Shelf
set_option linter.unusedVariables false
set_option linter.unusedSimpArgs false

theorem run_assert_errno (xT : TypeId) (v : Value) (w : World) : (Instr.typeAssert (.iface 28 v) xT 28 true).run Try.prog w = .ok (.tuple #[v, .bool true]) w := by
  simp [Instr.typeAssert, run_underlying Try.underlying28, go_sem, Result.andThen]
theorem infoErrno : (Try.prog.info? 28).map (·.zero) = some (some (.int .i64 0)) := by kernel_rfl
theorem run_assert_none (xT : TypeId) (w : World) : (Instr.typeAssert .nilIface xT 28 true).run Try.prog w = .ok (.tuple #[.int .i64 0, .bool false]) w := by
  obtain ⟨i, hi, hz⟩ := Option.map_eq_some_iff.1 infoErrno
  simp [Instr.typeAssert, run_underlying Try.underlying28, go_sem, Result.andThen, zeroValue, typeInfo, hi, hz]
theorem res_nil {fn : Func} (h : fn.results = #[]) (tmps : Array Value) (W : World) : (results fn tmps).run Try.prog W = .ok (.tuple #[]) W := by
  simp [results, h]
set_option maxHeartbeats 4000000 in
theorem catch_panic (t e : Nat) (x : Int) (v0 v1 v2 v3 : Value) (older : List PanicEntry) (w : World) (ht : Blk w t #[v0, v1, v2] 24) (he : Blk w e #[v3] 28) (hne : t ≠ e) :
    CallsD Try.prog 48 #[.pointer (some ⟨t, 0, none⟩), .pointer (some ⟨e, 0, none⟩)] (.panicking ({ v := .iface 28 (.int .i64 x), recovered := false } :: older)) w fun q u' w' =>
      q = .returned (.tuple #[]) ∧ u' = .panicking ({ v := .iface 28 (.int .i64 x), recovered := true } :: older) ∧ w' = (((w.setCell ⟨t, 0, none⟩ (.int .i64 0)).setCell ⟨t, 1, none⟩ (.int .i64 0)).setCell ⟨t, 2, none⟩ (.slice none 0 0)).setCell ⟨e, 0, none⟩ (.int .i64 x) := by
  have t0 := ht.cell 0
  have t1 := ht.cell 1
  have t2 := ht.cell 2
  have f0 := ht.frozen 0
  have f1 := ht.frozen 1
  have f2 := ht.frozen 2
  have e0 := he.cell 0
  have g0 := he.frozen 0
  refine callsD_of_wpS Try.func48 rfl fun c₀ cs hu => ?_
  apply wpS_seq
  apply wpS_region
  simp [wpOpsS, go_sem, recoverD, hu, Try.ntmps48, Exit.thenS, Array.replicate, List.replicate]
  have hta := fun (xT : TypeId) (W : World) => run_assert_errno xT (.int .i64 x) W
  refine wpS_of_wp ?_
  go_wp2
  exact ⟨rfl, _, rfl, _, res_nil rfl _ _, rfl, rfl, rfl⟩
set_option maxHeartbeats 4000000 in
theorem catch_none (t e : Nat) (w : World) :
    CallsD Try.prog 48 #[.pointer (some ⟨t, 0, none⟩), .pointer (some ⟨e, 0, none⟩)] .returning w fun q u' w' => q = .returned (.tuple #[]) ∧ u' = .returning ∧ w' = w := by
  refine callsD_of_wpS Try.func48 rfl fun c₀ cs hu => ?_
  apply wpS_seq
  apply wpS_region
  simp [wpOpsS, go_sem, recoverD, hu, Try.ntmps48, Exit.thenS, Array.replicate, List.replicate]
  have hta := fun (xT : TypeId) (W : World) => run_assert_none xT W
  refine wpS_of_wp ?_
  go_wp2
  refine ⟨rfl, .returning, ?_, _, res_nil rfl _ _, rfl, rfl, rfl⟩
  rw [← hu]

set_option maxHeartbeats 4000000 in
theorem ap1_calls (S : Nat → Prop) (t : Tm) (x : Su) (A : Option Addr) (c : Nat) (A2 : Option Addr) (c2 gw gt gs : Nat) (w : World) (hS : ∀ k, S k → k < w.heap.size) (hgw : S gw) (hb : Blk w gw #[.int .i64 0] 72)
    (hbt : Blk w gt #[.int .i64 t.k, .int .i64 t.h, .slice A t.a.length c] 24) (hbs : Blk w gs #[.slice A2 x.l.length c2, .int .i64 x.s] 40) (hr : Reads S w A t.a) (hc : t.a.length ≤ c) (hr2 : Reads S w A2 x.l) (hc2 : x.l.length ≤ c2) (hf : Fit (.app 0 t x)) :
    Calls Try.prog 36 #[.pointer (some ⟨gw, 0, none⟩), .pointer (some ⟨gt, 0, none⟩), .pointer (some ⟨gs, 0, none⟩)] w (RetW S gw (.app 0 t x) w) := by
  have t0 := hbt.cell 0
  have t1 := hbt.cell 1
  have t2 := hbt.cell 2
  have s0 := hbs.cell 0
  have s1 := hbs.cell 1
  have lt := hbt.lt
  have ls := hbs.lt
  have hgl := hS gw hgw
  have HAP : Hid (∀ W, Below w.heap.size w W → w.heap.size < W.heap.size → Calls Try.prog 37 #[.pointer (some ⟨gw, 0, none⟩), .agg #[.int .i64 t.k, .int .i64 t.h, .slice A t.a.length c], .agg #[.slice A2 x.l.length c2, .int .i64 x.s]] W (RetW (fun k => S k ∨ k = w.heap.size) gw (.app 0 t x) W)) :=
    fun W hbw hlt => by
      have hT : ∀ k, k < w.heap.size → ¬ S k → ¬ (S k ∨ k = w.heap.size) := fun k hk hn q => q.elim hn (fun q => by omega)
      exact apply_calls 0 _ t x A c A2 c2 gw W (fun k q => q.elim (fun q => Nat.lt_of_lt_of_le (hS k q) hbw.size) (fun q => q ▸ hlt)) (.inl hgw) (hb.mov hbw) (hr.step hT (fun k hk _ => hbw.block k hk)) hc (hr2.step hT (fun k hk _ => hbw.block k hk)) hc2 hf
  have hz := Blk.nw w #[.int .i64 0, .int .i64 0, .slice none 0 0] 24 _ rfl
  have HZ := Lib.hid hz
  clear hz
  go_enter Try.func36, Try.ntmps36
  go_wp2_with (go_at_call 37; refine (HAP.out _ (bl_alloc (Below.refl _ _) _) (by simp)).mono ?_; rintro e w2 ⟨hg2, h2⟩
               have hg3 := World.grownBy.trans (gb_alloc (gb_refl w (some gw)) (.cells #[.int .i64 0, .int .i64 0, .slice none 0 0] 24)) hg2
               rcases h2 with ⟨xe, rfl, hev⟩ | ⟨u, m, B, d, rfl, hev, hd, hru, hbw2⟩; (exact ⟨rfl, hg3, .inl ⟨xe, rfl, hev⟩⟩)
               have q := HZ.out.grown hg2 (fun e => by cases e; omega)
               have q0 := q.cell 0
               have q1 := q.cell 1
               have q2 := q.cell 2
               have u0 := q.frozen 0
               have u1 := q.frozen 1
               have u2 := q.frozen 2
               have HQ := Lib.hid q
               clear q)
  exact bodyPost_ret (res_tm1 rfl _ _ _ _ _ _ rfl (HQ.out.set3 _ _ _)) rfl ⟨gb_new3 hg3 (Nat.le_refl _) _ _ _, .inr ⟨u, m, B, d, rfl, hev, hd, (hru.set3 (.inr rfl)).less (fun k q => .inl q), far3 hbw2 (by omega) _ _ _⟩⟩
end Go.Proofs.Ytaliphgdahpagaa
