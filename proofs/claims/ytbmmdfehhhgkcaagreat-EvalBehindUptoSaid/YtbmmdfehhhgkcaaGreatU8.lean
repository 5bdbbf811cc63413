/- The contracts of (*work).apply and (*work).spine. The contracts of subst.done's closure, and of done. The contract of subst.done, for Apply. -/
import Derived.Test.YtbmmdfehhhgkcaaGreatU4
import Derived.Test.YtbmmdfehhhgkcaaGreatU5
import Derived.Tactics
import Derived.Tactics2
import Derived.Defers
import Derived.Recover
import Derived.Laws.Pointers
namespace Go.Proofs.YtbmmdfehhhgkcaaGreat
open Go.RowKit Go.Shelf

theorem AP_big {n : Nat} (h : 40000 < n) : AP n := fun S t x A c A2 c2 gw w _ _ _ _ _ _ _ hf => absurd hf.1 (by omega)
theorem SP_of {n : Nat} (h : ∀ m, n ≤ m → AP m) : SP n := fun S t l A c A2 c2 gw w hS hgw hbw hr hc hr2 hc2 hf => spine_calls l n h S t A c A2 c2 gw w hS hgw hbw hr hc hr2 hc2 hf
theorem apply_all : ∀ (d n : Nat), 40001 - n = d → AP n := by
  intro d
  induction d using Nat.strongRecOn with
  | _ d ih =>
    intro n hd
    rcases Nat.lt_or_ge 40000 n with h | h
    · exact AP_big h
    · have hA : ∀ m, n < m → AP m := fun m hm => ih (40001 - m) (by omega) m rfl
      exact apply_step n hA (fun m hm => SP_of (fun q hq => hA q (by omega)))
theorem apply_calls (n : Nat) : AP n := apply_all _ n rfl
theorem spine_all (n : Nat) : SP n := SP_of (fun m _ => apply_calls m)
end Go.Proofs.YtbmmdfehhhgkcaaGreat
namespace Go.Proofs.YtbmmdfehhhgkcaaGreat
open Go.RowKit Go.Shelf
set_option linter.unusedVariables false
set_option linter.unusedSimpArgs false

theorem run_assert_errno (xT : TypeId) (v : Value) (w : World) : (Instr.typeAssert (.iface 30 v) xT 30 true).run Tryz.prog w = .ok (.tuple #[v, .bool true]) w := by
  simp [Instr.typeAssert, run_underlying Tryz.underlying30, go_sem, Result.andThen]
theorem infoErrno : (Tryz.prog.info? 30).map (·.zero) = some (some (.int .i64 0)) := by kernel_rfl
theorem run_assert_none (xT : TypeId) (w : World) : (Instr.typeAssert .nilIface xT 30 true).run Tryz.prog w = .ok (.tuple #[.int .i64 0, .bool false]) w := by
  obtain ⟨i, hi, hz⟩ := Option.map_eq_some_iff.1 infoErrno
  simp [Instr.typeAssert, run_underlying Tryz.underlying30, go_sem, Result.andThen, zeroValue, typeInfo, hi, hz]
theorem res_nil {fn : Func} (h : fn.results = #[]) (tmps : Array Value) (W : World) : (results fn tmps).run Tryz.prog W = .ok (.tuple #[]) W := by
  simp [results, h]
set_option maxHeartbeats 4000000 in
theorem catch_panic (t e : Nat) (x : Int) (v0 v1 v2 v3 : Value) (older : List PanicEntry) (w : World) (ht : Blk w t #[v0, v1, v2] 25) (he : Blk w e #[v3] 30) (hne : t ≠ e) :
    CallsD Tryz.prog 102 #[.pointer (some ⟨t, 0, none⟩), .pointer (some ⟨e, 0, none⟩)] (.panicking ({ v := .iface 30 (.int .i64 x), recovered := false } :: older)) w fun q u' w' =>
      q = .returned (.tuple #[]) ∧ u' = .panicking ({ v := .iface 30 (.int .i64 x), recovered := true } :: older) ∧ w' = (((w.setCell ⟨t, 0, none⟩ (.int .i64 0)).setCell ⟨t, 1, none⟩ (.int .i64 0)).setCell ⟨t, 2, none⟩ (.slice none 0 0)).setCell ⟨e, 0, none⟩ (.int .i64 x) := by
  have t0 := ht.cell 0
  have t1 := ht.cell 1
  have t2 := ht.cell 2
  have f0 := ht.frozen 0
  have f1 := ht.frozen 1
  have f2 := ht.frozen 2
  have e0 := he.cell 0
  have g0 := he.frozen 0
  refine callsD_of_wpS Tryz.func102 rfl fun c₀ cs hu => ?_
  apply wpS_seq
  apply wpS_region
  simp [wpOpsS, go_sem, recoverD, hu, Tryz.ntmps102, Exit.thenS, Array.replicate, List.replicate]
  have hta := fun (xT : TypeId) (W : World) => run_assert_errno xT (.int .i64 x) W
  refine wpS_of_wp ?_
  go_wp2
  exact ⟨rfl, _, rfl, _, res_nil rfl _ _, rfl, rfl, rfl⟩
set_option maxHeartbeats 4000000 in
theorem catch_none (t e : Nat) (w : World) :
    CallsD Tryz.prog 102 #[.pointer (some ⟨t, 0, none⟩), .pointer (some ⟨e, 0, none⟩)] .returning w fun q u' w' => q = .returned (.tuple #[]) ∧ u' = .returning ∧ w' = w := by
  refine callsD_of_wpS Tryz.func102 rfl fun c₀ cs hu => ?_
  apply wpS_seq
  apply wpS_region
  simp [wpOpsS, go_sem, recoverD, hu, Tryz.ntmps102, Exit.thenS, Array.replicate, List.replicate]
  have hta := fun (xT : TypeId) (W : World) => run_assert_none xT W
  refine wpS_of_wp ?_
  go_wp2
  refine ⟨rfl, .returning, ?_, _, res_nil rfl _ _, rfl, rfl, rfl⟩
  rw [← hu]

set_option maxHeartbeats 4000000 in
theorem ap1_calls (S : Nat → Prop) (t : Tm) (x : Su) (A : Option Addr) (c : Nat) (A2 : Option Addr) (c2 gw gt gs : Nat) (w : World) (hS : ∀ k, S k → k < w.heap.size) (hgw : S gw) (hb : Blk w gw #[.int .i64 0] 141)
    (hbt : Blk w gt #[.int .i64 t.k, .int .i64 t.h, .slice A t.a.length c] 25) (hbs : Blk w gs #[.slice A2 x.l.length c2, .int .i64 x.s] 108) (hr : Reads S w A t.a) (hc : t.a.length ≤ c) (hr2 : Reads S w A2 x.l) (hc2 : x.l.length ≤ c2) (hf : Fit (.app 0 t x)) :
    Calls Tryz.prog 84 #[.pointer (some ⟨gw, 0, none⟩), .pointer (some ⟨gt, 0, none⟩), .pointer (some ⟨gs, 0, none⟩)] w (RetW S gw (.app 0 t x) w) := by
  have t0 := hbt.cell 0
  have t1 := hbt.cell 1
  have t2 := hbt.cell 2
  have s0 := hbs.cell 0
  have s1 := hbs.cell 1
  have lt := hbt.lt
  have ls := hbs.lt
  have hgl := hS gw hgw
  have HAP : Hid (∀ W, Below w.heap.size w W → w.heap.size < W.heap.size → Calls Tryz.prog 85 #[.pointer (some ⟨gw, 0, none⟩), .agg #[.int .i64 t.k, .int .i64 t.h, .slice A t.a.length c], .agg #[.slice A2 x.l.length c2, .int .i64 x.s]] W (RetW (fun k => S k ∨ k = w.heap.size) gw (.app 0 t x) W)) :=
    fun W hbw hlt => by
      have hT : ∀ k, k < w.heap.size → ¬ S k → ¬ (S k ∨ k = w.heap.size) := fun k hk hn q => q.elim hn (fun q => by omega)
      exact apply_calls 0 _ t x A c A2 c2 gw W (fun k q => q.elim (fun q => Nat.lt_of_lt_of_le (hS k q) hbw.size) (fun q => q ▸ hlt)) (.inl hgw) (hb.mov hbw) (hr.step hT (fun k hk _ => hbw.block k hk)) hc (hr2.step hT (fun k hk _ => hbw.block k hk)) hc2 hf
  have hz := Blk.nw w #[.int .i64 0, .int .i64 0, .slice none 0 0] 25 _ rfl
  have HZ := Lib.hid hz
  clear hz
  go_enter Tryz.func84, Tryz.ntmps84
  go_wp2_with (go_at_call 85; refine (HAP.out _ (bl_alloc (Below.refl _ _) _) (by simp)).mono ?_; rintro e w2 ⟨hg2, h2⟩
               have hg3 := World.grownBy.trans (gb_alloc (gb_refl w (some gw)) (.cells #[.int .i64 0, .int .i64 0, .slice none 0 0] 25)) hg2
               rcases h2 with ⟨xe, rfl, hev⟩ | ⟨u, m, B, d, rfl, hev, hd, hru, hbw2⟩; (exact ⟨rfl, hg3, .inl ⟨xe, rfl, hev⟩⟩)
               have q := HZ.out.grown hg2 (fun e => by cases e; omega)
               have q0 := q.cell 0
               have q1 := q.cell 1
               have q2 := q.cell 2
               have u0 := q.frozen 0
               have u1 := q.frozen 1
               have u2 := q.frozen 2
               have HQ := Lib.hid q
               clear q)
  exact bodyPost_ret (res_tm1 rfl _ _ _ _ _ _ rfl (HQ.out.set3 _ _ _)) rfl ⟨gb_new3 hg3 (Nat.le_refl _) _ _ _, .inr ⟨u, m, B, d, rfl, hev, hd, (hru.set3 (.inr rfl)).less (fun k q => .inl q), far3 hbw2 (by omega) _ _ _⟩⟩
end Go.Proofs.YtbmmdfehhhgkcaaGreat
namespace Go.Proofs.YtbmmdfehhhgkcaaGreat
open Go.RowKit Go.Shelf
set_option linter.unusedVariables false
set_option linter.unusedSimpArgs false

/-- What comes back: a term and no error, or the nought and one. -/
def RetD (S : Nat → Prop) (c : Cfg) (w : World) (e : Ending) (w' : World) : Prop :=
  Below w.heap.size w w' ∧ ((∃ u m B d, Ev c (.one u m) ∧ mayB u = true ∧ e = .returned (.tuple #[.agg #[.int .i64 u.k, .int .i64 u.h, .slice B u.a.length d], .int .i64 0]) ∧ u.a.length ≤ d ∧ Reads S w' B u.a) ∨
    ∃ xe, e = .returned (.tuple #[zeroTm, .int .i64 xe]) ∧ (Ev c (.err xe) ∨ (xe = 4 ∧ ∃ u m, Ev c (.one u m) ∧ mayB u = false)))

theorem grown_to {w W : World} {g : Nat} (h : w.grownBy W (some g)) (hg : w.heap.size ≤ g) : Below w.heap.size w W := ⟨h.os, h.tape, h.output, h.size, fun k hk => h.block k hk (fun e => by have := Option.some.inj e; omega)⟩
theorem res_te {fn : Func} {p1 p2 : Tmp} (h : fn.results = #[.cell p1 25, .cell p2 30]) (tmps : Array Value) (W : World) (g e : Nat) (x y z v : Value) (hp1 : tmps[p1]?.getD undef = .pointer (some ⟨g, 0, none⟩)) (hp2 : tmps[p2]?.getD undef = .pointer (some ⟨e, 0, none⟩)) (hb : Blk W g #[x, y, z] 25) (he : Blk W e #[v] 30) :
    (results fn tmps).run Tryz.prog W = .ok (.tuple #[.agg #[x, y, z], v]) W := by
  have q0 := hb.cell 0
  have q1 := hb.cell 1
  have q2 := hb.cell 2
  have e0 := he.cell 0
  simp [results, h, hp1, hp2, go_sem, q0, q1, q2, e0]
set_option maxHeartbeats 8000000 in
theorem done_calls (S : Nat → Prop) (t : Tm) (x : Su) (A : Option Addr) (c : Nat) (A2 : Option Addr) (c2 gt gs : Nat) (w : World) (hS : ∀ k, S k → k < w.heap.size)
    (hbt : Blk w gt #[.int .i64 t.k, .int .i64 t.h, .slice A t.a.length c] 25) (hbs : Blk w gs #[.slice A2 x.l.length c2, .int .i64 x.s] 108) (hr : Reads S w A t.a) (hc : t.a.length ≤ c) (hr2 : Reads S w A2 x.l) (hc2 : x.l.length ≤ c2) (hf : Fit (.app 0 t x)) :
    Calls Tryz.prog 83 #[.func (.func 84) #[] #[.pointer (some ⟨gt, 0, none⟩), .pointer (some ⟨gs, 0, none⟩)]] w (RetD S (.app 0 t x) w) := by
  have hmf : ∀ (fn : Fn) (first cap : Array Value) (w : World), (Instr.makeFunc fn first cap).run Tryz.prog w = .ok (.func fn first cap) w := fun _ _ _ _ => rfl
  have hW3 : Below w.heap.size w (((w.alloc (.cells #[.int .i64 0, .int .i64 0, .slice none 0 0] 25)).alloc (.cells #[.int .i64 0] 30)).alloc (.cells #[.int .i64 0] 141)) := bl_alloc (bl_alloc (bl_alloc (Below.refl _ _) _) _) _
  have HT : Hid (Blk (((w.alloc (.cells #[.int .i64 0, .int .i64 0, .slice none 0 0] 25)).alloc (.cells #[.int .i64 0] 30)).alloc (.cells #[.int .i64 0] 141)) w.heap.size #[.int .i64 0, .int .i64 0, .slice none 0 0] 25) := ((Blk.nw _ _ _ _ rfl).al _).al _
  have HE : Hid (Blk (((w.alloc (.cells #[.int .i64 0, .int .i64 0, .slice none 0 0] 25)).alloc (.cells #[.int .i64 0] 30)).alloc (.cells #[.int .i64 0] 141)) (w.heap.size + 1) #[.int .i64 0] 30) := (Blk.nw _ _ _ _ (by simp)).al _
  have HGW : Hid (Blk (((w.alloc (.cells #[.int .i64 0, .int .i64 0, .slice none 0 0] 25)).alloc (.cells #[.int .i64 0] 30)).alloc (.cells #[.int .i64 0] 141)) (w.heap.size + 1 + 1) #[.int .i64 0] 141) := Blk.nw _ _ _ _ (by simp)
  have hT : ∀ k, k < w.heap.size → ¬ S k → ¬ S3 S w.heap.size k := fun k hk hn q => q.elim hn (fun q => by omega)
  have HA := Lib.hid (ap1_calls (S3 S w.heap.size) t x A c A2 c2 (w.heap.size + 1 + 1) gt gs _ (fun k q => by simp only [World.size_alloc]; rcases q with q | q; (have := hS k q; omega); omega) (.inr ⟨by omega, by omega⟩) HGW.out (hbt.mov hW3) (hbs.mov hW3) (hr.step hT (fun k hk _ => hW3.block k hk)) hc (hr2.step hT (fun k hk _ => hW3.block k hk)) hc2 hf)
  have HW3 := Lib.hid hW3
  clear hW3 hT hbt hbs hr hr2
  go_enter_defers Tryz.func83, Tryz.ntmps83
  go_wp2_with (first
    | (go_at_call 84; refine HA.out.mono ?_; clear HA; rintro e w1 ⟨hg1, h1⟩
       have q := HT.out.grown hg1 (fun e => by have := Option.some.inj e; omega)
       have q0 := q.cell 0
       have q1 := q.cell 1
       have q2 := q.cell 2
       have u0 := q.frozen 0
       have u1 := q.frozen 1
       have u2 := q.frozen 2
       have HQ := Lib.hid q
       clear q
       have r := HE.out.grown hg1 (fun e => by have := Option.some.inj e; omega)
       have r0 := r.cell 0
       have v0 := r.frozen 0
       have HR := Lib.hid r
       clear r
       rcases h1 with ⟨xe, rfl, hev⟩ | ⟨u, m, B, d, rfl, hev, hd, hru, hbw⟩)
    | (go_at_call 38; refine (May_calls u B d _ ((hru.set3 (.inr ⟨by omega, by omega⟩)).less (fun _ q => q.elim)) hd).mono ?_; rintro e w2 ⟨rfl, hb2⟩
       have q := (HQ.out.set3 (.int .i64 u.k) (.int .i64 u.h) (.slice B u.a.length d)).mov hb2
       have q0 := q.cell 0
       have q1 := q.cell 1
       have q2 := q.cell 2
       have u0 := q.frozen 0
       have u1 := q.frozen 1
       have u2 := q.frozen 2
       have HQ2 := Lib.hid q
       clear q
       have r := (far3 HR.out (g' := w.heap.size) (by omega) (.int .i64 u.k) (.int .i64 u.h) (.slice B u.a.length d)).mov hb2
       have r0 := r.cell 0
       have v0 := r.frozen 0
       have HR2 := Lib.hid r
       clear r
       obtain ⟨mb, hmb⟩ : ∃ mb, mayB u = mb := ⟨_, rfl⟩
       have HMB := Lib.hid hmb
       rw [hmb]
       clear hmb
       cases mb)
    | (go_at_call 103; refine (fail_calls 4 _).mono ?_; rintro e w3 ⟨rfl, rfl⟩))
  · refine leaves_cons (f := 102) (args := #[.pointer (some ⟨w.heap.size, 0, none⟩), .pointer (some ⟨w.heap.size + 1, 0, none⟩)]) (by simp) (by simp [go_sem]) ?_
    refine (catch_panic w.heap.size (w.heap.size + 1) xe _ _ _ _ [] _ HQ.out HR.out (by omega)).mono ?_
    rintro e u' w'' ⟨rfl, rfl, rfl⟩
    refine ⟨_, res_te rfl _ _ _ _ _ _ _ _ rfl rfl ((HQ.out.set3 _ _ _).far (p := ⟨w.heap.size + 1, 0, none⟩) (by show w.heap.size ≠ w.heap.size + 1; omega) _) ((far3 HR.out (by omega) _ _ _).set 0 _), ?_, .inr ⟨xe, rfl, .inl hev⟩⟩
    have hb1 := grown_to (World.grownBy.trans (grown_but (bl_grownBy HW3.out) _) hg1) (by omega)
    exact bl_set (bl_set3 hb1 (Nat.le_refl _)) (p := ⟨w.heap.size + 1, 0, none⟩) (Nat.le_succ _) _
  · refine leaves_cons (f := 102) (args := #[.pointer (some ⟨w.heap.size, 0, none⟩), .pointer (some ⟨w.heap.size + 1, 0, none⟩)]) (by simp) (by simp [go_sem]) ?_
    refine (catch_panic w.heap.size (w.heap.size + 1) 4 _ _ _ _ [] _ HQ2.out HR2.out (by omega)).mono ?_
    rintro e u' w'' ⟨rfl, rfl, rfl⟩
    refine ⟨_, res_te rfl _ _ _ _ _ _ _ _ rfl rfl ((HQ2.out.set3 _ _ _).far (p := ⟨w.heap.size + 1, 0, none⟩) (by show w.heap.size ≠ w.heap.size + 1; omega) _) ((far3 HR2.out (by omega) _ _ _).set 0 _), ?_, .inr ⟨4, rfl, .inr ⟨rfl, u, m, hev, HMB.out⟩⟩⟩
    have hb1 := grown_to (World.grownBy.trans (grown_but (bl_grownBy HW3.out) _) hg1) (by omega)
    exact bl_set (bl_set3 (bl_then (bl_set3 hb1 (Nat.le_refl _)) hb2) (Nat.le_refl _)) (p := ⟨w.heap.size + 1, 0, none⟩) (Nat.le_succ _) _
  · refine leaves_cons (f := 102) (args := #[.pointer (some ⟨w.heap.size, 0, none⟩), .pointer (some ⟨w.heap.size + 1, 0, none⟩)]) (by simp) (by simp [go_sem]) ?_
    refine (catch_none w.heap.size (w.heap.size + 1) _).mono ?_
    rintro e u' w'' ⟨rfl, rfl, rfl⟩
    refine ⟨_, res_te rfl _ _ _ _ _ _ _ _ rfl rfl ((HQ2.out.set3 _ _ _).far (p := ⟨w.heap.size + 1, 0, none⟩) (by show w.heap.size ≠ w.heap.size + 1; omega) _) ((far3 HR2.out (by omega) _ _ _).set 0 _), ?_, .inl ⟨u, m, B, d, hev, HMB.out, rfl, hd, ?_⟩⟩
    · have hb1 := grown_to (World.grownBy.trans (grown_but (bl_grownBy HW3.out) _) hg1) (by omega)
      exact bl_set (bl_set3 (bl_then (bl_set3 hb1 (Nat.le_refl _)) hb2) (Nat.le_refl _)) (p := ⟨w.heap.size + 1, 0, none⟩) (Nat.le_succ _) _
    · have h1 := (hru.set3 (x := .int .i64 u.k) (y := .int .i64 u.h) (z := .slice B u.a.length d) (g := w.heap.size) (.inr ⟨Nat.le_refl _, by omega⟩)).mov hb2
      exact ((h1.set3 (.inr ⟨Nat.le_refl _, by omega⟩)).set (p := ⟨w.heap.size + 1, 0, none⟩) (.inr ⟨Nat.le_succ _, by show w.heap.size + 1 ≤ w.heap.size + 2; omega⟩) _).less (fun k q => .inl q)
end Go.Proofs.YtbmmdfehhhgkcaaGreat
