/- The contract of subst.done, for Apply. -/
import Derived.Test.YtaliphgdahpagaaU7
namespace Go.Proofs.Ytaliphgdahpagaa
open Go.RowKit Go.Shelf
set_option linter.unusedVariables false
set_option linter.unusedSimpArgs false

/-- What comes back: a term and no error, or the nought and one. -/
def RetD (S : Nat → Prop) (c : Cfg) (w : World) (e : Ending) (w' : World) : Prop :=
  Below w.heap.size w w' ∧ ((∃ u m B d, Ev c (.one u m) ∧ mayB u = true ∧ e = .returned (.tuple #[.agg #[.int .i64 u.k, .int .i64 u.h, .slice B u.a.length d], .int .i64 0]) ∧ u.a.length ≤ d ∧ Reads S w' B u.a) ∨
    ∃ xe, e = .returned (.tuple #[zeroTm, .int .i64 xe]) ∧ (Ev c (.err xe) ∨ (xe = 4 ∧ ∃ u m, Ev c (.one u m) ∧ mayB u = false)))

theorem grown_to {w W : World} {g : Nat} (h : w.grownBy W (some g)) (hg : w.heap.size ≤ g) : Below w.heap.size w W := ⟨h.os, h.tape, h.output, h.size, fun k hk => h.block k hk (fun e => by have := Option.some.inj e; omega)⟩
theorem res_te {fn : Func} {p1 p2 : Tmp} (h : fn.results = #[.cell p1 24, .cell p2 28]) (tmps : Array Value) (W : World) (g e : Nat) (x y z v : Value) (hp1 : tmps[p1]?.getD undef = .pointer (some ⟨g, 0, none⟩)) (hp2 : tmps[p2]?.getD undef = .pointer (some ⟨e, 0, none⟩)) (hb : Blk W g #[x, y, z] 24) (he : Blk W e #[v] 28) :
    (results fn tmps).run Try.prog W = .ok (.tuple #[.agg #[x, y, z], v]) W := by
  have q0 := hb.cell 0
  have q1 := hb.cell 1
  have q2 := hb.cell 2
  have e0 := he.cell 0
  simp [results, h, hp1, hp2, go_sem, q0, q1, q2, e0]
set_option maxHeartbeats 8000000 in
theorem done_calls (S : Nat → Prop) (t : Tm) (x : Su) (A : Option Addr) (c : Nat) (A2 : Option Addr) (c2 gt gs : Nat) (w : World) (hS : ∀ k, S k → k < w.heap.size)
    (hbt : Blk w gt #[.int .i64 t.k, .int .i64 t.h, .slice A t.a.length c] 24) (hbs : Blk w gs #[.slice A2 x.l.length c2, .int .i64 x.s] 40) (hr : Reads S w A t.a) (hc : t.a.length ≤ c) (hr2 : Reads S w A2 x.l) (hc2 : x.l.length ≤ c2) (hf : Fit (.app 0 t x)) :
    Calls Try.prog 35 #[.func (.func 36) #[] #[.pointer (some ⟨gt, 0, none⟩), .pointer (some ⟨gs, 0, none⟩)]] w (RetD S (.app 0 t x) w) := by
  have hmf : ∀ (fn : Fn) (first cap : Array Value) (w : World), (Instr.makeFunc fn first cap).run Try.prog w = .ok (.func fn first cap) w := fun _ _ _ _ => rfl
  have hW3 : Below w.heap.size w (((w.alloc (.cells #[.int .i64 0, .int .i64 0, .slice none 0 0] 24)).alloc (.cells #[.int .i64 0] 28)).alloc (.cells #[.int .i64 0] 72)) := bl_alloc (bl_alloc (bl_alloc (Below.refl _ _) _) _) _
  have HT : Hid (Blk (((w.alloc (.cells #[.int .i64 0, .int .i64 0, .slice none 0 0] 24)).alloc (.cells #[.int .i64 0] 28)).alloc (.cells #[.int .i64 0] 72)) w.heap.size #[.int .i64 0, .int .i64 0, .slice none 0 0] 24) := ((Blk.nw _ _ _ _ rfl).al _).al _
  have HE : Hid (Blk (((w.alloc (.cells #[.int .i64 0, .int .i64 0, .slice none 0 0] 24)).alloc (.cells #[.int .i64 0] 28)).alloc (.cells #[.int .i64 0] 72)) (w.heap.size + 1) #[.int .i64 0] 28) := (Blk.nw _ _ _ _ (by simp)).al _
  have HGW : Hid (Blk (((w.alloc (.cells #[.int .i64 0, .int .i64 0, .slice none 0 0] 24)).alloc (.cells #[.int .i64 0] 28)).alloc (.cells #[.int .i64 0] 72)) (w.heap.size + 1 + 1) #[.int .i64 0] 72) := Blk.nw _ _ _ _ (by simp)
  have hT : ∀ k, k < w.heap.size → ¬ S k → ¬ S3 S w.heap.size k := fun k hk hn q => q.elim hn (fun q => by omega)
  have HA := Lib.hid (ap1_calls (S3 S w.heap.size) t x A c A2 c2 (w.heap.size + 1 + 1) gt gs _ (fun k q => by simp only [World.size_alloc]; rcases q with q | q; (have := hS k q; omega); omega) (.inr ⟨by omega, by omega⟩) HGW.out (hbt.mov hW3) (hbs.mov hW3) (hr.step hT (fun k hk _ => hW3.block k hk)) hc (hr2.step hT (fun k hk _ => hW3.block k hk)) hc2 hf)
  have HW3 := Lib.hid hW3
  clear hW3 hT hbt hbs hr hr2
  go_enter_defers Try.func35, Try.ntmps35
  go_wp2_with (first
    | (go_at_call 36; refine HA.out.mono ?_; clear HA; rintro e w1 ⟨hg1, h1⟩
       have q := HT.out.grown hg1 (fun e => by have := Option.some.inj e; omega)
       have q0 := q.cell 0
       have q1 := q.cell 1
       have q2 := q.cell 2
       have u0 := q.frozen 0
       have u1 := q.frozen 1
       have u2 := q.frozen 2
       have HQ := Lib.hid q
       clear q
       have r := HE.out.grown hg1 (fun e => by have := Option.some.inj e; omega)
       have r0 := r.cell 0
       have v0 := r.frozen 0
       have HR := Lib.hid r
       clear r
       rcases h1 with ⟨xe, rfl, hev⟩ | ⟨u, m, B, d, rfl, hev, hd, hru, hbw⟩)
    | (go_at_call 12; refine (May_calls u B d _ ((hru.set3 (.inr ⟨by omega, by omega⟩)).less (fun _ q => q.elim)) hd).mono ?_; rintro e w2 ⟨rfl, hb2⟩
       have q := (HQ.out.set3 (.int .i64 u.k) (.int .i64 u.h) (.slice B u.a.length d)).mov hb2
       have q0 := q.cell 0
       have q1 := q.cell 1
       have q2 := q.cell 2
       have u0 := q.frozen 0
       have u1 := q.frozen 1
       have u2 := q.frozen 2
       have HQ2 := Lib.hid q
       clear q
       have r := (far3 HR.out (g' := w.heap.size) (by omega) (.int .i64 u.k) (.int .i64 u.h) (.slice B u.a.length d)).mov hb2
       have r0 := r.cell 0
       have v0 := r.frozen 0
       have HR2 := Lib.hid r
       clear r
       obtain ⟨mb, hmb⟩ : ∃ mb, mayB u = mb := ⟨_, rfl⟩
       have HMB := Lib.hid hmb
       rw [hmb]
       clear hmb
       cases mb)
    | (go_at_call 49; refine (fail_calls 4 _).mono ?_; rintro e w3 ⟨rfl, rfl⟩))
  · refine leaves_cons (f := 48) (args := #[.pointer (some ⟨w.heap.size, 0, none⟩), .pointer (some ⟨w.heap.size + 1, 0, none⟩)]) (by simp) (by simp [go_sem]) ?_
    refine (catch_panic w.heap.size (w.heap.size + 1) xe _ _ _ _ [] _ HQ.out HR.out (by omega)).mono ?_
    rintro e u' w'' ⟨rfl, rfl, rfl⟩
    refine ⟨_, res_te rfl _ _ _ _ _ _ _ _ rfl rfl ((HQ.out.set3 _ _ _).far (p := ⟨w.heap.size + 1, 0, none⟩) (by show w.heap.size ≠ w.heap.size + 1; omega) _) ((far3 HR.out (by omega) _ _ _).set 0 _), ?_, .inr ⟨xe, rfl, .inl hev⟩⟩
    have hb1 := grown_to (World.grownBy.trans (grown_but (bl_grownBy HW3.out) _) hg1) (by omega)
    exact bl_set (bl_set3 hb1 (Nat.le_refl _)) (p := ⟨w.heap.size + 1, 0, none⟩) (Nat.le_succ _) _
  · refine leaves_cons (f := 48) (args := #[.pointer (some ⟨w.heap.size, 0, none⟩), .pointer (some ⟨w.heap.size + 1, 0, none⟩)]) (by simp) (by simp [go_sem]) ?_
    refine (catch_panic w.heap.size (w.heap.size + 1) 4 _ _ _ _ [] _ HQ2.out HR2.out (by omega)).mono ?_
    rintro e u' w'' ⟨rfl, rfl, rfl⟩
    refine ⟨_, res_te rfl _ _ _ _ _ _ _ _ rfl rfl ((HQ2.out.set3 _ _ _).far (p := ⟨w.heap.size + 1, 0, none⟩) (by show w.heap.size ≠ w.heap.size + 1; omega) _) ((far3 HR2.out (by omega) _ _ _).set 0 _), ?_, .inr ⟨4, rfl, .inr ⟨rfl, u, m, hev, HMB.out⟩⟩⟩
    have hb1 := grown_to (World.grownBy.trans (grown_but (bl_grownBy HW3.out) _) hg1) (by omega)
    exact bl_set (bl_set3 (bl_then (bl_set3 hb1 (Nat.le_refl _)) hb2) (Nat.le_refl _)) (p := ⟨w.heap.size + 1, 0, none⟩) (Nat.le_succ _) _
  · refine leaves_cons (f := 48) (args := #[.pointer (some ⟨w.heap.size, 0, none⟩), .pointer (some ⟨w.heap.size + 1, 0, none⟩)]) (by simp) (by simp [go_sem]) ?_
    refine (catch_none w.heap.size (w.heap.size + 1) _).mono ?_
    rintro e u' w'' ⟨rfl, rfl, rfl⟩
    refine ⟨_, res_te rfl _ _ _ _ _ _ _ _ rfl rfl ((HQ2.out.set3 _ _ _).far (p := ⟨w.heap.size + 1, 0, none⟩) (by show w.heap.size ≠ w.heap.size + 1; omega) _) ((far3 HR2.out (by omega) _ _ _).set 0 _), ?_, .inl ⟨u, m, B, d, hev, HMB.out, rfl, hd, ?_⟩⟩
    · have hb1 := grown_to (World.grownBy.trans (grown_but (bl_grownBy HW3.out) _) hg1) (by omega)
      exact bl_set (bl_set3 (bl_then (bl_set3 hb1 (Nat.le_refl _)) hb2) (Nat.le_refl _)) (p := ⟨w.heap.size + 1, 0, none⟩) (Nat.le_succ _) _
    · have h1 := (hru.set3 (x := .int .i64 u.k) (y := .int .i64 u.h) (z := .slice B u.a.length d) (g := w.heap.size) (.inr ⟨Nat.le_refl _, by omega⟩)).mov hb2
      exact ((h1.set3 (.inr ⟨Nat.le_refl _, by omega⟩)).set (p := ⟨w.heap.size + 1, 0, none⟩) (.inr ⟨Nat.le_succ _, by show w.heap.size + 1 ≤ w.heap.size + 2; omega⟩) _).less (fun k q => .inl q)
end Go.Proofs.Ytaliphgdahpagaa
