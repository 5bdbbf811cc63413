/- The contracts of amanuensisref06.Invert and of the chapter's examples. -/
import Derived.Test.YtbmmdfehhhgkcaaGreatI4
import Derived.Test.YtbmmdfehhhgkcaaGreatI2
namespace Go.Proofs.YtbmmdfehhhgkcaaGreat
open Go.RowKit Go.Shelf

theorem mayV_prop {xs : List Int} {n : Int} (h : mayV xs n = true) : MayV xs n := by
  rcases Classical.em (MayV xs n) with q | q
  · exact q
  · rw [mayV_false q] at h; cases h

set_option maxHeartbeats 4000000 in
theorem InvertR_calls (S : Nat → Prop) (t : Tm) (A : Option Addr) (c : Nat) (xs : List Int) (A2 : Option Addr) (c2 : Nat) (n : Int) (w : World) (hS : ∀ k, S k → k < w.heap.size) (hr : Reads S w A t.a) (hc : t.a.length ≤ c) (hr2 : RdI (fun _ => False) w A2 xs) (hc2 : xs.length ≤ c2) :
    Calls Tryz.prog 120 #[.agg #[.int .i64 t.k, .int .i64 t.h, .slice A t.a.length c], .slice A2 xs.length c2, .int .i64 n] w (RetE S (invV t xs n) w) := by
  have hb0 : Below w.heap.size w ((w.alloc (.cells #[.int .i64 t.k, .int .i64 t.h, .slice A t.a.length c] 25)).alloc (.cells #[.int .i64 0, .int .i64 0, .slice none 0 0] 25)) := bl_alloc (bl_alloc (Below.refl _ _) _) _
  have e0 := (Blk.new w #[.int .i64 t.k, .int .i64 t.h, .slice A t.a.length c] 25).mov (bl_alloc (Below.refl _ _) (.cells #[.int .i64 0, .int .i64 0, .slice none 0 0] 25))
  have e1 := Blk.new (w.alloc (.cells #[.int .i64 t.k, .int .i64 t.h, .slice A t.a.length c] 25)) #[.int .i64 0, .int .i64 0, .slice none 0 0] 25
  simp only [World.size_alloc] at e1
  have HB0 := Lib.hid hb0
  have E0 := Lib.hid e0
  have E1 := Lib.hid e1
  clear hb0 e0 e1
  have HM := Lib.hid (fun (W : World) (hb : Below w.heap.size w W) => MayR_calls t A c W ((hr.less (fun _ q => q.elim)).mov hb) hc)
  have HN := Lib.hid (fun (W : World) (hb : Below w.heap.size w W) => may6_calls xs A2 c2 n W (hr2.mov hb))
  have HR : Hid (mayV xs n = true → ∀ (W : World) (_ : Below w.heap.size w W) (S2 : Nat → Prop) (_ : ∀ k, S2 k → k < W.heap.size) (_ : Reads S2 W A t.a), Calls Tryz.prog 134 #[.agg #[.int .i64 t.k, .int .i64 t.h, .slice A t.a.length c], .slice A2 xs.length c2, .int .i64 n, .int .i64 0] W (RetT S2 (renW (rnV xs n) t 0) W)) :=
    fun hmv (W : World) (hb : Below w.heap.size w W) S2 h2 h3 => invert6_calls xs A2 c2 n (mayV_prop hmv) hc2 t S2 A c 0 W h2 (hr2.mov hb) h3 hc (by unfold inI; omega)
  have hv : invV t xs n = (if (mayB t && mayV xs n) = true then match renW (rnV xs n) t 0 with
    | some u => (some u, 0)
    | none => (none, 7)
  else (none, 1) : Option Tm × Int) := rfl
  generalize invV t xs n = iv at *
  generalize mayB t = m1 at *
  generalize mayV xs n = m2 at *
  generalize renW (rnV xs n) t 0 = rv at *
  have hcase : ((m1 && m2) = false) ∨ (m1 = true ∧ m2 = true) := by cases m1 <;> cases m2 <;> simp
  rcases hcase with hf | ⟨rfl, rfl⟩
  · have HV := Lib.hid hv
    have HF := Lib.hid hf
    clear hv hf
    go_enter Tryz.func120, Tryz.ntmps120
    cases m1
    · go_wp2_with (first
        | (go_at_call 76; refine (HM.out _ HB0.out).mono ?_; clear HM; rintro e w0 ⟨rfl, hb0⟩)
        | (go_at_call 133; refine (HN.out _ (bl_then HB0.out hb0)).mono ?_; clear HN; rintro e w1 ⟨rfl, hb1⟩; have hb := bl_then hb0 hb1; have z := E1.out.mov hb; have z0 := z.cell 0; have z1 := z.cell 1; have z2 := z.cell 2; have y0 := z.frozen 0; have y1 := z.frozen 1; have y2 := z.frozen 2; have HZ := Lib.hid z; clear z))
      refine bodyPost_ret (res_tm rfl _ _ _ _ _ _ rfl (HZ.out.set3 (.int .i64 0) (.int .i64 0) (.slice none 0 0))) rfl ⟨bl_set3 (bl_then HB0.out hb) (Nat.le_succ _), .inl ?_⟩
      rw [HV.out]
      exact ⟨rfl, rfl⟩
    · have hm2 : m2 = false := by have := HF.out; simpa using this
      subst hm2
      go_wp2_with (first
        | (go_at_call 76; refine (HM.out _ HB0.out).mono ?_; clear HM; rintro e w0 ⟨rfl, hb0⟩)
        | (go_at_call 133; refine (HN.out _ (bl_then HB0.out hb0)).mono ?_; clear HN; rintro e w1 ⟨rfl, hb1⟩; have hb := bl_then hb0 hb1; have z := E1.out.mov hb; have z0 := z.cell 0; have z1 := z.cell 1; have z2 := z.cell 2; have y0 := z.frozen 0; have y1 := z.frozen 1; have y2 := z.frozen 2; have HZ := Lib.hid z; clear z))
      refine bodyPost_ret (res_tm rfl _ _ _ _ _ _ rfl (HZ.out.set3 (.int .i64 0) (.int .i64 0) (.slice none 0 0))) rfl ⟨bl_set3 (bl_then HB0.out hb) (Nat.le_succ _), .inl ?_⟩
      rw [HV.out]
      exact ⟨rfl, rfl⟩
  · have HV := Lib.hid hv
    clear hv
    have HS := Lib.hid hS
    clear hS
    go_enter Tryz.func120, Tryz.ntmps120
    go_wp2_with (first
      | (go_at_call 76; refine (HM.out _ HB0.out).mono ?_; clear HM; rintro e w0 ⟨rfl, hb0⟩)
      | (go_at_call 133; refine (HN.out _ (bl_then HB0.out hb0)).mono ?_; clear HN; rintro e w1 ⟨rfl, hb1⟩; have hb := bl_then hb0 hb1; have p := E0.out.mov hb; have p0 := p.cell 0; have p1 := p.cell 1; have p2 := p.cell 2; clear p)
      | (go_at_call 134; refine (HR.out trivial _ (bl_then HB0.out hb) (fun k => S k ∨ (w.heap.size ≤ k ∧ k ≤ w.heap.size + 1)) ?h1 ?h2).mono ?_
         case h1 => exact fun k q => by (rcases q with q | q; (have := HS.out k q; have := HB0.out.size; have := hb.size; omega); (have := E1.out.lt; have := hb.size; omega))
         case h2 => exact (hr.step (fun k hk hn q => by (rcases q with q | q; exact hn q; omega)) (fun k hk _ => (bl_then HB0.out hb).block k hk))
         clear HR
         rintro e w3 ⟨hb3, hor⟩
         have hw := bl_then (bl_then HB0.out hb) hb3
         have z := E1.out.mov (bl_then hb hb3)
         have z0 := z.cell 0
         have z1 := z.cell 1
         have z2 := z.cell 2
         have y0 := z.frozen 0
         have y1 := z.frozen 1
         have y2 := z.frozen 2
         have zl := z.lt
         have HZ := Lib.hid z
         clear z
         rcases hor with (⟨rfl, rfl⟩ | ⟨u, B3, c3, rfl, rfl, hc3, hr3⟩)))
    · refine bodyPost_ret (res_tm rfl _ _ _ _ _ _ rfl ((HZ.out.set3 (.int .i64 0) (.int .i64 0) (.slice none 0 0)).mov (bl_alloc (Below.refl _ _) _))) rfl ⟨bl_alloc (bl_set3 hw (Nat.le_succ _)) _, .inl ?_⟩
      rw [HV.out]
      exact ⟨rfl, rfl⟩
    · refine bodyPost_ret (res_tm rfl _ _ _ _ _ _ rfl ((HZ.out.set3 (.int .i64 u.k) (.int .i64 u.h) (.slice B3 u.a.length c3)).mov (bl_alloc (Below.refl _ _) _))) rfl ⟨bl_alloc (bl_set3 hw (Nat.le_succ _)) _, .inr ⟨u, B3, c3, ?_, ?_, hc3, ?_⟩⟩
      · rw [HV.out]
        rfl
      · rw [HV.out]
        rfl
      · exact ((hr3.set3 (.inr ⟨Nat.le_succ _, by omega⟩)).mov (bl_alloc (Below.refl _ _) _)).less (fun k q => .inl q)
end Go.Proofs.YtbmmdfehhhgkcaaGreat
