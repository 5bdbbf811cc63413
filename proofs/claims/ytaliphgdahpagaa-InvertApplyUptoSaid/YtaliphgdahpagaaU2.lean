/- The contract of subst.of. -/
import Derived.Test.YtaliphgdahpagaaU1
namespace Go.Proofs.Ytaliphgdahpagaa
open Go.RowKit Go.Shelf
set_option linter.unusedVariables false
set_option linter.unusedSimpArgs false

theorem ofS_in {ts : List Tm} {s i : Int} (h0 : 0 ≤ i) (h : i < (ts.length : Int)) : ofS ⟨ts, s⟩ i = ts[(ts.length - 1 - i.toNat)]'(by omega) := by
  unfold ofS
  dsimp only
  have e : ((ts.length : Int) - 1 - i).toNat = ts.length - 1 - i.toNat := by omega
  rw [if_pos h, e, List.getElem?_eq_getElem (by omega)]
  rfl
theorem ofS_out {ts : List Tm} {s i : Int} (h : ¬ i < (ts.length : Int)) : ofS ⟨ts, s⟩ i = ⟨4, wrap64 (wrap64 (i - (ts.length : Int)) + s), []⟩ := by
  unfold ofS
  dsimp only
  rw [if_neg h]

set_option maxHeartbeats 4000000 in
theorem of_calls (S : Nat → Prop) (ts : List Tm) (s : Int) (A : Option Addr) (c : Nat) (i : Int) (w : World) (hS : ∀ k, S k → k < w.heap.size) (hr : Reads (fun _ => False) w A ts) (hc : ts.length ≤ c) (h0 : 0 ≤ i) :
    Calls Try.prog 52 #[.agg #[.slice A ts.length c, .int .i64 s], .int .i64 i] w (RetU S (ofS ⟨ts, s⟩ i) w) := by
  have hlen := hr.len
  unfold lim at hlen
  have hb0 : Below w.heap.size w ((w.alloc (.cells #[.slice A ts.length c, .int .i64 s] 40)).alloc (.cells #[.int .i64 0, .int .i64 0, .slice none 0 0] 24)) := bl_alloc (bl_alloc (Below.refl _ _) _) _
  have e0 := (Blk.new w #[.slice A ts.length c, .int .i64 s] 40).mov (bl_alloc (Below.refl _ _) (.cells #[.int .i64 0, .int .i64 0, .slice none 0 0] 24))
  have e1 := Blk.new (w.alloc (.cells #[.slice A ts.length c, .int .i64 s] 40)) #[.int .i64 0, .int .i64 0, .slice none 0 0] 24
  simp only [World.size_alloc] at e1
  have HB0 := Lib.hid hb0
  have E1 := Lib.hid e1
  have HS := Lib.hid hS
  by_cases hlt : i < (ts.length : Int)
  · rw [ofS_in h0 hlt]
    have hlq : (ts.length - 1 - i.toNat) < ts.length := by omega
    obtain ⟨j, hj⟩ : ∃ j, ts.length - 1 - i.toNat = j := ⟨_, rfl⟩
    have hji : (ts.length : Int) - 1 - i = (j : Int) := by omega
    have hw1 : IntKind.i64.wrap ((ts.length : Int) - 1) = (ts.length : Int) - 1 := IntWalk.i64_in _ (by omega)
    have hw2 : IntKind.i64.wrap ((ts.length : Int) - 1 - i) = (j : Int) := by rw [hji]; exact IntWalk.i64_in _ (by omega)
    have hjl : j < ts.length := by omega
    have hjl2 : (j : Int) < (ts.length : Int) := by omega
    have hj0 : (0 : Int) ≤ (j : Int) := by omega
    simp only [hj]
    obtain ⟨ad, B, d, rfl, -, c0, c1, c2, hd, hsub⟩ := (hr.mov hb0).at hjl
    have HO : Hid (∀ (W : World) (_ : Below w.heap.size w W) (S2 : Nat → Prop) (_ : ∀ k, S2 k → k < W.heap.size) (_ : Reads (fun _ => False) W B ts[j].a), Calls Try.prog 58 #[.agg #[.int .i64 ts[j].k, .int .i64 ts[j].h, .slice B ts[j].a.length d]] W (RetU S2 ts[j] W)) :=
      fun W hb S2 h2 h3 => Own_calls ts[j] S2 B d W h2 h3 hd
    have HSUB := Lib.hid hsub
    generalize ts[j] = tj at *
    clear hb0 e0 e1 hS hji hj hsub hd
    go_enter Try.func52, Try.ntmps52
    go_wp2_with (go_at_call 58
                 refine (HO.out _ HB0.out (fun k => S k ∨ (w.heap.size ≤ k ∧ k ≤ w.heap.size + 1)) ?h1 HSUB.out).mono ?_
                 case h1 => exact fun k q => by (rcases q with q | q; (have := HS.out k q; have := HB0.out.size; omega); (have := E1.out.lt; omega))
                 clear HO
                 rintro e w3 ⟨hb3, B3, c3, rfl, hc3, hr3⟩
                 have z := E1.out.mov hb3
                 have z0 := z.cell 0
                 have z1 := z.cell 1
                 have z2 := z.cell 2
                 have y0 := z.frozen 0
                 have y1 := z.frozen 1
                 have y2 := z.frozen 2
                 have HZ := Lib.hid z
                 clear z)
    exact bodyPost_ret (res_tm1 rfl _ _ _ _ _ _ rfl (HZ.out.set3 _ _ _)) rfl ⟨bl_set3 (bl_then HB0.out hb3) (Nat.le_succ _), B3, c3, rfl, hc3, (hr3.set3 (.inr ⟨Nat.le_succ _, by omega⟩)).less (fun k q => .inl q)⟩
  · rw [ofS_out hlt]
    have hw1 : IntKind.i64.wrap (i - (ts.length : Int)) = wrap64 (i - (ts.length : Int)) := IntWalk.i64_left _
    have hw2 : IntKind.i64.wrap (wrap64 (i - (ts.length : Int)) + s) = wrap64 (wrap64 (i - (ts.length : Int)) + s) := IntWalk.i64_left _
    obtain ⟨z, hz⟩ : ∃ z, wrap64 (wrap64 (i - (ts.length : Int)) + s) = z := ⟨_, rfl⟩
    have HHZ := Lib.hid hz
    clear e0 e1 hS hb0
    go_enter Try.func52, Try.ntmps52
    go_wp2_with fail
    have e4 := Blk.new (w.alloc (.cells #[.slice A ts.length c, .int .i64 s] 40)) #[.int .i64 4, .int .i64 z, .slice none 0 0] 24
    simp only [World.size_alloc] at e4
    exact bodyPost_ret (res_tm1 rfl _ _ _ _ _ _ rfl e4) rfl ⟨bl_alloc (bl_alloc (Below.refl _ _) _) _, none, 0, rfl, Nat.le_refl _, .nil _⟩
end Go.Proofs.Ytaliphgdahpagaa
