/- The law InvertApply. -/
import Derived.Test.YtaliphgdahpagaaPJ
import Derived.Test.YtaliphgdahpagaaI6
import Derived.Test.YtaliphgdahpagaaRU
namespace Go.Proofs.Ytaliphgdahpagaa
open Go.RowKit Go.Shelf
set_option linter.unusedVariables false
set_option linter.unusedSimpArgs false

set_option maxHeartbeats 16000000 in
theorem InvertApply_row (w : World) (t : Tm) (A : Option Addr) (c : Nat) (hr : Reads (fun _ => False) w A t.a) (hc : t.a.length ≤ c) (g : okT t) (xs : List Int) (A2 : Option Addr) (c2 : Nat) (hr2 : RdI (fun _ => False) w A2 xs) (hc2 : xs.length ≤ c2) (_ : ∀ x ∈ xs, -9223372036854775808 ≤ x ∧ x ≤ 9223372036854775807)
    (n : Int) (_ : -9223372036854775808 ≤ n ∧ n ≤ 9223372036854775807) (hcn : cnt t ≤ 1048576) :
    Calls Try.prog 6 #[.agg #[.int .i64 t.k, .int .i64 t.h, .slice A t.a.length c], .slice A2 xs.length c2, .int .i64 n] w fun e w' => e = .returned (.bool true) ∧ Below w.heap.size w w' := by
  have hb0 : Below w.heap.size w (w.alloc (.cells #[.int .i64 t.k, .int .i64 t.h, .slice A t.a.length c] 24)) := bl_alloc (Below.refl _ _) _
  have e0 := Blk.new w #[.int .i64 t.k, .int .i64 t.h, .slice A t.a.length c] 24
  have HB0 := Lib.hid hb0
  have E0 := Lib.hid e0
  have hxl := hr2.1
  unfold limI at hxl
  have HL := Lib.hid (fun (W : World) (hb : Below w.heap.size w W) => Light_calls t A c 1000 60 W (hr.mov hb) hc)
  have HM := Lib.hid (fun (W : World) (hb : Below w.heap.size w W) => May_calls t A c W (hr.mov hb) hc)
  have HI := Lib.hid (fun (W : World) (hb : Below w.heap.size w W) => Invert_calls (fun _ => False) t A c xs A2 c2 n W (fun _ q => q.elim) (hr.mov hb) hc (hr2.mov hb) hc2)
  have HMO := Lib.hid (fun (S : Nat → Prop) (W : World) (hS : ∀ k, S k → k < W.heap.size) (hb : Below w.heap.size w W) (h : xs.length ≤ 1048576) => metaOf_calls S xs A2 c2 W hS (hr2.mov hb) h)
  have HR := Lib.hid (fun (W : World) (hb : Below w.heap.size w W) => hr.mov hb)
  have HP : Hid (lightB t 1000 60 = true → mayB t = true → xs.length ≤ 20 → ∀ u, invV t xs n = (some u, 0) → (mayB u && maySu ⟨varsT xs, n⟩) = true ∧ Fit (.app 0 u ⟨varsT xs, n⟩) ∧ Ev (.app 0 u ⟨varsT xs, n⟩) (.one t (0 + cnt t))) := fun h1 h2 h3 u h4 => apply_pure hcn h1 h2 h3 h4
  have HIE : Hid ((∃ u, invV t xs n = (some u, 0)) ∨ ∃ e, invV t xs n = (none, e) ∧ e ≠ 0) := inv_err
  obtain ⟨mt, hmt⟩ : ∃ b, mayB t = b := ⟨_, rfl⟩
  have HMT := Lib.hid hmt
  rw [hmt] at HM
  obtain ⟨lb, hlb⟩ : ∃ b, lightB t 1000 60 = b := ⟨_, rfl⟩
  rw [hlb] at HL
  rw [hlb, hmt] at HP
  clear hb0 e0 hr hmt hlb hr2 g
  go_enter Try.func6, Try.ntmps6
  go_upto_region 5 with (first
    | (go_at_call 7; refine (awake_calls _).mono ?_; rintro e w1 ⟨rfl, hb1⟩; have p := E0.out.mov hb1; have p0 := p.cell 0; have p1 := p.cell 1; have p2 := p.cell 2; clear p)
    | (go_at_call 8; refine (HL.out _ (bl_then HB0.out hb1)).mono ?_; clear HL; rintro e w2 ⟨rfl, hb2⟩; have hb := bl_then hb1 hb2; have q := E0.out.mov hb; have q0 := q.cell 0; have q1 := q.cell 1; have q2 := q.cell 2; clear q p0 p1 p2)
    | (go_at_call 12; refine (HM.out _ (bl_then HB0.out hb)).mono ?_; clear HM; rintro e w3 ⟨rfl, hb3⟩; have hw3 := bl_then hb hb3; have q := E0.out.mov hw3; have q0 := q.cell 0; have q1 := q.cell 1; have q2 := q.cell 2; clear q))
  all_goals first
    | (go_ret; first | exact ⟨rfl, bl_then HB0.out hw3⟩ | exact ⟨rfl, bl_then HB0.out hb⟩)
    | skip
  have hmb : mt = true := by assumption
  have hlb : lb = true := by assumption
  have hx : xs.length ≤ 20 := by omega
  subst hmb
  subst hlb
  have hwm := bl_then HB0.out hw3
  rcases HIE.out with ⟨u, hu⟩ | ⟨er, he1, he2⟩
  · obtain ⟨hp1, hp2, hp3⟩ := HP.out rfl rfl hx u hu
    have HP1 := Lib.hid hp1
    have HP2 := Lib.hid hp2
    have HP3 := Lib.hid hp3
    have HJ := Lib.hid (HI.out _ hwm)
    rw [hu] at HJ
    clear hp1 hp2 hp3 hu HI HIE HP
    have hl6 : xs.length ≤ 1048576 := by omega
    have hfd : ∀ (A : Option Addr) (n c : Nat) (x y : Int) (w : World), (Instr.field 24 (.agg #[.int .i64 x, .int .i64 y, .slice A n c]) 2).run Try.prog w = .ok (.slice A n c) w := fun _ _ _ _ _ _ => by kernel_rfl
    go_upto_region 8 with (go_at_call 9; refine HJ.out.mono ?_; clear HJ; rintro e w4 ⟨hb4, (⟨hn, _⟩ | ⟨u', B4, c4, hs, rfl, hc4, hr4⟩)⟩; (exact absurd hn (by simp)); (obtain rfl := Option.some.inj hs); clear hs; have hw4 := bl_then hwm hb4; have q := (E0.out.mov hw3).mov hb4; have q0 := q.cell 0; have q1 := q.cell 1; have q2 := q.cell 2; have ql := q.lt; have HQ := Lib.hid q; clear q)
    have HC : Hid (∀ W, Below (w4.alloc (.cells #[.int .i64 u.k, .int .i64 u.h, .slice B4 u.a.length c4] 24)).heap.size (w4.alloc (.cells #[.int .i64 u.k, .int .i64 u.h, .slice B4 u.a.length c4] 24)) W → (Below w.heap.size w W ∧ W.cell? ⟨w4.heap.size, 0, none⟩ = some (.int .i64 u.k) ∧ W.cell? ⟨w4.heap.size, 1, none⟩ = some (.int .i64 u.h) ∧ W.cell? ⟨w4.heap.size, 2, none⟩ = some (.slice B4 u.a.length c4))) := fun W hb => by
      have q := (Blk.new w4 #[.int .i64 u.k, .int .i64 u.h, .slice B4 u.a.length c4] 24).mov hb
      exact ⟨bl_then (bl_alloc hw4 _) hb, q.cell 0, q.cell 1, q.cell 2⟩
    have HX4 := Lib.hid (bl_alloc hw4 (.cells #[.int .i64 u.k, .int .i64 u.h, .slice B4 u.a.length c4] 24))
    have HR4 := Lib.hid hr4
    have HQ4 := Lib.hid (HQ.out.al (.cells #[.int .i64 u.k, .int .i64 u.h, .slice B4 u.a.length c4] 24))
    clear q0 q1 q2 ql hr4
    go_region_held2 (fun W => (Below w.heap.size w W ∧ W.cell? ⟨w4.heap.size, 0, none⟩ = some (.int .i64 u.k) ∧ W.cell? ⟨w4.heap.size, 1, none⟩ = some (.int .i64 u.h) ∧ W.cell? ⟨w4.heap.size, 2, none⟩ = some (.slice B4 u.a.length c4)))
      ((first | exact HC.out _ (bl_set3 hx6 hge) | exact HC.out _ (bl_set3 hx6 (by simp)) | exact HC.out _ hx6 | exact HC.out _ (bl_alloc hx6 _) | exact HC.out _ (bl_set3 (bl_alloc hx6 _) hx6.size) | exact HC.out _ hx5 | exact HC.out _ (bl_alloc hx5 _) | exact HC.out _ (Below.refl _ _).drew | exact HC.out _ (Below.refl _ _) | exact HC.out _ (bl_alloc (Below.refl _ _) _).drew | exact HC.out _ (bl_alloc (Below.refl _ _) _)))
      (first
        | (go_at_call 16; refine (HMO.out (fun _ => False) (w4.alloc (.cells #[.int .i64 u.k, .int .i64 u.h, .slice B4 u.a.length c4] 24)).drew (fun _ q => q.elim) HX4.out.drew hl6).mono ?_; rintro e w5 ⟨hb5, B5, c5, rfl, hc5, hr5a⟩; have hx5 := bl_undrew hb5)
        | (go_at_call 16; refine (HMO.out (fun k => k = w4.heap.size + 1) ((w4.alloc (.cells #[.int .i64 u.k, .int .i64 u.h, .slice B4 u.a.length c4] 24)).alloc (.cells #[.int .i64 0, .int .i64 0, .slice none 0 0] 24)).drew (fun k q => by rw [q]; simp) (bl_alloc HX4.out (.cells #[.int .i64 0, .int .i64 0, .slice none 0 0] 24)).drew hl6).mono ?_; rintro e w5 ⟨hb5, B5, c5, rfl, hc5, hr5b⟩; have hx5 := bl_then (bl_alloc (Below.refl _ (w4.alloc (.cells #[.int .i64 u.k, .int .i64 u.h, .slice B4 u.a.length c4] 24))) (.cells #[.int .i64 0, .int .i64 0, .slice none 0 0] 24)) (bl_undrew hb5); have hz5 := (Blk.nw (w4.alloc (.cells #[.int .i64 u.k, .int .i64 u.h, .slice B4 u.a.length c4] 24)) #[.int .i64 0, .int .i64 0, .slice none 0 0] 24 (w4.heap.size + 1) (by simp)).mov (bl_undrew hb5))
        | (go_at_call 15; refine (Apply_calls (fun _ => False) u ⟨varsT xs, n⟩ B4 c4 B5 c5 (w5) (fun _ q => q.elim) ((HR4.out.mov (bl_alloc (Below.refl _ _) _)).mov hx5) hc4 (hr5a) hc5 (fun _ => HP2.out)).mono ?_
           rintro e w6 ⟨hb6, hcs⟩
           have hx6 := bl_then hx5 hb6
           rcases hcs with ⟨hf, _⟩ | ⟨_, _, (⟨v, m, B6, d6, hev, hmv, rfl, hd6, hr6⟩ | ⟨xe, rfl, hev⟩)⟩
           · have := HP1.out; rw [this] at hf; cases hf
           rotate_left
           · exfalso
             rcases hev with hev | ⟨_, v, m, hev, hmv⟩
             · have := HP3.out.one_only hev; cases this
             · have h1 := HP3.out.one_only hev
               cases h1
               rw [HMT.out] at hmv
               cases hmv
           have hvt := HP3.out.one_only hev
           cases hvt
           have q := HQ4.out.mov hx6
           have q0 := q.cell 0
           have q1 := q.cell 1
           have q2 := q.cell 2
           have ql := q.lt
           have HQ6 := Lib.hid q
           have hx6w := bl_then HX4.out hx6
           clear q)
        | (go_at_call 15; refine (Apply_calls (fun k => k = w5.heap.size) u ⟨varsT xs, n⟩ B4 c4 B5 c5 (w5.alloc (.cells #[.int .i64 0, .int .i64 0, .slice none 0 0] 24)) (fun k q => by rw [q]; simp) (HR4.out.step (fun k hk _ q => by have h1 := hx5.size; simp only [World.size_alloc] at h1; omega) (fun k hk _ => (bl_then (bl_alloc (Below.refl _ _) _) (bl_alloc hx5 (.cells #[.int .i64 0, .int .i64 0, .slice none 0 0] 24))).block k hk)) hc4 (hr5a.step (fun k hk _ q => by omega) (fun k hk _ => (bl_alloc (Below.refl w5.heap.size w5) (.cells #[.int .i64 0, .int .i64 0, .slice none 0 0] 24)).block k hk)) hc5 (fun _ => HP2.out)).mono ?_
           rintro e w6 ⟨hb6, hcs⟩
           have hx6 := bl_then (bl_alloc hx5 (.cells #[.int .i64 0, .int .i64 0, .slice none 0 0] 24)) hb6; have zd := (Blk.new w5 #[.int .i64 0, .int .i64 0, .slice none 0 0] 24).mov hb6; have d0 := zd.cell 0; have d1 := zd.cell 1; have d2 := zd.cell 2; have g0 := zd.frozen 0; have g1 := zd.frozen 1; have g2 := zd.frozen 2; have hge := hx5.size; have HZD := Lib.hid zd; clear zd
           rcases hcs with ⟨hf, _⟩ | ⟨_, _, (⟨v, m, B6, d6, hev, hmv, rfl, hd6, hr6⟩ | ⟨xe, rfl, hev⟩)⟩
           · have := HP1.out; rw [this] at hf; cases hf
           rotate_left
           · exfalso
             rcases hev with hev | ⟨_, v, m, hev, hmv⟩
             · have := HP3.out.one_only hev; cases this
             · have h1 := HP3.out.one_only hev
               cases h1
               rw [HMT.out] at hmv
               cases hmv
           have hvt := HP3.out.one_only hev
           cases hvt
           have q := HQ4.out.mov hx6
           have q0 := q.cell 0
           have q1 := q.cell 1
           have q2 := q.cell 2
           have ql := q.lt
           have HQ6 := Lib.hid q
           have hx6w := bl_then HX4.out hx6
           clear q)
        | (go_at_call 15; refine (Apply_calls (fun k => k = w4.heap.size + 1) u ⟨varsT xs, n⟩ B4 c4 B5 c5 (w5) (fun k q => by have h1 := hz5.lt; omega) (HR4.out.step (fun k hk _ q => by omega) (fun k hk _ => (bl_then (bl_alloc (Below.refl _ _) _) hx5).block k hk)) hc4 (hr5b) hc5 (fun _ => HP2.out)).mono ?_
           rintro e w6 ⟨hb6, hcs⟩
           have hx6 := bl_then hx5 hb6; have zd := hz5.mov hb6; have d0 := zd.cell 0; have d1 := zd.cell 1; have d2 := zd.cell 2; have g0 := zd.frozen 0; have g1 := zd.frozen 1; have g2 := zd.frozen 2; have HZD := Lib.hid zd; clear zd
           rcases hcs with ⟨hf, _⟩ | ⟨_, _, (⟨v, m, B6, d6, hev, hmv, rfl, hd6, hr6⟩ | ⟨xe, rfl, hev⟩)⟩
           · have := HP1.out; rw [this] at hf; cases hf
           rotate_left
           · exfalso
             rcases hev with hev | ⟨_, v, m, hev, hmv⟩
             · have := HP3.out.one_only hev; cases this
             · have h1 := HP3.out.one_only hev
               cases h1
               rw [HMT.out] at hmv
               cases hmv
           have hvt := HP3.out.one_only hev
           cases hvt
           have q := HQ4.out.mov hx6
           have q0 := q.cell 0
           have q1 := q.cell 1
           have q2 := q.cell 2
           have ql := q.lt
           have HQ6 := Lib.hid q
           have hx6w := bl_then HX4.out hx6
           clear q))
    · have HBF := Lib.hid hx6w
      go_wp2_with (go_at_call 13; refine (Same_calls t t B6 d6 A c _ (hr6.mov (bl_alloc (Below.refl _ _) _)) hd6 (HR.out _ (bl_alloc HBF.out _)) hc).mono ?_; rintro e w7 ⟨rfl, hb7⟩; rw [sameB_refl])
      go_ret
      exact ⟨rfl, bl_then (bl_alloc HBF.out _) hb7⟩
    · have hne : w.heap.size ≠ w5.heap.size := by have h1 := hw4.size; have h2 := hx5.size; simp only [World.size_alloc] at h2; omega
      have r := far3 HQ6.out hne (.int .i64 t.k) (.int .i64 t.h) (.slice B6 t.a.length d6)
      have r0 := r.cell 0
      have r1 := r.cell 1
      have r2 := r.cell 2
      have z := HZD.out.set3 (.int .i64 t.k) (.int .i64 t.h) (.slice B6 t.a.length d6)
      have z0 := z.cell 0
      have z1 := z.cell 1
      have z2 := z.cell 2
      have hbf := bl_set3 hx6w (g := w5.heap.size) (x := .int .i64 t.k) (y := .int .i64 t.h) (z := .slice B6 t.a.length d6) (by have h1 := hw4.size; have h2 := hx5.size; simp only [World.size_alloc] at h2; omega)
      have hrf := (hr6.set3 (g := w5.heap.size) (x := .int .i64 t.k) (y := .int .i64 t.h) (z := .slice B6 t.a.length d6) rfl).less (S' := fun _ => False) (fun _ q => q.elim)
      have HRF := Lib.hid hrf
      have HBF := Lib.hid hbf
      clear r z q0 q1 q2 d0 d1 d2 g0 g1 g2 hrf hbf
      go_wp2_with (go_at_call 13; refine (Same_calls t t B6 d6 A c _ HRF.out hd6 (HR.out _ HBF.out) hc).mono ?_; rintro e w7 ⟨rfl, hb7⟩; rw [sameB_refl])
      go_ret
      exact ⟨rfl, bl_then HBF.out hb7⟩
    · have hne : w.heap.size ≠ w4.heap.size + 1 := by have h1 := hw4.size; have h2 := hx5.size; simp only [World.size_alloc] at h2; omega
      have r := far3 HQ6.out hne (.int .i64 t.k) (.int .i64 t.h) (.slice B6 t.a.length d6)
      have r0 := r.cell 0
      have r1 := r.cell 1
      have r2 := r.cell 2
      have z := HZD.out.set3 (.int .i64 t.k) (.int .i64 t.h) (.slice B6 t.a.length d6)
      have z0 := z.cell 0
      have z1 := z.cell 1
      have z2 := z.cell 2
      have hbf := bl_set3 hx6w (g := w4.heap.size + 1) (x := .int .i64 t.k) (y := .int .i64 t.h) (z := .slice B6 t.a.length d6) (by have h1 := hw4.size; have h2 := hx5.size; simp only [World.size_alloc] at h2; omega)
      have hrf := (hr6.set3 (g := w4.heap.size + 1) (x := .int .i64 t.k) (y := .int .i64 t.h) (z := .slice B6 t.a.length d6) rfl).less (S' := fun _ => False) (fun _ q => q.elim)
      have HRF := Lib.hid hrf
      have HBF := Lib.hid hbf
      clear r z q0 q1 q2 d0 d1 d2 g0 g1 g2 hrf hbf
      go_wp2_with (go_at_call 13; refine (Same_calls t t B6 d6 A c _ HRF.out hd6 (HR.out _ HBF.out) hc).mono ?_; rintro e w7 ⟨rfl, hb7⟩; rw [sameB_refl])
      go_ret
      exact ⟨rfl, bl_then HBF.out hb7⟩
  · have HJ := Lib.hid (HI.out _ hwm)
    rw [he1] at HJ
    have he3 : (er != 0) = true := by simpa using he2
    clear HI HIE HP he1
    go_wp2_with (go_at_call 9; refine HJ.out.mono ?_; clear HJ; rintro e w4 ⟨hb4, (⟨_, rfl⟩ | ⟨u', B4, c4, hs, _⟩)⟩; rotate_left; (exact absurd hs (by simp)))
    go_ret
    exact ⟨rfl, bl_alloc (bl_then hwm hb4) _⟩
end Go.Proofs.Ytaliphgdahpagaa
