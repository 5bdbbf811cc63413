/- The chapter's examples of invert, and the law InvertTells. -/
import Derived.Test.YtaliphgdahpagaaI5
namespace Go.Proofs.Ytaliphgdahpagaa
open Go.RowKit Go.Shelf

theorem inv_ex1 : invV ⟨4, 2, []⟩ [2, 0] 3 = (some ⟨4, 1, []⟩, 0) := by
  have h1 : mayB ⟨4, 2, []⟩ = true := by decide +kernel
  have h2 : mayV [2, 0] 3 = true := mayV_true ⟨by omega, by omega, fun i hi => by
    have : i = 0 ∨ i = 1 := by simp at hi; omega
    rcases this with rfl | rfl <;> simp⟩
  have h3 : renW (rnV [2, 0] 3) ⟨4, 2, []⟩ 0 = some ⟨4, 1, []⟩ := by kernel_rfl
  rw [invV, h1, h2, h3]
  rfl
theorem inv_ex2 : invV ⟨4, 3, []⟩ [2, 0] 3 = (some ⟨4, 2, []⟩, 0) := by
  have h1 : mayB ⟨4, 3, []⟩ = true := by decide +kernel
  have h2 : mayV [2, 0] 3 = true := mayV_true ⟨by omega, by omega, fun i hi => by
    have : i = 0 ∨ i = 1 := by simp at hi; omega
    rcases this with rfl | rfl <;> simp⟩
  have h3 : renW (rnV [2, 0] 3) ⟨4, 3, []⟩ 0 = some ⟨4, 2, []⟩ := by kernel_rfl
  rw [invV, h1, h2, h3]
  rfl
theorem inv_ex3 : invV ⟨4, 1, []⟩ [2, 0] 3 = (none, 7) := by
  have h1 : mayB ⟨4, 1, []⟩ = true := by decide +kernel
  have h2 : mayV [2, 0] 3 = true := mayV_true ⟨by omega, by omega, fun i hi => by
    have : i = 0 ∨ i = 1 := by simp at hi; omega
    rcases this with rfl | rfl <;> simp⟩
  have h3 : renW (rnV [2, 0] 3) ⟨4, 1, []⟩ 0 = none := by kernel_rfl
  rw [invV, h1, h2, h3]
  rfl

set_option maxHeartbeats 4000000 in
theorem awake_calls (w : World) : Calls Try.prog 7 #[] w fun e w' => e = .returned (.bool true) ∧ Below w.heap.size w w' := by
  have hb0 : Below w.heap.size w (w.alloc (.cells #[.int .i64 2, .int .i64 0] 3)) := bl_alloc (Below.refl _ _) _
  have e0 := Blk.new w #[.int .i64 2, .int .i64 0] 3
  have HX : Hid (∀ W, Below (w.alloc (.cells #[.int .i64 2, .int .i64 0] 3)).heap.size (w.alloc (.cells #[.int .i64 2, .int .i64 0] 3)) W → RdI (fun _ => False) W (some ⟨w.heap.size, 0, none⟩) [2, 0]) := Lib.hid fun W hb => by
    have z := e0.mov hb
    refine ⟨by simp [limI], fun i hi => ⟨_, rfl, fun q => q, ?_⟩⟩
    have : i = 0 ∨ i = 1 := by simp at hi; omega
    rcases this with rfl | rfl
    · exact z.cell 0
    · exact z.cell 1
  have H1 := Lib.hid (fun W hb => Invert_calls (fun _ => False) ⟨4, 2, []⟩ none 0 [2, 0] (some ⟨w.heap.size, 0, none⟩) 2 3 W (fun _ q => q.elim) (.nil _) (Nat.le_refl _) (HX.out W hb) (Nat.le_refl _))
  have H2 := Lib.hid (fun W hb => Invert_calls (fun _ => False) ⟨4, 3, []⟩ none 0 [2, 0] (some ⟨w.heap.size, 0, none⟩) 2 3 W (fun _ q => q.elim) (.nil _) (Nat.le_refl _) (HX.out W hb) (Nat.le_refl _))
  have H3 := Lib.hid (fun W hb => Invert_calls (fun _ => False) ⟨4, 1, []⟩ none 0 [2, 0] (some ⟨w.heap.size, 0, none⟩) 2 3 W (fun _ q => q.elim) (.nil _) (Nat.le_refl _) (HX.out W hb) (Nat.le_refl _))
  rw [inv_ex1] at H1
  rw [inv_ex2] at H2
  rw [inv_ex3] at H3
  have HB0 := Lib.hid hb0
  clear hb0 e0
  go_enter Try.func7, Try.ntmps7
  go_wp2_with (first
    | (go_at_call 9; refine (H1.out _ (Below.refl _ _)).mono ?_; clear H1; rintro e w1 ⟨hb1, (⟨hn, _⟩ | ⟨u1, B1, c1, hs1, rfl, hc1, hr1⟩)⟩; (exact absurd hn (by simp)); (obtain rfl := Option.some.inj hs1); clear hs1 hr1 hc1)
    | (go_at_call 9; refine (H2.out _ (bl_alloc hb1 _)).mono ?_; clear H2; rintro e w2 ⟨hb2, (⟨hn, _⟩ | ⟨u2, B2, c2, hs2, rfl, hc2, hr2⟩)⟩; (exact absurd hn (by simp)); (obtain rfl := Option.some.inj hs2); clear hs2 hr2 hc2; have HP := Lib.hid ((Blk.new w1 #[.int .i64 4, .int .i64 1, .slice B1 0 c1] 24).mov hb2))
    | (go_at_call 9; refine (H3.out _ (bl_alloc (bl_then (bl_alloc hb1 _) hb2) _)).mono ?_; clear H3; rintro e w3 ⟨hb3, (⟨_, rfl⟩ | ⟨u3, B3, c3, hs3, _, _, _⟩)⟩; rotate_left; (exact absurd hs3 (by simp)); have p := (HP.out.mov (bl_alloc (Below.refl _ _) _)).mov hb3; have q := (Blk.new w2 #[.int .i64 4, .int .i64 2, .slice B2 0 c2] 24).mov hb3; have p1 := p.cell 1; have q1 := q.cell 1; have pl := p.lt; have ql := q.lt; have hw := bl_then HB0.out (bl_then (bl_alloc (bl_then (bl_alloc hb1 (.cells #[.int .i64 4, .int .i64 1, .slice B1 0 c1] 24)) hb2) (.cells #[.int .i64 4, .int .i64 2, .slice B2 0 c2] 24)) hb3); clear p q))
  go_ret
  exact ⟨rfl, bl_alloc hw _⟩

/-- What comes back, in one form. -/
theorem RetE.u {S : Nat → Prop} {r : Option Tm × Int} {w w' : World} {e : Ending} (h : RetE S r w e w') :
    ∃ u B c, e = .returned (.tuple #[.agg #[.int .i64 u.k, .int .i64 u.h, .slice B u.a.length c], .int .i64 r.2]) ∧ u = r.1.getD ⟨0, 0, []⟩ ∧ u.a.length ≤ c ∧ Reads S w' B u.a ∧ Below w.heap.size w w' := by
  obtain ⟨hb, (⟨h1, h2⟩ | ⟨u, B, c, h1, h2, h3, h4⟩)⟩ := h
  · exact ⟨⟨0, 0, []⟩, none, 0, h2, by rw [h1]; rfl, Nat.le_refl _, .nil _, hb⟩
  · exact ⟨u, B, c, h2, by rw [h1]; rfl, h3, h4, hb⟩

mutual
theorem sameB_refl : ∀ t : Tm, sameB t t = true
  | ⟨k, h, a⟩ => by rw [sameB, sameL_refl a]; simp
theorem sameL_refl : ∀ l : List Tm, sameL l l = true
  | [] => by rw [sameL]
  | t :: l => by rw [sameL, sameB_refl t, sameL_refl l]; rfl
end

set_option maxHeartbeats 4000000 in
theorem InvertTells_calls (t : Tm) (A : Option Addr) (c : Nat) (xs : List Int) (A2 : Option Addr) (c2 : Nat) (n : Int) (w : World) (hr : Reads (fun _ => False) w A t.a) (hc : t.a.length ≤ c) (hr2 : RdI (fun _ => False) w A2 xs) (hc2 : xs.length ≤ c2) :
    Calls Try.prog 3 #[.agg #[.int .i64 t.k, .int .i64 t.h, .slice A t.a.length c], .slice A2 xs.length c2, .int .i64 n] w fun e w' => e = .returned (.bool true) ∧ Below w.heap.size w w' := by
  have hb0 : Below w.heap.size w (w.alloc (.cells #[.int .i64 t.k, .int .i64 t.h, .slice A t.a.length c] 24)) := bl_alloc (Below.refl _ _) _
  have e0 := Blk.new w #[.int .i64 t.k, .int .i64 t.h, .slice A t.a.length c] 24
  have HB0 := Lib.hid hb0
  have E0 := Lib.hid e0
  have HL := Lib.hid (fun (W : World) (hb : Below w.heap.size w W) => Light_calls t A c 5000 200 W (hr.mov hb) hc)
  have HI := Lib.hid (fun (W : World) (hb : Below w.heap.size w W) => Invert_calls (fun _ => False) t A c xs A2 c2 n W (fun _ q => q.elim) (hr.mov hb) hc (hr2.mov hb) hc2)
  have HJ := Lib.hid (fun (W : World) (hb : Below w.heap.size w W) => InvertR_calls (fun _ => False) t A c xs A2 c2 n W (fun _ q => q.elim) (hr.mov hb) hc (hr2.mov hb) hc2)
  clear hb0 e0
  generalize invV t xs n = iv at *
  generalize lightB t 5000 200 = lb at *
  go_enter Try.func3, Try.ntmps3
  go_wp2_with (first
    | (go_at_call 7; refine (awake_calls _).mono ?_; rintro e w1 ⟨rfl, hb1⟩; have p := E0.out.mov hb1; have p0 := p.cell 0; have p1 := p.cell 1; have p2 := p.cell 2; clear p)
    | (go_at_call 8; refine (HL.out _ (bl_then HB0.out hb1)).mono ?_; clear HL; rintro e w2 ⟨rfl, hb2⟩; have hb := bl_then hb1 hb2; have q := E0.out.mov hb; have q0 := q.cell 0; have q1 := q.cell 1; have q2 := q.cell 2; clear q p0 p1 p2)
    | (go_at_call 9; refine (HI.out _ (bl_then HB0.out hb)).mono ?_; clear HI; rintro e w3 hre; obtain ⟨u, B3, c3, rfl, hu, hc3, hr3, hb3⟩ := RetE.u hre; clear hre; have HU := Lib.hid hu; clear hu; have hw3 := bl_then hb hb3; have q := (E0.out.mov hw3); have ql := q.lt; have q0 := q.cell 0; have q1 := q.cell 1; have q2 := q.cell 2; clear q)
    | (go_at_call 10; refine (HJ.out _ (bl_alloc (bl_then HB0.out hw3) _)).mono ?_; clear HJ q0 q1 q2 ql; rintro e w4 hre; obtain ⟨u', B4, c4, rfl, hu', hc4, hr4, hb4⟩ := RetE.u hre; obtain rfl : u' = u := hu'.trans HU.out.symm; clear hre hu'; have q := (Blk.new w3 #[.int .i64 u'.k, .int .i64 u'.h, .slice B3 u'.a.length c3] 24).mov hb4; have q0 := q.cell 0; have q1 := q.cell 1; have q2 := q.cell 2; have ql := q.lt; clear q; have hr3' := (hr3.mov (bl_alloc (Below.refl _ _) (.cells #[.int .i64 u'.k, .int .i64 u'.h, .slice B3 u'.a.length c3] 24))).mov hb4)
    | (go_at_call 11; refine (SameR_calls u' u' B3 c3 B4 c4 _ (hr3'.mov (bl_alloc (Below.refl _ _) _)) hc3 (hr4.mov (bl_alloc (Below.refl _ _) _)) hc4).mono ?_; rintro e w5 ⟨rfl, hb5⟩; rw [sameB_refl]))
  all_goals go_ret
  · exact ⟨rfl, bl_then HB0.out hb⟩
  · exact ⟨by simp, bl_then (bl_alloc (bl_then (bl_alloc (bl_then HB0.out hw3) _) hb4) _) hb5⟩
  · exact ⟨rfl, bl_then HB0.out hb⟩

theorem InvertTells_row (w : World) (t : Tm) (A : Option Addr) (c : Nat) (hr : Reads (fun _ => False) w A t.a) (hc : t.a.length ≤ c) (_ : -9223372036854775808 ≤ t.k ∧ t.k ≤ 9223372036854775807 ∧ -9223372036854775808 ≤ t.h ∧ t.h ≤ 9223372036854775807)
    (xs : List Int) (A2 : Option Addr) (c2 : Nat) (hr2 : RdI (fun _ => False) w A2 xs) (hc2 : xs.length ≤ c2) (_ : ∀ x ∈ xs, -9223372036854775808 ≤ x ∧ x ≤ 9223372036854775807) (n : Int) (_ : -9223372036854775808 ≤ n ∧ n ≤ 9223372036854775807) :
    Calls Try.prog 3 #[.agg #[.int .i64 t.k, .int .i64 t.h, .slice A t.a.length c], .slice A2 xs.length c2, .int .i64 n] w fun e w' => e = .returned (.bool true) ∧ Below w.heap.size w w' :=
  InvertTells_calls t A c xs A2 c2 n w hr hc hr2 hc2
end Go.Proofs.Ytaliphgdahpagaa
