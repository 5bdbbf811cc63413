/- The chapter's examples of invert, and the law InvertTells. -/
import Derived.Test.YtbjlnngjdpnlaaaI5
namespace Go.Proofs.Ytbjlnngjdpnlaaa
open Go.RowKit Go.Shelf

theorem inv_ex1 : invV ⟨4, 2, []⟩ [2, 0] 3 = (some ⟨4, 1, []⟩, 0) := by
  have h1 : mayB ⟨4, 2, []⟩ = true := by decide +kernel
  have h2 : mayV [2, 0] 3 = true := mayV_true ⟨by omega, by omega, fun i hi => by
    have : i = 0 ∨ i = 1 := by simp at hi; omega
    rcases this with rfl | rfl <;> simp⟩
  have h3 : renW (rnV [2, 0] 3) ⟨4, 2, []⟩ 0 = some ⟨4, 1, []⟩ := by kernel_rfl
  rw [invV, h1, h2, h3]
  rfl
theorem inv_ex2 : invV ⟨4, 3, []⟩ [2, 0] 3 = (some ⟨4, 2, []⟩, 0) := by
  have h1 : mayB ⟨4, 3, []⟩ = true := by decide +kernel
  have h2 : mayV [2, 0] 3 = true := mayV_true ⟨by omega, by omega, fun i hi => by
    have : i = 0 ∨ i = 1 := by simp at hi; omega
    rcases this with rfl | rfl <;> simp⟩
  have h3 : renW (rnV [2, 0] 3) ⟨4, 3, []⟩ 0 = some ⟨4, 2, []⟩ := by kernel_rfl
  rw [invV, h1, h2, h3]
  rfl
theorem inv_ex3 : invV ⟨4, 1, []⟩ [2, 0] 3 = (none, 7) := by
  have h1 : mayB ⟨4, 1, []⟩ = true := by decide +kernel
  have h2 : mayV [2, 0] 3 = true := mayV_true ⟨by omega, by omega, fun i hi => by
    have : i = 0 ∨ i = 1 := by simp at hi; omega
    rcases this with rfl | rfl <;> simp⟩
  have h3 : renW (rnV [2, 0] 3) ⟨4, 1, []⟩ 0 = none := by kernel_rfl
  rw [invV, h1, h2, h3]
  rfl

set_option maxHeartbeats 4000000 in
theorem awake_calls (w : World) : Calls Try.prog 5 #[] w fun e w' => e = .returned (.bool true) ∧ Below w.heap.size w w' := by
  have hb0 : Below w.heap.size w (w.alloc (.cells #[.int .i64 2, .int .i64 0] 3)) := bl_alloc (Below.refl _ _) _
  have e0 := Blk.new w #[.int .i64 2, .int .i64 0] 3
  have HX : Hid (∀ W, Below (w.alloc (.cells #[.int .i64 2, .int .i64 0] 3)).heap.size (w.alloc (.cells #[.int .i64 2, .int .i64 0] 3)) W → RdI (fun _ => False) W (some ⟨w.heap.size, 0, none⟩) [2, 0]) := Lib.hid fun W hb => by
    have z := e0.mov hb
    refine ⟨by simp [limI], fun i hi => ⟨_, rfl, fun q => q, ?_⟩⟩
    have : i = 0 ∨ i = 1 := by simp at hi; omega
    rcases this with rfl | rfl
    · exact z.cell 0
    · exact z.cell 1
  have H1 := Lib.hid (fun W hb => Invert_calls (fun _ => False) ⟨4, 2, []⟩ none 0 [2, 0] (some ⟨w.heap.size, 0, none⟩) 2 3 W (fun _ q => q.elim) (.nil _) (Nat.le_refl _) (HX.out W hb) (Nat.le_refl _))
  have H2 := Lib.hid (fun W hb => Invert_calls (fun _ => False) ⟨4, 3, []⟩ none 0 [2, 0] (some ⟨w.heap.size, 0, none⟩) 2 3 W (fun _ q => q.elim) (.nil _) (Nat.le_refl _) (HX.out W hb) (Nat.le_refl _))
  have H3 := Lib.hid (fun W hb => Invert_calls (fun _ => False) ⟨4, 1, []⟩ none 0 [2, 0] (some ⟨w.heap.size, 0, none⟩) 2 3 W (fun _ q => q.elim) (.nil _) (Nat.le_refl _) (HX.out W hb) (Nat.le_refl _))
  rw [inv_ex1] at H1
  rw [inv_ex2] at H2
  rw [inv_ex3] at H3
  have HB0 := Lib.hid hb0
  clear hb0 e0
  go_enter Try.func5, Try.ntmps5
  go_wp2_with (first
    | (go_at_call 9; refine (H1.out _ (Below.refl _ _)).mono ?_; clear H1; rintro e w1 ⟨hb1, (⟨hn, _⟩ | ⟨u1, B1, c1, hs1, rfl, hc1, hr1⟩)⟩; (exact absurd hn (by simp)); (obtain rfl := Option.some.inj hs1); clear hs1 hr1 hc1)
    | (go_at_call 9; refine (H2.out _ (bl_alloc hb1 _)).mono ?_; clear H2; rintro e w2 ⟨hb2, (⟨hn, _⟩ | ⟨u2, B2, c2, hs2, rfl, hc2, hr2⟩)⟩; (exact absurd hn (by simp)); (obtain rfl := Option.some.inj hs2); clear hs2 hr2 hc2; have HP := Lib.hid ((Blk.new w1 #[.int .i64 4, .int .i64 1, .slice B1 0 c1] 24).mov hb2))
    | (go_at_call 9; refine (H3.out _ (bl_alloc (bl_then (bl_alloc hb1 _) hb2) _)).mono ?_; clear H3; rintro e w3 ⟨hb3, (⟨_, rfl⟩ | ⟨u3, B3, c3, hs3, _, _, _⟩)⟩; rotate_left; (exact absurd hs3 (by simp)); have p := (HP.out.mov (bl_alloc (Below.refl _ _) _)).mov hb3; have q := (Blk.new w2 #[.int .i64 4, .int .i64 2, .slice B2 0 c2] 24).mov hb3; have p1 := p.cell 1; have q1 := q.cell 1; have pl := p.lt; have ql := q.lt; have hw := bl_then HB0.out (bl_then (bl_alloc (bl_then (bl_alloc hb1 (.cells #[.int .i64 4, .int .i64 1, .slice B1 0 c1] 24)) hb2) (.cells #[.int .i64 4, .int .i64 2, .slice B2 0 c2] 24)) hb3); clear p q))
  go_ret
  exact ⟨rfl, bl_alloc hw _⟩

/-- What comes back, in one form. -/
theorem RetE.u {S : Nat → Prop} {r : Option Tm × Int} {w w' : World} {e : Ending} (h : RetE S r w e w') :
    ∃ u B c, e = .returned (.tuple #[.agg #[.int .i64 u.k, .int .i64 u.h, .slice B u.a.length c], .int .i64 r.2]) ∧ u = r.1.getD ⟨0, 0, []⟩ ∧ u.a.length ≤ c ∧ Reads S w' B u.a ∧ Below w.heap.size w w' := by
  obtain ⟨hb, (⟨h1, h2⟩ | ⟨u, B, c, h1, h2, h3, h4⟩)⟩ := h
  · exact ⟨⟨0, 0, []⟩, none, 0, h2, by rw [h1]; rfl, Nat.le_refl _, .nil _, hb⟩
  · exact ⟨u, B, c, h2, by rw [h1]; rfl, h3, h4, hb⟩

mutual
theorem sameB_refl : ∀ t : Tm, sameB t t = true
  | ⟨k, h, a⟩ => by rw [sameB, sameL_refl a]; simp
theorem sameL_refl : ∀ l : List Tm, sameL l l = true
  | [] => by rw [sameL]
  | t :: l => by rw [sameL, sameB_refl t, sameL_refl l]; rfl
end

end Go.Proofs.Ytbjlnngjdpnlaaa
