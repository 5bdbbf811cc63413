/- The chapter's examples of occur, and the law OccurPattern. -/
import Derived.Test.YtjpnlmlckmhcaaaO7
import Derived.Test.YtjpnlmlckmhcaaaO2
namespace Go.Proofs.Ytjpnlmlckmhcaaa
open Go.RowKit Go.Shelf Go.Maps

def exT : Tm := ⟨3, 0, [⟨4, 1, [⟨4, 0, []⟩]⟩]⟩
theorem exT_vars : varsOf (nodesW exT 0) = [0] := by kernel_rfl
theorem exT_pats : patsB exT 0 = true := by kernel_rfl
theorem ex_pat : patV [⟨4, 2, []⟩, ⟨4, 0, []⟩] 3 = some [2, 0] := by kernel_rfl

set_option maxHeartbeats 4000000 in
theorem awake5_calls (w : World) : Calls Try.prog 10 #[] w fun e w' => e = .returned (.bool true) ∧ Below w.heap.size w w' := by
  have hb0 : Below w.heap.size w (((w.alloc (.cells #[.int .i64 4, .int .i64 0, .slice none 0 0] 30)).alloc (.cells #[.int .i64 4, .int .i64 1, .slice (some ⟨w.heap.size, 0, none⟩) 1 1] 30)).alloc (.cells #[.int .i64 3, .int .i64 0, .slice (some ⟨w.heap.size + 1, 0, none⟩) 1 1] 30)) := bl_alloc (bl_alloc (bl_alloc (Below.refl _ _) _) _) _
  have e0 := ((Blk.new w #[.int .i64 4, .int .i64 0, .slice none 0 0] 30).mov (bl_alloc (Below.refl _ _) (.cells #[.int .i64 4, .int .i64 1, .slice (some ⟨w.heap.size, 0, none⟩) 1 1] 30))).mov (bl_alloc (Below.refl _ _) (.cells #[.int .i64 3, .int .i64 0, .slice (some ⟨w.heap.size + 1, 0, none⟩) 1 1] 30))
  have e1 := (Blk.new (w.alloc (.cells #[.int .i64 4, .int .i64 0, .slice none 0 0] 30)) #[.int .i64 4, .int .i64 1, .slice (some ⟨w.heap.size, 0, none⟩) 1 1] 30).mov (bl_alloc (Below.refl _ _) (.cells #[.int .i64 3, .int .i64 0, .slice (some ⟨w.heap.size + 1, 0, none⟩) 1 1] 30))
  have e2 := Blk.new ((w.alloc (.cells #[.int .i64 4, .int .i64 0, .slice none 0 0] 30)).alloc (.cells #[.int .i64 4, .int .i64 1, .slice (some ⟨w.heap.size, 0, none⟩) 1 1] 30)) #[.int .i64 3, .int .i64 0, .slice (some ⟨w.heap.size + 1, 0, none⟩) 1 1] 30
  simp only [World.size_alloc] at e1 e2
  have hrd : Reads (fun _ => False) (((w.alloc (.cells #[.int .i64 4, .int .i64 0, .slice none 0 0] 30)).alloc (.cells #[.int .i64 4, .int .i64 1, .slice (some ⟨w.heap.size, 0, none⟩) 1 1] 30)).alloc (.cells #[.int .i64 3, .int .i64 0, .slice (some ⟨w.heap.size + 1, 0, none⟩) 1 1] 30)) (some ⟨w.heap.size + 1, 0, none⟩) exT.a := by
    refine .row _ 0 _ (fun _ => some ⟨w.heap.size, 0, none⟩) (fun _ => 1) (fun q => q) (by simp [exT, lim]) (fun i hi => ?_) (fun i hi => ?_)
    · have : i = 0 := by simp [exT] at hi; omega
      subst this
      exact ⟨e1.cell 0, e1.cell 1, e1.cell 2, Nat.le_refl _⟩
    · have : i = 0 := by simp [exT] at hi; omega
      subst this
      refine .row _ 0 _ (fun _ => none) (fun _ => 0) (fun q => q) (by simp [exT, lim]) (fun i hi => ?_) (fun i hi => ?_)
      · have : i = 0 := by simp [exT] at hi; omega
        subst this
        exact ⟨e0.cell 0, e0.cell 1, e0.cell 2, Nat.le_refl _⟩
      · have : i = 0 := by simp [exT] at hi; omega
        subst this
        exact .nil _
  have HV := Lib.hid (Vars_calls exT (some ⟨w.heap.size + 1, 0, none⟩) 1 _ hrd (Nat.le_refl _) (by simp [exT, okT, okL]) (by simp [exT, cnt, cntL, limI]))
  have HP := Lib.hid (fun W hb => Patterns_calls exT (some ⟨w.heap.size + 1, 0, none⟩) 1 0 W (hrd.mov hb) (Nat.le_refl _))
  have hpat : ∀ W : World, Calls Try.prog 11 #[.slice (some ⟨W.heap.size, 0, none⟩) 2 2, .int .i64 3] (W.alloc (.cells #[.int .i64 4, .int .i64 2, .slice none 0 0, .int .i64 4, .int .i64 0, .slice none 0 0] 30)) (RetI (some [2, 0]) (W.alloc (.cells #[.int .i64 4, .int .i64 2, .slice none 0 0, .int .i64 4, .int .i64 0, .slice none 0 0] 30))) := fun W => by
    have b := Blk.new W #[.int .i64 4, .int .i64 2, .slice none 0 0, .int .i64 4, .int .i64 0, .slice none 0 0] 30
    have := Pattern_calls [⟨4, 2, []⟩, ⟨4, 0, []⟩] (some ⟨W.heap.size, 0, none⟩) 2 3 _ (.row _ 0 _ (fun _ => none) (fun _ => 0) (fun q => q) (by simp [lim]) (fun i hi => by
      have : i = 0 ∨ i = 1 := by simp at hi; omega
      rcases this with rfl | rfl
      · exact ⟨b.cell 0, b.cell 1, b.cell 2, Nat.le_refl _⟩
      · exact ⟨b.cell 3, b.cell 4, b.cell 5, Nat.le_refl _⟩) (fun i hi => by
      have : i = 0 ∨ i = 1 := by simp at hi; omega
      rcases this with rfl | rfl <;> exact .nil _))
    rw [ex_pat] at this
    exact this
  have HPAT := Lib.hid hpat
  have HB0 := Lib.hid hb0
  have E2 := Lib.hid e2
  rw [exT_vars] at HV
  rw [exT_pats] at HP
  clear hb0 e0 e1 e2 hrd hpat
  go_enter Try.func10, Try.ntmps10
  go_wp2_with (first
    | (go_at_call 17; refine HV.out.mono ?_; clear HV; rintro e w1 ⟨⟨l, B, c1, rfl, hl1, -, hr1, hri, hme⟩, hb1⟩; obtain rfl : l = [0] := rise_unique hri (by simp) hme; obtain ⟨a1, rfl, -, k1⟩ := hr1.2 0 (by simp); clear hr1 hri hme)
    | (go_at_call 11; refine (HPAT.out _).mono ?_; clear HPAT; rintro e w2 ⟨hb2, (⟨hn, _⟩ | ⟨vs, B2, c2, hs, rfl, hc2, hr2⟩)⟩; (exact absurd hn (by simp)); (obtain rfl := Option.some.inj hs); clear hs; obtain ⟨a2, rfl, -, k2⟩ := hr2.2 0 (by simp); have k1' := cell_mov (cell_mov k1 (bl_alloc (Below.refl _ _) (.cells #[.int .i64 4, .int .i64 2, .slice none 0 0, .int .i64 4, .int .i64 0, .slice none 0 0] 30))) hb2; have hw2 := bl_then (bl_alloc hb1 (.cells #[.int .i64 4, .int .i64 2, .slice none 0 0, .int .i64 4, .int .i64 0, .slice none 0 0] 30)) hb2; have z := E2.out.mov hw2; have z0 := z.cell 0; have z1 := z.cell 1; have z2 := z.cell 2; clear z k1 hr2; have k1n : w2.cell? a1 = some (.int .i64 0) := k1'; have k2n : w2.cell? a2 = some (.int .i64 2) := k2; clear k1' k2)
    | (go_at_call 15; refine (HP.out _ hw2).mono ?_; clear HP; rintro e w3 ⟨rfl, hb3⟩))
  go_ret
  exact ⟨rfl, bl_then HB0.out (bl_then hw2 hb3)⟩

theorem RetI.u {r : Option (List Int)} {w w' : World} {e : Ending} (h : RetI r w e w') :
    ∃ vs B c, e = .returned (.tuple #[.slice B vs.length c, .bool r.isSome]) ∧ vs = r.getD [] ∧ RdI (fun _ => False) w' B vs ∧ Below w.heap.size w w' := by
  obtain ⟨hb, (⟨h1, h2⟩ | ⟨vs, B, c, h1, h2, h3, h4⟩)⟩ := h
  · exact ⟨[], none, 0, by rw [h2, h1]; rfl, by rw [h1]; rfl, ⟨Nat.zero_le _, fun i hi => absurd hi (Nat.not_lt_zero i)⟩, hb⟩
  · exact ⟨vs, B, c, by rw [h2, h1]; rfl, by rw [h1]; rfl, h4, hb⟩

set_option maxHeartbeats 4000000 in
theorem OccurPattern_row (w : World) (ts : List Tm) (A : Option Addr) (c : Nat) (hr : Reads (fun _ => False) w A ts) (_ : ts.length ≤ c) (_ : okL ts) (below : Int) (_ : -9223372036854775808 ≤ below ∧ below ≤ 9223372036854775807) :
    Calls Try.prog 3 #[.slice A ts.length c, .int .i64 below] w fun e w' => e = .returned (.bool true) ∧ Below w.heap.size w w' := by
  have hlen := hr.len
  unfold lim at hlen
  have HP := Lib.hid (fun W (hb : Below w.heap.size w W) => Pattern_calls ts A c below W (hr.mov hb))
  have HQ := Lib.hid (fun W (hb : Below w.heap.size w W) => PatternR_calls ts A c below W (hr.mov hb))
  generalize patV ts below = pv at *
  go_enter Try.func3, Try.ntmps3
  go_wp2_with (first
    | (go_at_call 10; refine (awake5_calls _).mono ?_; rintro e w1 ⟨rfl, hb1⟩)
    | (go_at_call 11; refine (HP.out _ hb1).mono ?_; clear HP; rintro e w2 hre; obtain ⟨vs, B2, c2, rfl, hvs, hr2, hb2⟩ := hre.u; clear hre; have HVS := Lib.hid hvs; clear hvs; have hw2 := bl_then hb1 hb2)
    | (go_at_call 12; refine (HQ.out _ hw2).mono ?_; clear HQ; rintro e w3 hre; obtain ⟨us, B3, c3, rfl, hus, hr3, hb3⟩ := hre.u; clear hre; obtain rfl : us = vs := hus.trans HVS.out.symm; clear hus)
    | (go_at_call 13; refine (Ints_calls us us B2 B3 c2 c3 _ (hr2.mov hb3) hr3).mono ?_; rintro e w4 ⟨rfl, hb4⟩; rw [decide_eq_true rfl]))
  all_goals go_ret
  all_goals first
    | exact ⟨rfl, hb1⟩
    | exact ⟨by simp, bl_then (bl_then hw2 hb3) hb4⟩
end Go.Proofs.Ytjpnlmlckmhcaaa
