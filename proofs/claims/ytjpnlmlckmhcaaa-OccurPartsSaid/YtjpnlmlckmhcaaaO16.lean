/- The law OccurParts. -/
import Derived.Test.YtjpnlmlckmhcaaaO8
import Derived.Test.YtjpnlmlckmhcaaaO12
namespace Go.Proofs.Ytjpnlmlckmhcaaa
open Go.RowKit Go.Shelf

theorem bl_drewN {a w : World} (h : Below a.heap.size a w) (n : Nat) : Below a.heap.size a (w.drewN n) := ⟨h.os, h.tape, h.output, h.size, h.block⟩

structure PartsRel (w0 : World) (kk hh n : Int) (A : Option Addr) (ts : List Tm) (c g : Nat) (i : Nat) (b : Bool) (wr : World) : Prop where
  le : i ≤ ts.length
  below : Below w0.heap.size w0 wr
  blk : Blk wr g #[.int .i64 kk, .int .i64 hh, .slice A ts.length c] 30
  rest : patsL (isB kk) ts n = (b && patsL (isB kk) (ts.drop i) n)

set_option maxHeartbeats 8000000 in
set_option maxRecDepth 100000 in
theorem OccurParts_row (w : World) (t : Tm) (A : Option Addr) (c : Nat) (hr : Reads (fun _ => False) w A t.a) (hc : t.a.length ≤ c) (_ : okT t) (n : Int) (hn : -9223372036854775808 ≤ n ∧ n ≤ 9223372036854775807) :
    Calls Try.prog 4 #[.agg #[.int .i64 t.k, .int .i64 t.h, .slice A t.a.length c], .int .i64 n] w fun e w' => e = .returned (.bool true) ∧ Below w.heap.size w w' := by
  obtain ⟨kk, hh, ts⟩ := t
  have hlen := hr.len
  dsimp only at hr hc hlen ⊢
  have hll := hlen
  unfold lim at hlen
  have hb0 : Below w.heap.size w (w.alloc (.cells #[.int .i64 kk, .int .i64 hh, .slice A ts.length c] 30)) := bl_alloc (Below.refl _ _) _
  have e0 := Blk.new w #[.int .i64 kk, .int .i64 hh, .slice A ts.length c] 30
  have HB0 := Lib.hid hb0
  have E0 := Lib.hid e0
  have HL := Lib.hid (fun (W : World) (hb : Below w.heap.size w W) => Light_calls ⟨kk, hh, ts⟩ A c 3000 200 W (hr.mov hb) hc)
  have HP := Lib.hid (fun (W : World) (hb : Below w.heap.size w W) => Patterns_calls ⟨kk, hh, ts⟩ A c n W (hr.mov hb) hc)
  have HQ := Lib.hid (fun (W : World) (hb : Below w.heap.size w W) => Pattern_calls ts A c n W (hr.mov hb))
  have hpe := patsB_eq kk hh ts n
  have HPE := Lib.hid hpe
  clear hb0 e0 hpe
  generalize lightB ⟨kk, hh, ts⟩ 3000 200 = lb at *
  generalize patsB ⟨kk, hh, ts⟩ n = pb at *
  cases hbig : decide (1099511627776 < n)
  rotate_left
  · go_enter Try.func4, Try.ntmps4
    go_wp2_with (first
      | (go_at_call 10; refine (awake5_calls _).mono ?_; rintro e w1 ⟨rfl, hb1⟩; have p := E0.out.mov hb1; have p0 := p.cell 0; have p1 := p.cell 1; have p2 := p.cell 2; clear p)
      | (go_at_call 14; refine (HL.out _ (bl_then HB0.out hb1)).mono ?_; clear HL; rintro e w2 ⟨rfl, hb2⟩; have hb := bl_then hb1 hb2; clear p0 p1 p2))
    all_goals
      go_ret
      exact ⟨rfl, bl_then HB0.out hb⟩
  have hn2 : n ≤ 1099511627776 := by have := of_decide_eq_false hbig; omega
  go_enter Try.func4, Try.ntmps4
  go_wp2_with (first
    | (go_at_call 10; refine (awake5_calls _).mono ?_; rintro e w1 ⟨rfl, hb1⟩; have p := E0.out.mov hb1; have p0 := p.cell 0; have p1 := p.cell 1; have p2 := p.cell 2; clear p)
    | (go_at_call 14; refine (HL.out _ (bl_then HB0.out hb1)).mono ?_; clear HL; rintro e w2 ⟨rfl, hb2⟩; have hb := bl_then hb1 hb2; clear p0 p1 p2))
  rotate_left
  · go_ret
    exact ⟨rfl, bl_then HB0.out hb⟩
  have EX := Lib.hid (E0.out.mov hb)
  have hw2 := bl_then HB0.out hb
  clear hb1 hb2 hb
  go_loopw [7, 8] (fun v j wr => ∃ (i : Nat) (b : Bool), v = .bool b ∧ j = .int .i64 i ∧ PartsRel w2 kk hh n A ts c w.heap.size i b wr) (fun _ j _ => ts.length - (intOf j).toNat)
  case atStart => exact ⟨0, true, rfl, rfl, Nat.zero_le _, Below.refl _ _, EX.out, by simp⟩
  case round =>
    obtain ⟨i, b, rfl, rfl, hrel⟩ := hrel
    have hbw := hrel.below
    have hbk := hrel.blk
    have hpl := hrel.rest
    have g2 := hbk.cell 2
    by_cases hlt : i < ts.length
    · obtain ⟨ad, B3, d3, rfl, -, c0, c1, c2, hd, hsub⟩ := (hr.mov (bl_then hw2 hbw)).at hlt
      rw [patsL_at hlt] at hpl
      cases b
      · have HF := Lib.hid hpl
        clear hpl hrel
        go_wp2_with fail
        go_quiet (fail)
        go_wp2_with fail
        exact ⟨⟨i + 1, false, rfl, by go_num, hlt, bl_drewN hbw _, hbk, HF.out⟩, by simp [intOf]; omega⟩
      · rw [Bool.true_and] at hpl
        have hw0 := hw2
        have HI := Lib.hid (fun W hb => Patterns_calls ts[i] B3 d3 (lastN (isB kk) (ts.drop (i + 1)) n) W (hsub.mov hb) hd)
        have HF := Lib.hid hpl
        have hnn := lastN_binds (kk := kk) hlt hn
        have hw1 : IntKind.i64.wrap (n + bindsI kk i ts.length) = lastN (isB kk) (ts.drop (i + 1)) n := (IntWalk.i64_left _).trans hnn
        have HBI : Hid (∀ W : World, Calls Try.prog 16 #[.agg #[.int .i64 kk, .int .i64 hh, .slice (some ad) ts.length c], .int .i64 (i : Int)] W fun e w' => e = .returned (.int .i64 (bindsI kk i ts.length)) ∧ Below W.heap.size W w') :=
          fun W => Binds_calls kk hh (some ad) ts.length c i W hll
        have q0 := hbk.cell 0
        have q1 := hbk.cell 1
        have hcells : ∀ W : World, Below wr.heap.size wr W → (Below wr.heap.size wr W ∧ W.cell? ⟨w.heap.size, 0, none⟩ = some (.int .i64 kk) ∧ W.cell? ⟨w.heap.size, 1, none⟩ = some (.int .i64 hh) ∧ W.cell? ⟨w.heap.size, 2, none⟩ = some (.slice (some ad) ts.length c) ∧
          W.cell? (ad.add (i * 3)) = some (.int .i64 ts[i].k) ∧ W.cell? ⟨(ad.add (i * 3)).block, (ad.add (i * 3)).off + 1, none⟩ = some (.int .i64 ts[i].h) ∧ W.cell? ⟨(ad.add (i * 3)).block, (ad.add (i * 3)).off + 2, none⟩ = some (.slice B3 ts[i].a.length d3)) :=
          fun W hb => ⟨hb, cell_mov q0 hb, cell_mov q1 hb, cell_mov g2 hb, cell_mov c0 hb, cell_mov c1 hb, cell_mov c2 hb⟩
        have HCE := Lib.hid hcells
        clear hpl hrel hnn hcells
        generalize patsB ts[i] (lastN (isB kk) (ts.drop (i + 1)) n) = pp at *
        generalize lastN (isB kk) (ts.drop (i + 1)) n = nn at *
        generalize bindsI kk i ts.length = bi at *
        have hi0 : (0 : Int) ≤ (i : Int) := by omega
        have hi1 : (i : Int) < (ts.length : Int) := by omega
        go_upto_region 9 with fail
        go_region_held3 (fun W => (Below wr.heap.size wr W ∧ W.cell? ⟨w.heap.size, 0, none⟩ = some (.int .i64 kk) ∧ W.cell? ⟨w.heap.size, 1, none⟩ = some (.int .i64 hh) ∧ W.cell? ⟨w.heap.size, 2, none⟩ = some (.slice (some ad) ts.length c) ∧
            W.cell? (ad.add (i * 3)) = some (.int .i64 ts[i].k) ∧ W.cell? ⟨(ad.add (i * 3)).block, (ad.add (i * 3)).off + 1, none⟩ = some (.int .i64 ts[i].h) ∧ W.cell? ⟨(ad.add (i * 3)).block, (ad.add (i * 3)).off + 2, none⟩ = some (.slice B3 ts[i].a.length d3)))
          ((refine HCE.out _ ?_; first | exact bl_then (bl_undrew hx1) hx3 | exact bl_undrew hx1 | exact bl_eta (Below.refl _ _)))
          (first
            | (go_at_call 16; refine (HBI.out _).mono ?_; rintro e w1 ⟨rfl, hx1⟩)
            | (go_at_call 15; refine (HI.out _ (bl_undrew hx1)).mono ?_; rintro e w3 ⟨rfl, hx3⟩))
        go_wp2_with fail
        have hb3 := bl_then (bl_undrew hx1) hx3
        exact ⟨⟨i + 1, pp, rfl, by go_num, hlt, bl_then hbw hb3, hbk.mov hb3, HF.out⟩, by simp [intOf]; omega⟩
    · obtain rfl : i = ts.length := by have := hrel.le; omega
      have HF := Lib.hid hpl
      have hwr := bl_then hw2 hbw
      have g0 := hbk.cell 0
      have g1 := hbk.cell 1
      have BK := Lib.hid hbk
      clear hpl hrel
      cases h6 : (kk == 6)
      · have hpp : patP n ⟨kk, hh, ts⟩ = true := by unfold patP; dsimp only; rw [h6]; rfl
        have HPP := Lib.hid hpp
        clear hpp
        go_wp2_with (go_at_call 15; refine (HP.out _ hwr).mono ?_; clear HP; rintro e w7 ⟨rfl, hb7⟩)
        go_ret
        refine ⟨ret_bool ?_, bl_then hwr hb7⟩
        rw [HPE.out, HPP.out, HF.out, List.drop_length, patsL, nodesL]
        simp
      · have hpp : patP n ⟨kk, hh, ts⟩ = (patV ts n).isSome := by unfold patP; dsimp only; rw [h6]; rfl
        have HPP := Lib.hid hpp
        clear hpp
        generalize patV ts n = pv at *
        cases b
        all_goals
          go_wp2_with (first
            | (go_at_call 11; refine (HQ.out _ hwr).mono ?_; clear HQ; rintro e w6 hre; obtain ⟨vs, B2, c2, rfl, hvs, -, hb6⟩ := hre.u; clear hre hvs; have z := BK.out.mov hb6; have z0 := z.cell 0; have z1 := z.cell 1; have z2 := z.cell 2; clear z g0 g1 g2)
            | (go_at_call 15; refine (HP.out _ (bl_then hwr hb6)).mono ?_; clear HP; rintro e w7 ⟨rfl, hb7⟩))
          go_ret
          refine ⟨ret_bool ?_, bl_then (bl_then hwr hb6) hb7⟩
          rw [HPE.out, HPP.out, HF.out, List.drop_length, patsL, nodesL]
          simp
end Go.Proofs.Ytjpnlmlckmhcaaa
