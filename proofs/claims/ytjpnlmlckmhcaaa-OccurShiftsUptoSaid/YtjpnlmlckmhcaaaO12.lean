/- The contract of amanuensisref05.Patterns. -/
import Derived.Test.YtjpnlmlckmhcaaaO4
import Derived.Test.YtjpnlmlckmhcaaaO2
import Derived.Test.YtjpnlmlckmhcaaaLB
import Derived.IntWalk
namespace Go.Proofs.Ytjpnlmlckmhcaaa
open Go.RowKit Go.Shelf

def patsL (b : Bool) (l : List Tm) (n : Int) : Bool := (nodesL b l n).all fun x => patP x.1 x.2
theorem patsB_eq (k h : Int) (ts : List Tm) (n : Int) : patsB ⟨k, h, ts⟩ n = (patP n ⟨k, h, ts⟩ && patsL (isB k) ts n) := by rw [patsB, nodesW]; rfl
theorem patsL_at {b : Bool} {ts : List Tm} {n : Int} {i : Nat} (hlt : i < ts.length) : patsL b (ts.drop i) n = (patsB ts[i] (lastN b (ts.drop (i + 1)) n) && patsL b (ts.drop (i + 1)) n) := by
  rw [patsL, nodesL_at _ hlt, List.all_append]; rfl

structure PatsRel (w : World) (kk hh n : Int) (A : Option Addr) (ts : List Tm) (c : Nat) (i : Nat) (wr : World) : Prop where
  le : i ≤ ts.length
  below : Below w.heap.size w wr
  blk : Blk wr w.heap.size #[.int .i64 kk, .int .i64 hh, .slice A ts.length c] 30
  rest : patsL (isB kk) ts n = patsL (isB kk) (ts.drop i) n

set_option maxHeartbeats 8000000 in
theorem PatternsR_calls (t : Tm) : ∀ (A : Option Addr) (c : Nat) (n : Int) (w : World), Reads (fun _ => False) w A t.a → t.a.length ≤ c → inI n →
    Calls Try.prog 21 #[.agg #[.int .i64 t.k, .int .i64 t.h, .slice A t.a.length c], .int .i64 n] w fun e w' => e = .returned (.bool (patsB t n)) ∧ Below w.heap.size w w' := by
  induction t using Tm.ind with
  | h t ih =>
  intro A c n w hr hc hn
  obtain ⟨kk, hh, ts⟩ := t
  dsimp only at hr hc ih ⊢
  have hlen := hr.len
  have hll := hlen
  unfold lim at hlen
  have IH := Lib.hid ih
  have hb0 : Below w.heap.size w (w.alloc (.cells #[.int .i64 kk, .int .i64 hh, .slice A ts.length c] 30)) := bl_alloc (Below.refl _ _) _
  have e0 := Blk.new w #[.int .i64 kk, .int .i64 hh, .slice A ts.length c] 30
  have HP := Lib.hid (PatternR_calls ts A c n _ (hr.mov hb0))
  have HB0 := Lib.hid hb0
  have E0 := Lib.hid e0
  clear ih hb0 e0
  cases h6 : (kk == 6)
  · have hpp : patP n ⟨kk, hh, ts⟩ = true := by unfold patP; dsimp only; rw [h6]; rfl
    have HPP := Lib.hid hpp
    have hrel0 : PatsRel w kk hh n A ts c 0 (w.alloc (.cells #[.int .i64 kk, .int .i64 hh, .slice A ts.length c] 30)) := ⟨Nat.zero_le _, HB0.out, E0.out, rfl⟩
    have hrel1 := Lib.hid hrel0
    clear hpp hrel0 HP
    go_enter Try.func21, Try.ntmps21
    go_wp2_with fail
    go_loopw [7] (fun j wr => ∃ i : Nat, j = .int .i64 i ∧ PatsRel w kk hh n A ts c i wr) (fun j _ => ts.length - (intOf j).toNat)
    case atStart => exact ⟨0, rfl, hrel1.out⟩
    case round =>
      clear hrel1
      obtain ⟨i, rfl, hrel⟩ := hrel
      have hbw := hrel.below
      have hbk := hrel.blk
      have hpl := hrel.rest
      have g2 := hbk.cell 2
      by_cases hlt : i < ts.length
      · obtain ⟨ad, B3, d3, rfl, -, c0, c1, c2, hd, hsub⟩ := (hr.mov hbw).at hlt
        rw [patsL_at hlt] at hpl
        have hcall : ∀ W, Below wr.heap.size wr W → Calls Try.prog 21 #[.agg #[.int .i64 ts[i].k, .int .i64 ts[i].h, .slice B3 ts[i].a.length d3], .int .i64 (lastN (isB kk) (ts.drop (i + 1)) n)] W fun e w' => e = .returned (.bool (patsB ts[i] (lastN (isB kk) (ts.drop (i + 1)) n))) ∧ Below W.heap.size W w' :=
          fun W hb => IH.out ts[i] (List.getElem_mem hlt) B3 d3 _ W (hsub.mov hb) hd (lastN_in hn)
        have HI := Lib.hid hcall
        have HF := Lib.hid hpl
        have hnn := lastN_binds (kk := kk) hlt hn
        have hw1 : IntKind.i64.wrap (n + bindsI kk i ts.length) = lastN (isB kk) (ts.drop (i + 1)) n := (IntWalk.i64_left _).trans hnn
        have HBI : Hid (∀ W : World, Calls Try.prog 16 #[.agg #[.int .i64 kk, .int .i64 hh, .slice (some ad) ts.length c], .int .i64 (i : Int)] W fun e w' => e = .returned (.int .i64 (bindsI kk i ts.length)) ∧ Below W.heap.size W w') :=
          fun W => Binds_calls kk hh (some ad) ts.length c i W hll
        have q0 := hbk.cell 0
        have q1 := hbk.cell 1
        have hcells : ∀ W : World, Below wr.heap.size wr W → (Below wr.heap.size wr W ∧ W.cell? ⟨w.heap.size, 0, none⟩ = some (.int .i64 kk) ∧ W.cell? ⟨w.heap.size, 1, none⟩ = some (.int .i64 hh) ∧ W.cell? ⟨w.heap.size, 2, none⟩ = some (.slice (some ad) ts.length c) ∧
          W.cell? (ad.add (i * 3)) = some (.int .i64 ts[i].k) ∧ W.cell? ⟨(ad.add (i * 3)).block, (ad.add (i * 3)).off + 1, none⟩ = some (.int .i64 ts[i].h) ∧ W.cell? ⟨(ad.add (i * 3)).block, (ad.add (i * 3)).off + 2, none⟩ = some (.slice B3 ts[i].a.length d3)) :=
          fun W hb => ⟨hb, cell_mov q0 hb, cell_mov q1 hb, cell_mov g2 hb, cell_mov c0 hb, cell_mov c1 hb, cell_mov c2 hb⟩
        have HCE := Lib.hid hcells
        clear hcall hpl hrel hnn hcells
        generalize patsB ts[i] (lastN (isB kk) (ts.drop (i + 1)) n) = pb at *
        generalize lastN (isB kk) (ts.drop (i + 1)) n = nn at *
        generalize bindsI kk i ts.length = bi at *
        have hi0 : (0 : Int) ≤ (i : Int) := by omega
        have hi1 : (i : Int) < (ts.length : Int) := by omega
        cases pb
        all_goals
          go_upto_region 8 with fail
          go_region_held3 (fun W => (Below wr.heap.size wr W ∧ W.cell? ⟨w.heap.size, 0, none⟩ = some (.int .i64 kk) ∧ W.cell? ⟨w.heap.size, 1, none⟩ = some (.int .i64 hh) ∧ W.cell? ⟨w.heap.size, 2, none⟩ = some (.slice (some ad) ts.length c) ∧
              W.cell? (ad.add (i * 3)) = some (.int .i64 ts[i].k) ∧ W.cell? ⟨(ad.add (i * 3)).block, (ad.add (i * 3)).off + 1, none⟩ = some (.int .i64 ts[i].h) ∧ W.cell? ⟨(ad.add (i * 3)).block, (ad.add (i * 3)).off + 2, none⟩ = some (.slice B3 ts[i].a.length d3)))
            ((refine HCE.out _ ?_; first | exact bl_then (bl_undrew hx1) hx3 | exact bl_undrew hx1 | exact bl_eta (Below.refl _ _)))
            (first
              | (go_at_call 16; refine (HBI.out _).mono ?_; rintro e w1 ⟨rfl, hx1⟩)
              | (go_at_call 21; refine (HI.out _ (bl_undrew hx1)).mono ?_; rintro e w3 ⟨rfl, hx3⟩))
          go_wp2_with fail
        · go_ret
          refine ⟨ret_bool ?_, bl_then hbw (bl_then (bl_undrew hx1) hx3)⟩
          rw [patsB_eq, HPP.out, HF.out]
          rfl
        · have hb3 := bl_then (bl_undrew hx1) hx3
          exact ⟨⟨i + 1, by go_num, hlt, bl_then hbw hb3, hbk.mov hb3, by rw [HF.out, Bool.true_and]⟩, by simp [intOf]; omega⟩
      · obtain rfl : i = ts.length := by have := hrel.le; omega
        have HF := Lib.hid hpl
        clear hpl hrel
        go_wp2_with fail
        go_ret
        refine ⟨ret_bool ?_, hbw⟩
        rw [patsB_eq, HPP.out, HF.out, List.drop_length]
        rfl
  · have hpp : patP n ⟨kk, hh, ts⟩ = (patV ts n).isSome := by unfold patP; dsimp only; rw [h6]; rfl
    have HPP0 := Lib.hid hpp
    clear hpp
    generalize patV ts n = pv at *
    go_enter Try.func21, Try.ntmps21
    go_wp2_with (go_at_call 12; refine HP.out.mono ?_; clear HP; rintro e w1 ⟨hb1, (⟨rfl, rfl⟩ | ⟨vs, B1, c1, rfl, rfl, hc1, hr1⟩)⟩)
    · go_ret
      refine ⟨ret_bool ?_, bl_then HB0.out hb1⟩
      rw [patsB_eq, HPP0.out]
      rfl
    · have HPP : Hid (patP n ⟨kk, hh, ts⟩ = true) := HPP0.out
      have hrel0 : PatsRel w kk hh n A ts c 0 w1 := ⟨Nat.zero_le _, bl_then HB0.out hb1, E0.out.mov hb1, rfl⟩
      have hrel1 := Lib.hid hrel0
      clear hrel0
      go_loopw [7] (fun j wr => ∃ i : Nat, j = .int .i64 i ∧ PatsRel w kk hh n A ts c i wr) (fun j _ => ts.length - (intOf j).toNat)
      case atStart => exact ⟨0, rfl, hrel1.out⟩
      case round =>
        clear hrel1
        obtain ⟨i, rfl, hrel⟩ := hrel
        have hbw := hrel.below
        have hbk := hrel.blk
        have hpl := hrel.rest
        have g2 := hbk.cell 2
        by_cases hlt : i < ts.length
        · obtain ⟨ad, B3, d3, rfl, -, c0, c1, c2, hd, hsub⟩ := (hr.mov hbw).at hlt
          rw [patsL_at hlt] at hpl
          have hcall : ∀ W, Below wr.heap.size wr W → Calls Try.prog 21 #[.agg #[.int .i64 ts[i].k, .int .i64 ts[i].h, .slice B3 ts[i].a.length d3], .int .i64 (lastN (isB kk) (ts.drop (i + 1)) n)] W fun e w' => e = .returned (.bool (patsB ts[i] (lastN (isB kk) (ts.drop (i + 1)) n))) ∧ Below W.heap.size W w' :=
            fun W hb => IH.out ts[i] (List.getElem_mem hlt) B3 d3 _ W (hsub.mov hb) hd (lastN_in hn)
          have HI := Lib.hid hcall
          have HF := Lib.hid hpl
          have hnn := lastN_binds (kk := kk) hlt hn
          have hw1 : IntKind.i64.wrap (n + bindsI kk i ts.length) = lastN (isB kk) (ts.drop (i + 1)) n := (IntWalk.i64_left _).trans hnn
          have HBI : Hid (∀ W : World, Calls Try.prog 16 #[.agg #[.int .i64 kk, .int .i64 hh, .slice (some ad) ts.length c], .int .i64 (i : Int)] W fun e w' => e = .returned (.int .i64 (bindsI kk i ts.length)) ∧ Below W.heap.size W w') :=
            fun W => Binds_calls kk hh (some ad) ts.length c i W hll
          have q0 := hbk.cell 0
          have q1 := hbk.cell 1
          have hcells : ∀ W : World, Below wr.heap.size wr W → (Below wr.heap.size wr W ∧ W.cell? ⟨w.heap.size, 0, none⟩ = some (.int .i64 kk) ∧ W.cell? ⟨w.heap.size, 1, none⟩ = some (.int .i64 hh) ∧ W.cell? ⟨w.heap.size, 2, none⟩ = some (.slice (some ad) ts.length c) ∧
            W.cell? (ad.add (i * 3)) = some (.int .i64 ts[i].k) ∧ W.cell? ⟨(ad.add (i * 3)).block, (ad.add (i * 3)).off + 1, none⟩ = some (.int .i64 ts[i].h) ∧ W.cell? ⟨(ad.add (i * 3)).block, (ad.add (i * 3)).off + 2, none⟩ = some (.slice B3 ts[i].a.length d3)) :=
            fun W hb => ⟨hb, cell_mov q0 hb, cell_mov q1 hb, cell_mov g2 hb, cell_mov c0 hb, cell_mov c1 hb, cell_mov c2 hb⟩
          have HCE := Lib.hid hcells
          clear hcall hpl hrel hnn hcells
          generalize patsB ts[i] (lastN (isB kk) (ts.drop (i + 1)) n) = pb at *
          generalize lastN (isB kk) (ts.drop (i + 1)) n = nn at *
          generalize bindsI kk i ts.length = bi at *
          have hi0 : (0 : Int) ≤ (i : Int) := by omega
          have hi1 : (i : Int) < (ts.length : Int) := by omega
          cases pb
          all_goals
            go_upto_region 8 with fail
            go_region_held3 (fun W => (Below wr.heap.size wr W ∧ W.cell? ⟨w.heap.size, 0, none⟩ = some (.int .i64 kk) ∧ W.cell? ⟨w.heap.size, 1, none⟩ = some (.int .i64 hh) ∧ W.cell? ⟨w.heap.size, 2, none⟩ = some (.slice (some ad) ts.length c) ∧
                W.cell? (ad.add (i * 3)) = some (.int .i64 ts[i].k) ∧ W.cell? ⟨(ad.add (i * 3)).block, (ad.add (i * 3)).off + 1, none⟩ = some (.int .i64 ts[i].h) ∧ W.cell? ⟨(ad.add (i * 3)).block, (ad.add (i * 3)).off + 2, none⟩ = some (.slice B3 ts[i].a.length d3)))
              ((refine HCE.out _ ?_; first | exact bl_then (bl_undrew hx1) hx3 | exact bl_undrew hx1 | exact bl_eta (Below.refl _ _)))
              (first
                | (go_at_call 16; refine (HBI.out _).mono ?_; rintro e w1 ⟨rfl, hx1⟩)
                | (go_at_call 21; refine (HI.out _ (bl_undrew hx1)).mono ?_; rintro e w3 ⟨rfl, hx3⟩))
            go_wp2_with fail
          · go_ret
            refine ⟨ret_bool ?_, bl_then hbw (bl_then (bl_undrew hx1) hx3)⟩
            rw [patsB_eq, HPP.out, HF.out]
            rfl
          · have hb3 := bl_then (bl_undrew hx1) hx3
            exact ⟨⟨i + 1, by go_num, hlt, bl_then hbw hb3, hbk.mov hb3, by rw [HF.out, Bool.true_and]⟩, by simp [intOf]; omega⟩
        · obtain rfl : i = ts.length := by have := hrel.le; omega
          have HF := Lib.hid hpl
          clear hpl hrel
          go_wp2_with fail
          go_ret
          refine ⟨ret_bool ?_, hbw⟩
          rw [patsB_eq, HPP.out, HF.out, List.drop_length]
          rfl
end Go.Proofs.Ytjpnlmlckmhcaaa
