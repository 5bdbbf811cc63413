/- The contracts of amanuensisref05.vars, Vars and Metas. -/
import Derived.Test.YtjpnlmlckmhcaaaO10
import Derived.Test.YtjpnlmlckmhcaaaLB
import Derived.IntWalk
namespace Go.Proofs.Ytjpnlmlckmhcaaa
open Go.RowKit Go.Shelf

set_option maxHeartbeats 8000000 in
theorem vars_calls (t : Tm) : ∀ (A : Option Addr) (c : Nat) (n : Int) (out : List Int) (B : Option Addr) (d : Nat) (w : World), Reads (fun _ => False) w A t.a → t.a.length ≤ c → RdI (fun _ => False) w B out → out.length + cnt t + 2 ≤ limI → inI n →
    Calls Try.prog 36 #[.agg #[.int .i64 t.k, .int .i64 t.h, .slice A t.a.length c], .int .i64 n, .slice B out.length d] w (RetS ((nodesW t n).foldl stepV out) w) := by
  induction t using Tm.ind with
  | h t ih =>
  intro A c n out B d w hr hc ho hl hn
  obtain ⟨kk, hh, ts⟩ := t
  dsimp only at hr hc ih ⊢
  rw [cnt] at hl
  have hlen := hr.len
  have hll := hlen
  unfold lim at hlen
  have IH := Lib.hid ih
  have hb0 : Below w.heap.size w (w.alloc (.cells #[.int .i64 kk, .int .i64 hh, .slice A ts.length c] 30)) := bl_alloc (Below.refl _ _) _
  have e0 := Blk.new w #[.int .i64 kk, .int .i64 hh, .slice A ts.length c] 30
  have hadd := add_calls out B d (wrap64 (hh - n)) _ (ho.mov hb0) (by omega)
  have HA := Lib.hid hadd
  have HB0 := Lib.hid hb0
  have E0 := Lib.hid e0
  have HO := Lib.hid (ho.mov hb0)
  clear ih hb0 e0 hadd
  cases h4 : (kk == 4)
  · have hst : stepV out (n, ⟨kk, hh, ts⟩) = out := if_neg (fun q => by simp [show kk = 4 from q.1] at h4)
    have hrel0 : FoldRel stepV kk hh n A ts c out w 0 (.slice B out.length d) (w.alloc (.cells #[.int .i64 kk, .int .i64 hh, .slice A ts.length c] 30)) :=
      ⟨Nat.zero_le _, HB0.out, E0.out, out, B, d, rfl, HO.out, by rw [List.drop_zero]; omega, by rw [List.foldl_cons, hst]; rfl⟩
    have hrel1 := Lib.hid hrel0
    clear hrel0 hst HA HO
    go_enter Try.func36, Try.ntmps36
    go_wp2_with fail
    go_loopw [2, 7] (fun v j wr => ∃ i : Nat, j = .int .i64 i ∧ FoldRel stepV kk hh n A ts c out w i v wr) (fun _ j _ => ts.length - (intOf j).toNat)
    case atStart => exact ⟨0, rfl, hrel1.out⟩
    case round =>
      clear hrel1
      obtain ⟨i, rfl, hrel⟩ := hrel
      obtain ⟨ys, B2, d2, rfl, hry, hyl, hyf⟩ := hrel.out
      have hbw := hrel.below
      have hbk := hrel.blk
      have g2 := hbk.cell 2
      by_cases hlt : i < ts.length
      · obtain ⟨ad, B3, d3, rfl, -, c0, c1, c2, hd, hsub⟩ := (hr.mov hbw).at hlt
        rw [nodesL_at _ hlt, List.foldl_append] at hyf
        rw [cntL_at hlt] at hyl
        have hcp := cnt_pos ts[i]
        have hcall : ∀ W, Below wr.heap.size wr W → Calls Try.prog 36 #[.agg #[.int .i64 ts[i].k, .int .i64 ts[i].h, .slice B3 ts[i].a.length d3], .int .i64 (lastN (isB kk) (ts.drop (i + 1)) n), .slice B2 ys.length d2] W (RetS ((nodesW ts[i] (lastN (isB kk) (ts.drop (i + 1)) n)).foldl stepV ys) W) :=
          fun W hb => IH.out ts[i] (List.getElem_mem hlt) B3 d3 _ ys B2 d2 W (hsub.mov hb) hd (hry.mov hb) (by omega) (lastN_in hn)
        have hfl := fold_len stepV_len (nodesW ts[i] (lastN (isB kk) (ts.drop (i + 1)) n)) ys
        rw [nodesW_len] at hfl
        have HI := Lib.hid hcall
        have HF := Lib.hid hyf
        have HL := Lib.hid hyl
        have HFL := Lib.hid hfl
        have hnn := lastN_binds (kk := kk) hlt hn
        have hw1 : IntKind.i64.wrap (n + bindsI kk i ts.length) = lastN (isB kk) (ts.drop (i + 1)) n := (IntWalk.i64_left _).trans hnn
        have HBI : Hid (∀ W : World, Calls Try.prog 16 #[.agg #[.int .i64 kk, .int .i64 hh, .slice (some ad) ts.length c], .int .i64 (i : Int)] W fun e w' => e = .returned (.int .i64 (bindsI kk i ts.length)) ∧ Below W.heap.size W w') :=
          fun W => Binds_calls kk hh (some ad) ts.length c i W hll
        have q0 := hbk.cell 0
        have q1 := hbk.cell 1
        have hcells : ∀ W : World, Below wr.heap.size wr W → (Below wr.heap.size wr W ∧ W.cell? ⟨w.heap.size, 0, none⟩ = some (.int .i64 kk) ∧ W.cell? ⟨w.heap.size, 1, none⟩ = some (.int .i64 hh) ∧ W.cell? ⟨w.heap.size, 2, none⟩ = some (.slice (some ad) ts.length c) ∧
          W.cell? (ad.add (i * 3)) = some (.int .i64 ts[i].k) ∧ W.cell? ⟨(ad.add (i * 3)).block, (ad.add (i * 3)).off + 1, none⟩ = some (.int .i64 ts[i].h) ∧ W.cell? ⟨(ad.add (i * 3)).block, (ad.add (i * 3)).off + 2, none⟩ = some (.slice B3 ts[i].a.length d3)) :=
          fun W hb => ⟨hb, cell_mov q0 hb, cell_mov q1 hb, cell_mov g2 hb, cell_mov c0 hb, cell_mov c1 hb, cell_mov c2 hb⟩
        have HCE := Lib.hid hcells
        clear hcall hyf hyl hfl hrel hnn hcells
        generalize (nodesW ts[i] (lastN (isB kk) (ts.drop (i + 1)) n)).foldl stepV ys = zs at *
        generalize lastN (isB kk) (ts.drop (i + 1)) n = nn at *
        generalize bindsI kk i ts.length = bi at *
        have hi0 : (0 : Int) ≤ (i : Int) := by omega
        have hi1 : (i : Int) < (ts.length : Int) := by omega
        go_upto_region 6 with fail
        go_region_held3 (fun W => (Below wr.heap.size wr W ∧ W.cell? ⟨w.heap.size, 0, none⟩ = some (.int .i64 kk) ∧ W.cell? ⟨w.heap.size, 1, none⟩ = some (.int .i64 hh) ∧ W.cell? ⟨w.heap.size, 2, none⟩ = some (.slice (some ad) ts.length c) ∧
            W.cell? (ad.add (i * 3)) = some (.int .i64 ts[i].k) ∧ W.cell? ⟨(ad.add (i * 3)).block, (ad.add (i * 3)).off + 1, none⟩ = some (.int .i64 ts[i].h) ∧ W.cell? ⟨(ad.add (i * 3)).block, (ad.add (i * 3)).off + 2, none⟩ = some (.slice B3 ts[i].a.length d3)))
          ((refine HCE.out _ ?_; first | exact bl_then (bl_undrew hx1) hx3 | exact bl_undrew hx1 | exact bl_eta (Below.refl _ _)))
          (first
            | (go_at_call 16; refine (HBI.out _).mono ?_; rintro e w1 ⟨rfl, hx1⟩)
            | (go_at_call 36; refine (HI.out _ (bl_undrew hx1)).mono ?_; rintro e w3 ⟨⟨B4, d4, rfl, hr4⟩, hx3⟩))
        go_wp2_with fail
        have hb3 := bl_then (bl_undrew hx1) hx3
        refine ⟨⟨i + 1, by go_num, hlt, bl_then hbw hb3, hbk.mov hb3, zs, B4, d4, rfl, hr4, ?_, HF.out⟩, by simp [intOf]; omega⟩
        have h1 := HL.out
        have h2 := HFL.out
        omega
      · obtain rfl : i = ts.length := by have := hrel.le; omega
        have HF := Lib.hid hyf
        clear hyf hrel
        go_wp2_with fail
        go_ret
        have e : (nodesW ⟨kk, hh, ts⟩ n).foldl stepV out = ys := by rw [nodesW, HF.out]; simp [nodesL]
        rw [e]
        exact ⟨⟨B2, d2, rfl, hry⟩, hbw⟩
  · cases hge : decide (n ≤ hh)
    · have hst : stepV out (n, ⟨kk, hh, ts⟩) = out := if_neg (fun q => (of_decide_eq_false hge) q.2)
      have hrel0 : FoldRel stepV kk hh n A ts c out w 0 (.slice B out.length d) (w.alloc (.cells #[.int .i64 kk, .int .i64 hh, .slice A ts.length c] 30)) :=
        ⟨Nat.zero_le _, HB0.out, E0.out, out, B, d, rfl, HO.out, by rw [List.drop_zero]; omega, by rw [List.foldl_cons, hst]; rfl⟩
      have hrel1 := Lib.hid hrel0
      clear hrel0 hst HA HO
      go_enter Try.func36, Try.ntmps36
      go_wp2_with fail
      go_loopw [2, 7] (fun v j wr => ∃ i : Nat, j = .int .i64 i ∧ FoldRel stepV kk hh n A ts c out w i v wr) (fun _ j _ => ts.length - (intOf j).toNat)
      case atStart => exact ⟨0, rfl, hrel1.out⟩
      case round =>
        clear hrel1
        obtain ⟨i, rfl, hrel⟩ := hrel
        obtain ⟨ys, B2, d2, rfl, hry, hyl, hyf⟩ := hrel.out
        have hbw := hrel.below
        have hbk := hrel.blk
        have g2 := hbk.cell 2
        by_cases hlt : i < ts.length
        · obtain ⟨ad, B3, d3, rfl, -, c0, c1, c2, hd, hsub⟩ := (hr.mov hbw).at hlt
          rw [nodesL_at _ hlt, List.foldl_append] at hyf
          rw [cntL_at hlt] at hyl
          have hcp := cnt_pos ts[i]
          have hcall : ∀ W, Below wr.heap.size wr W → Calls Try.prog 36 #[.agg #[.int .i64 ts[i].k, .int .i64 ts[i].h, .slice B3 ts[i].a.length d3], .int .i64 (lastN (isB kk) (ts.drop (i + 1)) n), .slice B2 ys.length d2] W (RetS ((nodesW ts[i] (lastN (isB kk) (ts.drop (i + 1)) n)).foldl stepV ys) W) :=
            fun W hb => IH.out ts[i] (List.getElem_mem hlt) B3 d3 _ ys B2 d2 W (hsub.mov hb) hd (hry.mov hb) (by omega) (lastN_in hn)
          have hfl := fold_len stepV_len (nodesW ts[i] (lastN (isB kk) (ts.drop (i + 1)) n)) ys
          rw [nodesW_len] at hfl
          have HI := Lib.hid hcall
          have HF := Lib.hid hyf
          have HL := Lib.hid hyl
          have HFL := Lib.hid hfl
          have hnn := lastN_binds (kk := kk) hlt hn
          have hw1 : IntKind.i64.wrap (n + bindsI kk i ts.length) = lastN (isB kk) (ts.drop (i + 1)) n := (IntWalk.i64_left _).trans hnn
          have HBI : Hid (∀ W : World, Calls Try.prog 16 #[.agg #[.int .i64 kk, .int .i64 hh, .slice (some ad) ts.length c], .int .i64 (i : Int)] W fun e w' => e = .returned (.int .i64 (bindsI kk i ts.length)) ∧ Below W.heap.size W w') :=
            fun W => Binds_calls kk hh (some ad) ts.length c i W hll
          have q0 := hbk.cell 0
          have q1 := hbk.cell 1
          have hcells : ∀ W : World, Below wr.heap.size wr W → (Below wr.heap.size wr W ∧ W.cell? ⟨w.heap.size, 0, none⟩ = some (.int .i64 kk) ∧ W.cell? ⟨w.heap.size, 1, none⟩ = some (.int .i64 hh) ∧ W.cell? ⟨w.heap.size, 2, none⟩ = some (.slice (some ad) ts.length c) ∧
            W.cell? (ad.add (i * 3)) = some (.int .i64 ts[i].k) ∧ W.cell? ⟨(ad.add (i * 3)).block, (ad.add (i * 3)).off + 1, none⟩ = some (.int .i64 ts[i].h) ∧ W.cell? ⟨(ad.add (i * 3)).block, (ad.add (i * 3)).off + 2, none⟩ = some (.slice B3 ts[i].a.length d3)) :=
            fun W hb => ⟨hb, cell_mov q0 hb, cell_mov q1 hb, cell_mov g2 hb, cell_mov c0 hb, cell_mov c1 hb, cell_mov c2 hb⟩
          have HCE := Lib.hid hcells
          clear hcall hyf hyl hfl hrel hnn hcells
          generalize (nodesW ts[i] (lastN (isB kk) (ts.drop (i + 1)) n)).foldl stepV ys = zs at *
          generalize lastN (isB kk) (ts.drop (i + 1)) n = nn at *
          generalize bindsI kk i ts.length = bi at *
          have hi0 : (0 : Int) ≤ (i : Int) := by omega
          have hi1 : (i : Int) < (ts.length : Int) := by omega
          go_upto_region 6 with fail
          go_region_held3 (fun W => (Below wr.heap.size wr W ∧ W.cell? ⟨w.heap.size, 0, none⟩ = some (.int .i64 kk) ∧ W.cell? ⟨w.heap.size, 1, none⟩ = some (.int .i64 hh) ∧ W.cell? ⟨w.heap.size, 2, none⟩ = some (.slice (some ad) ts.length c) ∧
              W.cell? (ad.add (i * 3)) = some (.int .i64 ts[i].k) ∧ W.cell? ⟨(ad.add (i * 3)).block, (ad.add (i * 3)).off + 1, none⟩ = some (.int .i64 ts[i].h) ∧ W.cell? ⟨(ad.add (i * 3)).block, (ad.add (i * 3)).off + 2, none⟩ = some (.slice B3 ts[i].a.length d3)))
            ((refine HCE.out _ ?_; first | exact bl_then (bl_undrew hx1) hx3 | exact bl_undrew hx1 | exact bl_eta (Below.refl _ _)))
            (first
              | (go_at_call 16; refine (HBI.out _).mono ?_; rintro e w1 ⟨rfl, hx1⟩)
              | (go_at_call 36; refine (HI.out _ (bl_undrew hx1)).mono ?_; rintro e w3 ⟨⟨B4, d4, rfl, hr4⟩, hx3⟩))
          go_wp2_with fail
          have hb3 := bl_then (bl_undrew hx1) hx3
          refine ⟨⟨i + 1, by go_num, hlt, bl_then hbw hb3, hbk.mov hb3, zs, B4, d4, rfl, hr4, ?_, HF.out⟩, by simp [intOf]; omega⟩
          have h1 := HL.out
          have h2 := HFL.out
          omega
        · obtain rfl : i = ts.length := by have := hrel.le; omega
          have HF := Lib.hid hyf
          clear hyf hrel
          go_wp2_with fail
          go_ret
          have e : (nodesW ⟨kk, hh, ts⟩ n).foldl stepV out = ys := by rw [nodesW, HF.out]; simp [nodesL]
          rw [e]
          exact ⟨⟨B2, d2, rfl, hry⟩, hbw⟩
    · have hst : stepV out (n, ⟨kk, hh, ts⟩) = addL out (wrap64 (hh - n)) := if_pos ⟨by simpa using h4, of_decide_eq_true hge⟩
      have HST := Lib.hid hst
      clear hst
      go_enter Try.func36, Try.ntmps36
      go_wp2_with (go_at_call 52; refine HA.out.mono ?_; clear HA; rintro e w1 ⟨⟨B1, c1, rfl, hc1, hr1⟩, hb1⟩)
      have hrel0 : FoldRel stepV kk hh n A ts c out w 0 (.slice B1 (addL out (wrap64 (hh - n))).length c1) w1 :=
        ⟨Nat.zero_le _, bl_then HB0.out hb1, E0.out.mov hb1, _, B1, c1, rfl, hr1, by have := addL_len out (wrap64 (hh - n)); rw [List.drop_zero]; omega, by rw [List.foldl_cons, HST.out]; rfl⟩
      have hrel1 := Lib.hid hrel0
      clear hrel0 HO
      go_loopw [2, 7] (fun v j wr => ∃ i : Nat, j = .int .i64 i ∧ FoldRel stepV kk hh n A ts c out w i v wr) (fun _ j _ => ts.length - (intOf j).toNat)
      case atStart => exact ⟨0, rfl, hrel1.out⟩
      case round =>
        clear hrel1
        obtain ⟨i, rfl, hrel⟩ := hrel
        obtain ⟨ys, B2, d2, rfl, hry, hyl, hyf⟩ := hrel.out
        have hbw := hrel.below
        have hbk := hrel.blk
        have g2 := hbk.cell 2
        by_cases hlt : i < ts.length
        · obtain ⟨ad, B3, d3, rfl, -, c0, c1, c2, hd, hsub⟩ := (hr.mov hbw).at hlt
          rw [nodesL_at _ hlt, List.foldl_append] at hyf
          rw [cntL_at hlt] at hyl
          have hcp := cnt_pos ts[i]
          have hcall : ∀ W, Below wr.heap.size wr W → Calls Try.prog 36 #[.agg #[.int .i64 ts[i].k, .int .i64 ts[i].h, .slice B3 ts[i].a.length d3], .int .i64 (lastN (isB kk) (ts.drop (i + 1)) n), .slice B2 ys.length d2] W (RetS ((nodesW ts[i] (lastN (isB kk) (ts.drop (i + 1)) n)).foldl stepV ys) W) :=
            fun W hb => IH.out ts[i] (List.getElem_mem hlt) B3 d3 _ ys B2 d2 W (hsub.mov hb) hd (hry.mov hb) (by omega) (lastN_in hn)
          have hfl := fold_len stepV_len (nodesW ts[i] (lastN (isB kk) (ts.drop (i + 1)) n)) ys
          rw [nodesW_len] at hfl
          have HI := Lib.hid hcall
          have HF := Lib.hid hyf
          have HL := Lib.hid hyl
          have HFL := Lib.hid hfl
          have hnn := lastN_binds (kk := kk) hlt hn
          have hw1 : IntKind.i64.wrap (n + bindsI kk i ts.length) = lastN (isB kk) (ts.drop (i + 1)) n := (IntWalk.i64_left _).trans hnn
          have HBI : Hid (∀ W : World, Calls Try.prog 16 #[.agg #[.int .i64 kk, .int .i64 hh, .slice (some ad) ts.length c], .int .i64 (i : Int)] W fun e w' => e = .returned (.int .i64 (bindsI kk i ts.length)) ∧ Below W.heap.size W w') :=
            fun W => Binds_calls kk hh (some ad) ts.length c i W hll
          have q0 := hbk.cell 0
          have q1 := hbk.cell 1
          have hcells : ∀ W : World, Below wr.heap.size wr W → (Below wr.heap.size wr W ∧ W.cell? ⟨w.heap.size, 0, none⟩ = some (.int .i64 kk) ∧ W.cell? ⟨w.heap.size, 1, none⟩ = some (.int .i64 hh) ∧ W.cell? ⟨w.heap.size, 2, none⟩ = some (.slice (some ad) ts.length c) ∧
            W.cell? (ad.add (i * 3)) = some (.int .i64 ts[i].k) ∧ W.cell? ⟨(ad.add (i * 3)).block, (ad.add (i * 3)).off + 1, none⟩ = some (.int .i64 ts[i].h) ∧ W.cell? ⟨(ad.add (i * 3)).block, (ad.add (i * 3)).off + 2, none⟩ = some (.slice B3 ts[i].a.length d3)) :=
            fun W hb => ⟨hb, cell_mov q0 hb, cell_mov q1 hb, cell_mov g2 hb, cell_mov c0 hb, cell_mov c1 hb, cell_mov c2 hb⟩
          have HCE := Lib.hid hcells
          clear hcall hyf hyl hfl hrel hnn hcells
          generalize (nodesW ts[i] (lastN (isB kk) (ts.drop (i + 1)) n)).foldl stepV ys = zs at *
          generalize lastN (isB kk) (ts.drop (i + 1)) n = nn at *
          generalize bindsI kk i ts.length = bi at *
          have hi0 : (0 : Int) ≤ (i : Int) := by omega
          have hi1 : (i : Int) < (ts.length : Int) := by omega
          go_upto_region 6 with fail
          go_region_held3 (fun W => (Below wr.heap.size wr W ∧ W.cell? ⟨w.heap.size, 0, none⟩ = some (.int .i64 kk) ∧ W.cell? ⟨w.heap.size, 1, none⟩ = some (.int .i64 hh) ∧ W.cell? ⟨w.heap.size, 2, none⟩ = some (.slice (some ad) ts.length c) ∧
              W.cell? (ad.add (i * 3)) = some (.int .i64 ts[i].k) ∧ W.cell? ⟨(ad.add (i * 3)).block, (ad.add (i * 3)).off + 1, none⟩ = some (.int .i64 ts[i].h) ∧ W.cell? ⟨(ad.add (i * 3)).block, (ad.add (i * 3)).off + 2, none⟩ = some (.slice B3 ts[i].a.length d3)))
            ((refine HCE.out _ ?_; first | exact bl_then (bl_undrew hx1) hx3 | exact bl_undrew hx1 | exact bl_eta (Below.refl _ _)))
            (first
              | (go_at_call 16; refine (HBI.out _).mono ?_; rintro e w1 ⟨rfl, hx1⟩)
              | (go_at_call 36; refine (HI.out _ (bl_undrew hx1)).mono ?_; rintro e w3 ⟨⟨B4, d4, rfl, hr4⟩, hx3⟩))
          go_wp2_with fail
          have hb3 := bl_then (bl_undrew hx1) hx3
          refine ⟨⟨i + 1, by go_num, hlt, bl_then hbw hb3, hbk.mov hb3, zs, B4, d4, rfl, hr4, ?_, HF.out⟩, by simp [intOf]; omega⟩
          have h1 := HL.out
          have h2 := HFL.out
          omega
        · obtain rfl : i = ts.length := by have := hrel.le; omega
          have HF := Lib.hid hyf
          clear hyf hrel
          go_wp2_with fail
          go_ret
          have e : (nodesW ⟨kk, hh, ts⟩ n).foldl stepV out = ys := by rw [nodesW, HF.out]; simp [nodesL]
          rw [e]
          exact ⟨⟨B2, d2, rfl, hry⟩, hbw⟩

set_option maxHeartbeats 1000000 in
theorem VarsR_calls (t : Tm) (A : Option Addr) (c : Nat) (w : World) (hr : Reads (fun _ => False) w A t.a) (hc : t.a.length ≤ c) (hl : cnt t + 2 ≤ limI) :
    Calls Try.prog 18 #[.agg #[.int .i64 t.k, .int .i64 t.h, .slice A t.a.length c]] w (RetS ((nodesW t 0).foldl stepV []) w) := by
  have hb0 : Below w.heap.size w (w.alloc (.cells #[.int .i64 t.k, .int .i64 t.h, .slice A t.a.length c] 30)) := bl_alloc (Below.refl _ _) _
  have HC := Lib.hid (vars_calls t A c 0 [] none 0 _ (hr.mov hb0) hc ⟨Nat.zero_le _, fun i hi => absurd hi (Nat.not_lt_zero i)⟩ (by simpa using hl) (by unfold inI; omega))
  have HB0 := Lib.hid hb0
  clear hb0
  generalize (nodesW t 0).foldl stepV [] = zs at *
  go_enter Try.func18, Try.ntmps18
  go_wp2_with (go_at_call 36; refine HC.out.mono ?_; clear HC; rintro e w1 ⟨⟨B1, c1, rfl, hr1⟩, hb1⟩)
  go_ret
  exact ⟨⟨B1, c1, rfl, hr1⟩, bl_then HB0.out hb1⟩
set_option maxHeartbeats 1000000 in
theorem MetasR_calls (t : Tm) (A : Option Addr) (c : Nat) (w : World) (hr : Reads (fun _ => False) w A t.a) (hc : t.a.length ≤ c) (hl : cnt t + 2 ≤ limI) :
    Calls Try.prog 20 #[.agg #[.int .i64 t.k, .int .i64 t.h, .slice A t.a.length c]] w (RetS ((nodesW t 0).foldl stepM []) w) := by
  have hb0 : Below w.heap.size w (w.alloc (.cells #[.int .i64 t.k, .int .i64 t.h, .slice A t.a.length c] 30)) := bl_alloc (Below.refl _ _) _
  have HC := Lib.hid (heads_calls t A c 0 [] none 0 _ (hr.mov hb0) hc ⟨Nat.zero_le _, fun i hi => absurd hi (Nat.not_lt_zero i)⟩ (by simpa using hl))
  have HB0 := Lib.hid hb0
  clear hb0
  generalize (nodesW t 0).foldl stepM [] = zs at *
  go_enter Try.func20, Try.ntmps20
  go_wp2_with (go_at_call 38; refine HC.out.mono ?_; clear HC; rintro e w1 ⟨⟨B1, c1, rfl, hr1⟩, hb1⟩)
  go_ret
  exact ⟨⟨B1, c1, rfl, hr1⟩, bl_then HB0.out hb1⟩
end Go.Proofs.Ytjpnlmlckmhcaaa
