/- The law OccurTells. -/
import Derived.Test.YtjpnlmlckmhcaaaO8
import Derived.Test.YtjpnlmlckmhcaaaO11
import Derived.Test.YtjpnlmlckmhcaaaO12
namespace Go.Proofs.Ytjpnlmlckmhcaaa
open Go.RowKit Go.Shelf

theorem Vars_ret (t : Tm) (A : Option Addr) (c : Nat) (w : World) (hr : Reads (fun _ => False) w A t.a) (hc : t.a.length ≤ c) (hk : okT t) (hn : cnt t ≤ 1048576) :
    Calls Try.prog 17 #[.agg #[.int .i64 t.k, .int .i64 t.h, .slice A t.a.length c]] w (RetS ((nodesW t 0).foldl stepV []) w) :=
  (Vars_calls t A c w hr hc hk (by unfold limI; omega)).mono fun e w' ⟨⟨l, B, c', h1, _, _, h4, h5, h6⟩, hb⟩ => by
    have hf := foldV_rise (nodesW t 0) [] List.Pairwise.nil
    obtain rfl : l = (nodesW t 0).foldl stepV [] := rise_unique h5 hf.1 fun x => (h6 x).trans ((hf.2 x).trans (by simp)).symm
    exact ⟨⟨B, c', h1, h4⟩, hb⟩
theorem Metas_ret (t : Tm) (A : Option Addr) (c : Nat) (w : World) (hr : Reads (fun _ => False) w A t.a) (hc : t.a.length ≤ c) (hk : okT t) (hn : cnt t ≤ 1048576) :
    Calls Try.prog 19 #[.agg #[.int .i64 t.k, .int .i64 t.h, .slice A t.a.length c]] w (RetS ((nodesW t 0).foldl stepM []) w) :=
  (Metas_calls t A c w hr hc hk (by unfold limI; omega)).mono fun e w' ⟨⟨l, B, c', h1, _, _, h4, h5, h6⟩, hb⟩ => by
    have hf := foldM_rise (nodesW t 0) [] List.Pairwise.nil
    obtain rfl : l = (nodesW t 0).foldl stepM [] := rise_unique h5 hf.1 fun x => (h6 x).trans ((hf.2 x).trans (by simp)).symm
    exact ⟨⟨B, c', h1, h4⟩, hb⟩

set_option maxHeartbeats 8000000 in
theorem OccurTells_calls (t : Tm) (A : Option Addr) (c : Nat) (n : Int) (w : World) (hr : Reads (fun _ => False) w A t.a) (hc : t.a.length ≤ c) (hk : okT t) (hcn : cnt t ≤ 1048576) (hn : inI n) :
    Calls Try.prog 5 #[.agg #[.int .i64 t.k, .int .i64 t.h, .slice A t.a.length c], .int .i64 n] w fun e w' => e = .returned (.bool true) ∧ Below w.heap.size w w' := by
  have hb0 : Below w.heap.size w (w.alloc (.cells #[.int .i64 t.k, .int .i64 t.h, .slice A t.a.length c] 30)) := bl_alloc (Below.refl _ _) _
  have e0 := Blk.new w #[.int .i64 t.k, .int .i64 t.h, .slice A t.a.length c] 30
  have HB0 := Lib.hid hb0
  have E0 := Lib.hid e0
  have HL := Lib.hid (fun (W : World) (hb : Below w.heap.size w W) => Light_calls t A c 3000 200 W (hr.mov hb) hc)
  have HVV := Lib.hid (fun (W : World) (hb : Below w.heap.size w W) => Vars_ret t A c W (hr.mov hb) hc hk hcn)
  have HVR := Lib.hid (fun (W : World) (hb : Below w.heap.size w W) => VarsR_calls t A c W (hr.mov hb) hc (by unfold limI; omega))
  have HMM := Lib.hid (fun (W : World) (hb : Below w.heap.size w W) => Metas_ret t A c W (hr.mov hb) hc hk hcn)
  have HMR := Lib.hid (fun (W : World) (hb : Below w.heap.size w W) => MetasR_calls t A c W (hr.mov hb) hc (by unfold limI; omega))
  have HPR := Lib.hid (fun (W : World) (hb : Below w.heap.size w W) => PatternsR_calls t A c n W (hr.mov hb) hc hn)
  have HPP := Lib.hid (fun (W : World) (hb : Below w.heap.size w W) => Patterns_calls t A c n W (hr.mov hb) hc)
  clear hb0 e0
  generalize lightB t 3000 200 = lb at *
  generalize (nodesW t 0).foldl stepV [] = vs at *
  generalize (nodesW t 0).foldl stepM [] = ms at *
  generalize patsB t n = pb at *
  go_enter Try.func5, Try.ntmps5
  go_upto_region 5 with (first
    | (go_at_call 10; refine (awake5_calls _).mono ?_; rintro e w1 ⟨rfl, hb1⟩; have p := E0.out.mov hb1; have p0 := p.cell 0; have p1 := p.cell 1; have p2 := p.cell 2; clear p)
    | (go_at_call 14; refine (HL.out _ (bl_then HB0.out hb1)).mono ?_; clear HL; rintro e w2 ⟨rfl, hb2⟩; have hb := bl_then hb1 hb2; clear p0 p1 p2))
  · go_ret
    exact ⟨rfl, bl_then HB0.out hb⟩
  rotate_left
  · go_ret
    exact ⟨rfl, bl_then HB0.out hb⟩
  have hbw := bl_then HB0.out hb
  have EX := Lib.hid (E0.out.mov hb)
  have hcells : ∀ W : World, Below w2.heap.size w2 W → (Below w2.heap.size w2 W ∧ W.cell? ⟨w.heap.size, 0, none⟩ = some (.int .i64 t.k) ∧ W.cell? ⟨w.heap.size, 1, none⟩ = some (.int .i64 t.h) ∧ W.cell? ⟨w.heap.size, 2, none⟩ = some (.slice A t.a.length c)) :=
    fun W hb => ⟨hb, (EX.out.mov hb).cell 0, (EX.out.mov hb).cell 1, (EX.out.mov hb).cell 2⟩
  have HCE := Lib.hid hcells
  have HV : Hid (∀ W, Below w2.heap.size w2 W → _) := Lib.hid (fun W hb => HVV.out W (bl_then hbw hb))
  have HW : Hid (∀ W, Below w2.heap.size w2 W → _) := Lib.hid (fun W hb => HVR.out W (bl_then hbw hb))
  clear hcells
  go_cut [7] (fun s wy => s = .bool true ∧ Below w2.heap.size w2 wy)
  case first =>
    go_region_held3 (fun W => (Below w2.heap.size w2 W ∧ W.cell? ⟨w.heap.size, 0, none⟩ = some (.int .i64 t.k) ∧ W.cell? ⟨w.heap.size, 1, none⟩ = some (.int .i64 t.h) ∧ W.cell? ⟨w.heap.size, 2, none⟩ = some (.slice A t.a.length c)))
      ((refine HCE.out _ ?_; first | exact hs3 | exact hs2 | exact hs1 | exact bl_eta (Below.refl _ _)))
      (first
        | (go_at_call 17; refine (HV.out _ (‹Below w2.heap.size w2 _ ∧ _›).1).mono ?_; rintro e wa ⟨⟨B1, c1, rfl, hr1⟩, hx1⟩; have hs1 := bl_then (‹Below w2.heap.size w2 _ ∧ _›).1 hx1; (try (have hr2' := hr2.mov hx1)))
        | (go_at_call 18; refine (HW.out _ (‹Below w2.heap.size w2 _ ∧ _›).1).mono ?_; rintro e wb ⟨⟨B2, c2, rfl, hr2⟩, hx2⟩; have hs2 := bl_then (‹Below w2.heap.size w2 _ ∧ _›).1 hx2; (try (have hr1' := hr1.mov hx2)))
        | (go_at_call 13; refine (Ints_calls _ _ B1 B2 c1 c2 _ (by first | exact hr1' | exact hr1) (by first | exact hr2' | exact hr2)).mono ?_; rintro e wd ⟨rfl, hx3⟩; rw [decide_eq_true rfl]; have hs3 := bl_then (‹Below w2.heap.size w2 _ ∧ _›).1 hx3))
    all_goals
      go_wp2_with fail
      go_meet
      exact ⟨rfl, hs3⟩
  case rest =>
    obtain ⟨rfl, hwx⟩ := hcut
    have hbv := bl_then hbw hwx
    have EY := Lib.hid (EX.out.mov hwx)
    obtain ⟨wv, hwv⟩ : ∃ wv, wc = wv := ⟨_, rfl⟩
    subst hwv
    have hcells2 : ∀ W : World, Below wc.heap.size wc W → (Below wc.heap.size wc W ∧ W.cell? ⟨w.heap.size, 0, none⟩ = some (.int .i64 t.k) ∧ W.cell? ⟨w.heap.size, 1, none⟩ = some (.int .i64 t.h) ∧ W.cell? ⟨w.heap.size, 2, none⟩ = some (.slice A t.a.length c)) :=
      fun W hb => ⟨hb, (EY.out.mov hb).cell 0, (EY.out.mov hb).cell 1, (EY.out.mov hb).cell 2⟩
    have HCE2 := Lib.hid hcells2
    have HV2 : Hid (∀ W, Below wc.heap.size wc W → _) := Lib.hid (fun W hb => HMM.out W (bl_then hbv hb))
    have HW2 : Hid (∀ W, Below wc.heap.size wc W → _) := Lib.hid (fun W hb => HMR.out W (bl_then hbv hb))
    clear hcells2 HCE HV HW
    go_upto_region 6 with fail
    go_cut [8] (fun s wy => s = .bool true ∧ Below wc.heap.size wc wy)
    case first =>
      go_region_held3 (fun W => (Below wc.heap.size wc W ∧ W.cell? ⟨w.heap.size, 0, none⟩ = some (.int .i64 t.k) ∧ W.cell? ⟨w.heap.size, 1, none⟩ = some (.int .i64 t.h) ∧ W.cell? ⟨w.heap.size, 2, none⟩ = some (.slice A t.a.length c)))
        ((refine HCE2.out _ ?_; first | exact hs3 | exact hs2 | exact hs1 | exact bl_eta (Below.refl _ _)))
        (first
          | (go_at_call 19; refine (HV2.out _ (‹Below wc.heap.size wc _ ∧ _›).1).mono ?_; rintro e wa ⟨⟨B1, c1, rfl, hr1⟩, hx1⟩; have hs1 := bl_then (‹Below wc.heap.size wc _ ∧ _›).1 hx1; (try (have hr2' := hr2.mov hx1)))
          | (go_at_call 20; refine (HW2.out _ (‹Below wc.heap.size wc _ ∧ _›).1).mono ?_; rintro e wb ⟨⟨B2, c2, rfl, hr2⟩, hx2⟩; have hs2 := bl_then (‹Below wc.heap.size wc _ ∧ _›).1 hx2; (try (have hr1' := hr1.mov hx2)))
          | (go_at_call 13; refine (Ints_calls _ _ B1 B2 c1 c2 _ (by first | exact hr1' | exact hr1) (by first | exact hr2' | exact hr2)).mono ?_; rintro e wd ⟨rfl, hx3⟩; rw [decide_eq_true rfl]; have hs3 := bl_then (‹Below wc.heap.size wc _ ∧ _›).1 hx3))
      all_goals
        go_wp2_with fail
        go_meet
        exact ⟨rfl, hs3⟩
    case rest =>
      obtain ⟨rfl, hwx⟩ := hcut
      have hbz := bl_then hbv hwx
      have z := EY.out.mov hwx
      have z0 := z.cell 0
      have z1 := z.cell 1
      have z2 := z.cell 2
      have HZ := Lib.hid z
      clear z
      go_wp2_with (first
        | (go_at_call 21; refine (HPR.out _ hbz).mono ?_; clear HPR; rintro e w7 ⟨rfl, hb7⟩; have hb8 := bl_then hbz hb7; have y := HZ.out.mov hb7; have y0 := y.cell 0; have y1 := y.cell 1; have y2 := y.cell 2; clear y z0 z1 z2)
        | (go_at_call 15; refine (HPP.out _ hb8).mono ?_; clear HPP; rintro e w8 ⟨rfl, hb9⟩))
      go_ret
      exact ⟨by simp, bl_then hb8 hb9⟩

theorem OccurTells_row (w : World) (t : Tm) (A : Option Addr) (c : Nat) (hr : Reads (fun _ => False) w A t.a) (hc : t.a.length ≤ c) (g : okT t) (n : Int) (hn : -9223372036854775808 ≤ n ∧ n ≤ 9223372036854775807) (hcn : cnt t ≤ 1048576) :
    Calls Try.prog 5 #[.agg #[.int .i64 t.k, .int .i64 t.h, .slice A t.a.length c], .int .i64 n] w fun e w' => e = .returned (.bool true) ∧ Below w.heap.size w w' :=
  OccurTells_calls t A c n w hr hc g hcn hn
end Go.Proofs.Ytjpnlmlckmhcaaa
