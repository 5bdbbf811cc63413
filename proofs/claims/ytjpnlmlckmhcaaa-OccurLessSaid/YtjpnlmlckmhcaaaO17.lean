/- The law OccurLess. -/
import Derived.Test.YtjpnlmlckmhcaaaO8
import Derived.Test.YtjpnlmlckmhcaaaOL
import Derived.Test.YtjpnlmlckmhcaaaBA
import Derived.IntWalk
namespace Go.Proofs.Ytjpnlmlckmhcaaa
open Go.RowKit Go.Shelf

theorem grown_below {w W : World} (h : w.grownBy W none) : Below w.heap.size w W := ⟨h.os, h.tape, h.output, h.size, fun i hi => h.block i hi (by simp)⟩

theorem Blk.drew {W : World} {g : Nat} {cs : Array Value} {t : TypeId} (h : Blk W g cs t) : Blk W.drew g cs t := h
theorem reads_one {S : Nat → Prop} {W : World} {g : Nat} {t : Tm} {B : Option Addr} {d : Nat} (h : Blk W g #[.int .i64 t.k, .int .i64 t.h, .slice B t.a.length d] 30) (hs : ¬ S g) (hr : Reads S W B t.a) (hd : t.a.length ≤ d) : Reads S W (some ⟨g, 0, none⟩) [t] :=
  .row g 0 [t] (fun _ => B) (fun _ => d) hs (by simp [lim]) (fun i hi => by
    have : i = 0 := by simp at hi; omega
    subst this
    exact ⟨h.cell 0, h.cell 1, h.cell 2, hd⟩) (fun i hi => by
    have : i = 0 := by simp at hi; omega
    subst this
    exact hr)

theorem nodes_one {t : Tm} (h : t.a = []) : wrap64 ((nodesW t 0).length : Int) = 1 := by
  obtain ⟨k, h0, a⟩ := t
  obtain rfl : a = [] := h
  rw [nodesW]
  simp [nodesL, wrap64]

set_option maxHeartbeats 8000000 in
set_option maxRecDepth 100000 in
theorem OccurLess_row (w : World) (ts : List Tm) (A : Option Addr) (c : Nat) (hr : Reads (fun _ => False) w A ts) (hc : ts.length ≤ c) (_ : okL ts) (below : Int) (hbe : -9223372036854775808 ≤ below ∧ below ≤ 9223372036854775807)
    (k : Int) (hki : -9223372036854775808 ≤ k ∧ k ≤ 9223372036854775807) (more : Int) (hmo : -9223372036854775808 ≤ more ∧ more ≤ 9223372036854775807) :
    Calls Try.prog 7 #[.slice A ts.length c, .int .i64 below, .int .i64 k, .int .i64 more] w fun e w' => e = .returned (.bool true) ∧ Below w.heap.size w w' := by
  have hlen := hr.len
  unfold lim at hlen
  have HP := Lib.hid (fun W (hb : Below w.heap.size w W) => Pattern_calls ts A c below W (hr.mov hb))
  obtain ⟨pv, hpv⟩ : ∃ pv, patV ts below = pv := ⟨_, rfl⟩
  rw [hpv] at HP
  rcases Nat.lt_or_ge 60 ts.length with h60 | h60
  · skip
    clear hpv
    go_enter Try.func7, Try.ntmps7
    go_wp2_with (first
      | (go_at_call 10; refine (awake5_calls _).mono ?_; rintro e w1 ⟨rfl, hb1⟩)
      | (go_at_call 11; refine (HP.out _ hb1).mono ?_; clear HP; rintro e w2 hre; obtain ⟨vs, B2, c2, rfl, -, -, hb2⟩ := hre.u; clear hre; have hw2 := bl_then hb1 hb2))
    go_ret
    exact ⟨rfl, hw2⟩
  cases pv with
  | none =>
    clear hpv
    go_enter Try.func7, Try.ntmps7
    go_wp2_with (first
      | (go_at_call 10; refine (awake5_calls _).mono ?_; rintro e w1 ⟨rfl, hb1⟩)
      | (go_at_call 11; refine (HP.out _ hb1).mono ?_; clear HP; rintro e w2 hre; obtain ⟨vs, B2, c2, rfl, -, -, hb2⟩ := hre.u; clear hre; have hw2 := bl_then hb1 hb2))
    go_ret
    exact ⟨rfl, hw2⟩
  | some vs =>
  rcases Int.lt_or_le k 0 with hk0 | hk0
  · skip
    clear hpv
    go_enter Try.func7, Try.ntmps7
    go_wp2_with (first
      | (go_at_call 10; refine (awake5_calls _).mono ?_; rintro e w1 ⟨rfl, hb1⟩)
      | (go_at_call 11; refine (HP.out _ hb1).mono ?_; clear HP; rintro e w2 hre; obtain ⟨vs, B2, c2, rfl, -, -, hb2⟩ := hre.u; clear hre; have hw2 := bl_then hb1 hb2))
    go_ret
    exact ⟨rfl, hw2⟩
  rcases Int.lt_or_le k ts.length with hkl | hkl
  rotate_left
  · skip
    clear hpv
    go_enter Try.func7, Try.ntmps7
    go_wp2_with (first
      | (go_at_call 10; refine (awake5_calls _).mono ?_; rintro e w1 ⟨rfl, hb1⟩)
      | (go_at_call 11; refine (HP.out _ hb1).mono ?_; clear HP; rintro e w2 hre; obtain ⟨vs, B2, c2, rfl, -, -, hb2⟩ := hre.u; clear hre; have hw2 := bl_then hb1 hb2))
    go_ret
    exact ⟨rfl, hw2⟩
  rcases Int.lt_or_le more 0 with hm0 | hm0
  · skip
    clear hpv
    go_enter Try.func7, Try.ntmps7
    go_wp2_with (first
      | (go_at_call 10; refine (awake5_calls _).mono ?_; rintro e w1 ⟨rfl, hb1⟩)
      | (go_at_call 11; refine (HP.out _ hb1).mono ?_; clear HP; rintro e w2 hre; obtain ⟨vs, B2, c2, rfl, -, -, hb2⟩ := hre.u; clear hre; have hw2 := bl_then hb1 hb2))
    go_ret
    exact ⟨rfl, hw2⟩
  rcases Int.lt_or_le 1000 more with hm1 | hm1
  · skip
    clear hpv
    go_enter Try.func7, Try.ntmps7
    go_wp2_with (first
      | (go_at_call 10; refine (awake5_calls _).mono ?_; rintro e w1 ⟨rfl, hb1⟩)
      | (go_at_call 11; refine (HP.out _ hb1).mono ?_; clear HP; rintro e w2 hre; obtain ⟨vs, B2, c2, rfl, -, -, hb2⟩ := hre.u; clear hre; have hw2 := bl_then hb1 hb2))
    go_ret
    exact ⟨rfl, hw2⟩
  rcases Int.lt_or_le 1099511627776 below with hb40 | hb40
  · skip
    clear hpv
    go_enter Try.func7, Try.ntmps7
    go_wp2_with (first
      | (go_at_call 10; refine (awake5_calls _).mono ?_; rintro e w1 ⟨rfl, hb1⟩)
      | (go_at_call 11; refine (HP.out _ hb1).mono ?_; clear HP; rintro e w2 hre; obtain ⟨vs, B2, c2, rfl, -, -, hb2⟩ := hre.u; clear hre; have hw2 := bl_then hb1 hb2))
    go_ret
    exact ⟨rfl, hw2⟩
  obtain ⟨n, rfl⟩ : ∃ n : Nat, k = (n : Int) := ⟨k.toNat, by omega⟩
  have hnl : n < ts.length := by omega
  have hll : ts.length ≤ lim := by unfold lim; omega
  have htk : (ts.take n).length = n := by simp; omega
  have hvl := patV_len hpv
  have hp1 : ∀ W, Below w.heap.size w W → Calls Try.prog 11 #[.slice A n c, .int .i64 below] W (RetI (some (vs.take n)) W) := fun W hb => by
    have := Pattern_calls (ts.take n) A c below W ((hr.mov hb).take n)
    rw [htk, patV_take hpv] at this
    exact this
  have hp3 : ∀ W, Below w.heap.size w W → Calls Try.prog 11 #[.slice A ts.length c, .int .i64 (below + more)] W (RetI (some vs) W) := fun W hb => by
    have := Pattern_calls ts A c (below + more) W (hr.mov hb)
    rw [patV_more hpv hm0] at this
    exact this
  have hp2 : ∀ W (v2 : Value) base, Mine base (fun _ => False) W v2 (ts ++ [ts[n]]) → Calls Try.prog 11 #[v2, .int .i64 below] W (RetI none W) := fun W v2 base hm => by
    obtain ⟨A2, c2, rfl, _, hr2⟩ := hm.reads
    have := Pattern_calls (ts ++ [ts[n]]) A2 c2 below W hr2
    rw [patV_twice (List.getElem_mem hnl)] at this
    exact this
  have HP1 := Lib.hid hp1
  have HP2 := Lib.hid hp2
  have HP3 := Lib.hid hp3
  have HVL := Lib.hid hvl
  have hna := patV_node hpv (List.getElem_mem hnl)
  have HRN := Lib.hid (fun (S : Nat → Prop) (W : World) (B : Option Addr) => show Reads S W B ts[n].a by rw [hna]; exact .nil _)
  have HNA := Lib.hid hna
  have HPV := Lib.hid hpv
  clear hp1 hp2 hp3 hpv hna htk hvl
  have hn0 : (0 : Int) ≤ (n : Int) := by omega
  have hnc : (n : Int) ≤ (c : Int) := by omega
  have hsum : IntKind.i64.wrap (below + more) = below + more := IntWalk.i64_in _ (by omega)
  go_enter Try.func7, Try.ntmps7
  go_upto_region 6 with (first
    | (go_at_call 10; refine (awake5_calls _).mono ?_; rintro e w1 ⟨rfl, hb1⟩)
    | (go_at_call 11; (with_reducible refine (HP.out _ hb1).mono ?_); clear HP; rintro e w2 hre; obtain ⟨vs1, B2, c2, rfl, hvs1, hr2, hb2⟩ := hre.u; clear hre; obtain rfl : vs1 = vs := hvs1; have hw2 := bl_then hb1 hb2; have HR2 := Lib.hid hr2; clear hr2)
    | (go_at_call 11; (with_reducible refine (HP1.out _ hw2).mono ?_); clear HP1; rintro e w3 hre; obtain ⟨vs2, B3, c3, rfl, hvs2, hr3, hb3⟩ := hre.u; clear hre; have HV2 := Lib.hid hvs2; clear hvs2; have hw3 := bl_then hw2 hb3; have HR3 := Lib.hid hr3; clear hr3))
  obtain ⟨ad, B5, d5, rfl, -, x0, x1, x2, hd, hsub⟩ := (hr.mov hw3).at hnl
  have hrx := hr.mov hw3
  have hcells : ∀ W : World, Below w3.heap.size w3 W → (Below w3.heap.size w3 W ∧
    W.cell? (ad.add (n * 3)) = some (.int .i64 ts[n].k) ∧ W.cell? ⟨(ad.add (n * 3)).block, (ad.add (n * 3)).off + 1, none⟩ = some (.int .i64 ts[n].h) ∧ W.cell? ⟨(ad.add (n * 3)).block, (ad.add (n * 3)).off + 2, none⟩ = some (.slice B5 ts[n].a.length d5)) :=
    fun W hb => ⟨hb, cell_mov x0 hb, cell_mov x1 hb, cell_mov x2 hb⟩
  have HCE := Lib.hid hcells
  have HRX := Lib.hid hrx
  clear hcells hrx
  have hn1 : (n : Int) < (ts.length : Int) := by omega
  go_region_held3 (fun W => (Below w3.heap.size w3 W ∧
      W.cell? (ad.add (n * 3)) = some (.int .i64 ts[n].k) ∧ W.cell? ⟨(ad.add (n * 3)).block, (ad.add (n * 3)).off + 1, none⟩ = some (.int .i64 ts[n].h) ∧ W.cell? ⟨(ad.add (n * 3)).block, (ad.add (n * 3)).off + 2, none⟩ = some (.slice B5 ts[n].a.length d5)))
    ((refine HCE.out _ ?_; first | exact hw4 | exact hbb | exact hba | exact bl_alloc hba _ | exact bl_eta (Below.refl _ _) | exact (bl_alloc (Below.refl _ _) _).drew | exact (Below.refl _ _).drew))
    (first
      | (refine step_append_tms rfl (.const (.slice none 0 0)) (.tmp 69) rfl w3.heap.size (fun _ => False) (.slice none 0 0) [] ts (some ad) c (by rfl) (by rfl) (Mine.nil _ _ _) ((HRX.out.mov (‹Below w3.heap.size w3 _ ∧ _›).1).less fun k q => by simp [Value.ownBlock] at q) (fun k q => q.elim) (‹Below w3.heap.size w3 _ ∧ _›).1.size (by simpa using hll) ?_
         intro v1 wa hm1 hg1 hat1; have hba := bl_then (‹Below w3.heap.size w3 _ ∧ _›).1 (grown_below hg1))
      | (refine step_append_tms rfl (.tmp 70) (.tmp 75) rfl w3.heap.size (fun _ => False) v1 ([] ++ ts) [ts[n]] (some ⟨wa.heap.size, 0, none⟩) 1 (by rfl) (by rfl) (hm1.mov (bl_alloc (Below.refl _ _) _)) (reads_one (Blk.new wa _ _) (fun q => q.elim id fun q => Nat.lt_irrefl _ (hm1.lt _ q)) (HRN.out _ _ _) hd) (fun k q => q.elim) (‹Below w3.heap.size w3 _ ∧ _›).1.size (by simp only [List.nil_append, List.length_cons, List.length_nil]; unfold lim; omega) ?_
         intro v2 wb hm2 hg2 _; have hbb := bl_grown (‹Below w3.heap.size w3 _ ∧ _›).1 hg2 (fun k e => hm1.ge k e))
      | (refine step_append_tms rfl (.tmp 70) (.tmp 75) rfl w3.heap.size (fun _ => False) v1 ([] ++ ts) [ts[n]] (some ⟨w3.heap.size, 0, none⟩) 1 (by rfl) (by rfl) hm1 (reads_one (Blk.grown (Blk.drew (Blk.new _ _ _)) hg1 (by simp [Value.ownBlock])) (fun q => q.elim id fun q => by rcases hat1 with e | e <;> (rw [e] at q; simp [Value.ownBlock] at q)) (HRN.out _ _ _) hd) (fun k q => q.elim) (‹Below w3.heap.size w3 _ ∧ _›).1.size (by simp only [List.nil_append, List.length_cons, List.length_nil]; unfold lim; omega) ?_
         intro v2 wb hm2 hg2 _; have hbb := bl_grown (‹Below w3.heap.size w3 _ ∧ _›).1 hg2 (fun k e => hm1.ge k e))
      | (go_at_call 11; refine (HP2.out _ _ _ hm2).mono ?_; rintro e w4 hre; obtain ⟨vs3, B6, c6, rfl, hvs3, -, hb4⟩ := hre.u; clear hre hvs3; have hw4 := bl_then hbb hb4))
  all_goals
    have hww := bl_then hw3 hw4
    have HLV : Hid (vs2.length = n) := Lib.hid <| show vs2.length = n by
      have h1 : vs2 = vs1.take n := HV2.out
      have h2 : vs1.length = ts.length := HVL.out
      rw [h1, List.length_take, h2]
      omega
    have hl2 : (vs2.length : Int) = (n : Int) := by rw [HLV.out]
    have HS5 := Lib.hid (fun (W : World) (hb : Below w4.heap.size w4 W) => size_calls ts[n] B5 d5 W ((hsub.mov hw4).mov hb) hd)
    rw [nodes_one HNA.out] at HS5
    have X0 := Lib.hid (cell_mov x0 hw4)
    have X1 := Lib.hid (cell_mov x1 hw4)
    have X2 := Lib.hid (cell_mov x2 hw4)
    clear x0 x1 x2
    go_wp2_with (first
      | (go_at_call 11; refine (HP3.out _ hww).mono ?_; clear HP3; rintro e w5 hre; obtain ⟨vs5, B7, c7, rfl, hvs5, hr7, hb5⟩ := hre.u; clear hre; have e5 : vs1 = vs5 := hvs5.symm; subst e5; clear hvs5; have HR7 := Lib.hid hr7; clear hr7; have hw5 := bl_then hww hb5)
      | (go_at_call 13; refine (Ints_calls vs1 vs1 B2 B7 c2 c7 _ (((HR2.out.mov hb3).mov hw4).mov hb5) HR7.out).mono ?_; rintro e w6 ⟨rfl, hb6⟩; rw [decide_eq_true rfl]; have hw6 := bl_then hb5 hb6; have x0 := cell_mov X0.out hw6; have x1 := cell_mov X1.out hw6; have x2 := cell_mov X2.out hw6)
      | (go_at_call 23; refine (HS5.out _ hw6).mono ?_; clear HS5; rintro e w7 ⟨rfl, hb7⟩))
    go_ret
    exact ⟨by simp, bl_then hww (bl_then hw6 hb7)⟩
end Go.Proofs.Ytjpnlmlckmhcaaa
