/- The contracts of (*matching).variable and of the closure that known hands over. The contract of (*matching).known: a meta that is something already. -/
import Derived.Test.YtbmmdfehhhgkcaaGreatBD
import Derived.Test.YtbmmdfehhhgkcaaGreatT3
import Derived.Test.YtbmmdfehhhgkcaaGreatFW
import Derived.Test.YtbmmdfehhhgkcaaGreatCI
import Derived.Test.YtbmmdfehhhgkcaaGreatO7
import Derived.Deep.RegionHeld2
namespace Go.Proofs.YtbmmdfehhhgkcaaGreat
open Go.RowKit Go.Shelf
set_option linter.unusedVariables false
set_option linter.unusedSimpArgs false

/-- A row of truth values. -/
def RowBo (w : World) (A : Option Addr) (bs : List Bool) : Prop :=
  bs.length ≤ lim ∧ ∀ i, (hi : i < bs.length) → ∃ ad : Addr, A = some ad ∧ w.cell? (ad.add i) = some (.bool bs[i])
theorem RowBo.mov {w w' : World} {A : Option Addr} {bs : List Bool} (h : RowBo w A bs) (hb : Below w.heap.size w w') : RowBo w' A bs :=
  ⟨h.1, fun i hi => by obtain ⟨ad, e, hc⟩ := h.2 i hi; exact ⟨ad, e, cell_mov hc hb⟩⟩
def boolAt (bs : List Bool) (i : Int) : Bool := (bs[i.toNat]?).getD false
def variV (rigid : List Bool) (t : Tm) : Bool := if t.k = 6 then (decide (t.h < (rigid.length : Int)) && boolAt rigid t.h) else (decide (t.k = 4) && decide (t.a.length = 0))
theorem bl_drewNv {a w : World} (h : Below a.heap.size a w) (n : Nat) : Below a.heap.size a (w.drewN n) := ⟨h.os, h.tape, h.output, h.size, h.block⟩

set_option maxHeartbeats 4000000 in
theorem variable_calls (t : Tm) (A : Option Addr) (c gm : Nat) (v0 v1 : Value) (R : Option Addr) (cr : Nat) (rigid : List Bool) (w : World) (hm : Blk w gm #[v0, v1, .slice R rigid.length cr] 83) (hR : RowBo w R rigid) (h0 : t.k = 6 → 0 ≤ t.h) :
    Calls Tryz.prog 81 #[.pointer (some ⟨gm, 0, none⟩), .agg #[.int .i64 t.k, .int .i64 t.h, .slice A t.a.length c]] w fun e w' => e = .returned (.bool (variV rigid t)) ∧ Below w.heap.size w w' := by
  obtain ⟨k, h, a⟩ := t
  dsimp only at h0 ⊢
  have q2 := hm.cell 2
  have ql := hm.lt
  have hlr := hR.1
  unfold lim at hlr
  by_cases h6 : k = 6
  · subst h6
    have hh0 := h0 rfl
    obtain ⟨j, rfl⟩ := Int.eq_ofNat_of_zero_le hh0
    by_cases hj : j < rigid.length
    · obtain ⟨ad, rfl, c0⟩ := hR.2 j hj
      have hj0 : (0 : Int) ≤ (j : Int) := by omega
      have hcl := World.block_lt_of_cell? w _ c0
      have hcl0 : ad.block < w.heap.size := by simpa [add_block] using hcl
      have hj1 : (j : Int) < (rigid.length : Int) := by omega
      have hv : variV rigid ⟨6, j, a⟩ = rigid[j] := by simp [variV, boolAt, hj]
      rw [hv]
      generalize rigid[j] = b at *
      clear hv hR
      go_enter Tryz.func81, Tryz.ntmps81
      go_wp2_with fail
      go_quiet (fail)
      go_wp2_with fail
      go_ret
      exact ⟨rfl, bl_drewNv (bl_alloc (Below.refl _ _) _) _⟩
    · have hj1 : ¬ ((j : Int) < (rigid.length : Int)) := by omega
      have hv : variV rigid ⟨6, j, a⟩ = false := by simp [variV, hj1]
      rw [hv]
      go_enter Tryz.func81, Tryz.ntmps81
      go_wp2_with fail
      go_quiet (fail)
      go_wp2_with fail
      go_ret
      exact ⟨rfl, bl_drewNv (bl_alloc (Below.refl _ _) _) _⟩
  · have hv : variV rigid ⟨k, h, a⟩ = (decide (k = 4) && decide (a.length = 0)) := by simp [variV, h6]
    rw [hv]
    by_cases h4 : k = 4
    · subst h4
      go_enter Tryz.func81, Tryz.ntmps81
      go_wp2_with fail
      go_ret
      refine ⟨ret_bool ?_, bl_alloc (Below.refl _ _) _⟩
      rw [Bool.eq_iff_iff]
      simp
    · go_enter Tryz.func81, Tryz.ntmps81
      go_wp2_with fail
      go_ret
      refine ⟨ret_bool ?_, bl_alloc (Below.refl _ _) _⟩
      simp [h4]

def openV (bs : List Bd) (i : Int) : Bool := decide ((bs.length : Int) ≤ i) || !((bs[i.toNat]?).map Bd.is).getD false
set_option maxHeartbeats 4000000 in
theorem known1_calls (i : Int) (h0 : 0 ≤ i) (g gm : Nat) (A : Option Addr) (c : Nat) (v1 v2 : Value) (S : Nat → Prop) (bs : List Bd) (w : World) (hg : Boxed w g 81 (.pointer (some ⟨gm, 0, none⟩))) (hm : Blk w gm #[.slice A bs.length c, v1, v2] 83) (hr : RowB S w A bs) :
    Calls Tryz.prog 94 #[.int .i64 i, .pointer (some ⟨g, 0, none⟩)] w fun e w' => e = .returned (.bool (openV bs i)) ∧ Below w.heap.size w w' := by
  have q0 := hm.cell 0
  have b0 := hg.cell
  have hlr := hr.1
  unfold lim at hlr
  obtain ⟨j, rfl⟩ := Int.eq_ofNat_of_zero_le h0
  by_cases hj : j < bs.length
  · obtain ⟨ad, B, d, rfl, c0, -⟩ := hr.2 j hj
    have hj1 : ¬ ((bs.length : Int) ≤ (j : Int)) := by omega
    have hv : openV bs j = !bs[j].is := by simp [openV, hj]; omega
    rw [hv]
    generalize bs[j].is = b at *
    clear hv hr
    go_enter Tryz.func94, Tryz.ntmps94
    go_wp2_with fail
    go_ret
    exact ⟨rfl, Below.refl _ _⟩
  · have hj1 : (bs.length : Int) ≤ (j : Int) := by omega
    have hv : openV bs j = true := by simp [openV, hj1]
    rw [hv]
    go_enter Tryz.func94, Tryz.ntmps94
    go_wp2_with fail
    go_ret
    exact ⟨rfl, Below.refl _ _⟩
end Go.Proofs.YtbmmdfehhhgkcaaGreat
namespace Go.Proofs.YtbmmdfehhhgkcaaGreat
open Go.RowKit Go.Shelf
set_option linter.unusedVariables false
set_option linter.unusedSimpArgs false

/-- What is told of a meta that is something already. -/
noncomputable def knownV (bs : List Bd) (p t : Tm) (n : Int) : Int :=
  if (p.a.any fun a => (metasOf (nodesW a 0)).any (openV bs)) = true then 5 else match FillV (toldV bs) p n with
    | .error e => e
    | .ok u => if sameB u t = true then 0 else 6
theorem RetC.mov {S : Nat → Prop} {r : Except Int Tm} {k h : Int} {B : Option Addr} {n d : Nat} {x : Int} {W W' : World} (q : RetC S r k h B n d x W) (hb : Below W.heap.size W W') : RetC S r k h B n d x W' := by
  rcases q with q | ⟨u, h1, h2, h3, h4, h5, hc, hr⟩
  · exact .inl q
  · exact .inr ⟨u, h1, h2, h3, h4, h5, hc, hr.mov hb⟩
theorem any_mem {l m : List Int} (h : ∀ x, x ∈ l ↔ x ∈ m) (q : Int → Bool) : l.any q = m.any q := by
  rw [Bool.eq_iff_iff, List.any_eq_true, List.any_eq_true]
  exact ⟨fun ⟨x, h1, h2⟩ => ⟨x, (h x).1 h1, h2⟩, fun ⟨x, h1, h2⟩ => ⟨x, (h x).2 h1, h2⟩⟩
/-- What is not the told row's. -/
def FT (a m r b : Nat) : Nat → Prop := fun k => a ≤ k ∧ k < b ∧ ¬ (m ≤ k ∧ k < r)
theorem fillTold_calls (B : Int) (hB0 : 0 ≤ B) (htop : B + stepB * 4000 ≤ 1152921504606846976) (p : Tm) (A : Option Addr) (c : Nat) (bs : List Bd) (n : Int) (gb : Nat) (W0 Wm W5 W : World) (Y : Option Addr) (cy : Nat)
    (hr : Reads (fun k => k = gb) W0 A p.a) (hc : p.a.length ≤ c) (hgb : gb < W0.heap.size) (h1 : Below W0.heap.size W0 Wm) (h2 : Below Wm.heap.size Wm W5) (h3 : Below W5.heap.size W5 W) (hY : Reads (fun k => W0.heap.size ≤ k ∧ k < Wm.heap.size) W5 Y (toldV bs)) (hcy : bs.length ≤ cy)
    (hbp : mayB p = true → hB B p) (hcp : cnt p ≤ 1048576) (hbb : ∀ x ∈ bs, x.is = true → (mayB x.t = true → hB B x.t) ∧ cnt x.t ≤ 1048576) :
    Calls Tryz.prog 25 #[.agg #[.int .i64 p.k, .int .i64 p.h, .slice A p.a.length c], .slice Y bs.length cy, .int .i64 n] W (RetQ (FT W0.heap.size Wm.heap.size W5.heap.size W.heap.size) (FillV (toldV bs) p n) W) := by
  have hrx : Reads (FT W0.heap.size Wm.heap.size W5.heap.size W.heap.size) W A p.a := hr.step (fun k hk _ q => by have := q.1; omega) (fun k hk _ => (bl_then h1 (bl_then h2 h3)).block k hk)
  have hrv : Reads (FT W0.heap.size Wm.heap.size W5.heap.size W.heap.size) W Y (toldV bs) := hY.step (fun k hk hn q => hn ⟨q.1, by have := q.2.2; omega⟩) (fun k hk _ => h3.block k hk)
  have q := Fill_calls (FT W0.heap.size Wm.heap.size W5.heap.size W.heap.size) (toldV bs) Y cy (by rw [toldV_len]; exact hcy) B hB0 htop p A c n W (fun k q => q.2.1) hrx hc hrv hbp hcp (fun y hy => by
    unfold toldV at hy
    obtain ⟨x, hx, rfl⟩ := List.mem_map.1 hy
    unfold toldT
    cases hi : x.is with
    | true => simp only [if_true]; exact hbb x hx hi
    | false =>
      simp only [Bool.false_eq_true, if_false]
      refine ⟨fun _ => ?_, by simp [cnt, cntL]⟩
      rw [hB]
      exact ⟨by unfold mayN; simp, hB0, trivial⟩)
  rw [toldV_len] at q
  exact q
structure KnRel (bs : List Bd) (p : Tm) (w : World) (i : Nat) (wr : World) : Prop where
  le : i ≤ p.a.length
  below : Below w.heap.size w wr
  no : (p.a.take i).any (fun a => (metasOf (nodesW a 0)).any (openV bs)) = false
theorem kn_take {f : Tm → Bool} {l : List Tm} {i : Nat} (hi : i < l.length) (h : (l.take i).any f = false) : (l.take (i + 1)).any f = f l[i] := by
  rw [List.take_add_one, List.any_append, h]
  simp [hi]

set_option maxRecDepth 100000 in
set_option maxHeartbeats 16000000 in
theorem known_calls (B : Int) (hB0 : 0 ≤ B) (htop : B + stepB * 4000 ≤ 1152921504606846976) (p t : Tm) (A : Option Addr) (c : Nat) (A2 : Option Addr) (c2 : Nat) (n : Int) (gm gb cb : Nat) (v1 v2 : Value) (bs : List Bd) (w : World)
    (hm : Blk w gm #[.slice (some ⟨gb, 0, none⟩) bs.length cb, v1, v2] 83) (hob : OB w gb bs) (hr : Reads (fun k => k = gb) w A p.a) (hc : p.a.length ≤ c) (hr2 : Reads (fun k => k = gb) w A2 t.a) (hc2 : t.a.length ≤ c2)
    (hbp : mayB p = true → hB B p) (hcp : cnt p ≤ 1048576) (hbb : ∀ x ∈ bs, x.is = true → (mayB x.t = true → hB B x.t) ∧ cnt x.t ≤ 1048576) (hok : ∀ a ∈ p.a, okT a) (hpos : ∀ a ∈ p.a, ∀ x ∈ metasOf (nodesW a 0), 0 ≤ x) :
    Calls Tryz.prog 78 #[.pointer (some ⟨gm, 0, none⟩), .agg #[.int .i64 p.k, .int .i64 p.h, .slice A p.a.length c], .agg #[.int .i64 t.k, .int .i64 t.h, .slice A2 t.a.length c2], .int .i64 n] w fun e w' => e = .returned (.int .i64 (knownV bs p t n)) ∧ Below w.heap.size w w' := by
  have hB3 : Below w.heap.size w (((w.alloc (.cells #[.pointer (some ⟨gm, 0, none⟩)] 81)).alloc (.cells #[.int .i64 p.k, .int .i64 p.h, .slice A p.a.length c] 25)).alloc (.cells #[.int .i64 t.k, .int .i64 t.h, .slice A2 t.a.length c2] 25)) := bl_alloc (bl_alloc (bl_alloc (Below.refl _ _) _) _) _
  have EM : Hid (Boxed (((w.alloc (.cells #[.pointer (some ⟨gm, 0, none⟩)] 81)).alloc (.cells #[.int .i64 p.k, .int .i64 p.h, .slice A p.a.length c] 25)).alloc (.cells #[.int .i64 t.k, .int .i64 t.h, .slice A2 t.a.length c2] 25)) w.heap.size 81 (.pointer (some ⟨gm, 0, none⟩))) := ((Blk.nw w #[.pointer (some ⟨gm, 0, none⟩)] 81 _ rfl).al _).al _
  have EP : Hid (Blk (((w.alloc (.cells #[.pointer (some ⟨gm, 0, none⟩)] 81)).alloc (.cells #[.int .i64 p.k, .int .i64 p.h, .slice A p.a.length c] 25)).alloc (.cells #[.int .i64 t.k, .int .i64 t.h, .slice A2 t.a.length c2] 25)) (w.heap.size + 1) #[.int .i64 p.k, .int .i64 p.h, .slice A p.a.length c] 25) := (Blk.nw _ _ _ _ (by simp)).al _
  have ET : Hid (Blk (((w.alloc (.cells #[.pointer (some ⟨gm, 0, none⟩)] 81)).alloc (.cells #[.int .i64 p.k, .int .i64 p.h, .slice A p.a.length c] 25)).alloc (.cells #[.int .i64 t.k, .int .i64 t.h, .slice A2 t.a.length c2] 25)) (w.heap.size + 1 + 1) #[.int .i64 t.k, .int .i64 t.h, .slice A2 t.a.length c2] 25) := Blk.nw _ _ _ _ (by simp)
  have hmf : ∀ (fn : Fn) (first cap : Array Value) (w : World), (Instr.makeFunc fn first cap).run Tryz.prog w = .ok (.func fn first cap) w := fun _ _ _ _ => rfl
  have hlen := hr.len
  unfold lim at hlen
  obtain ⟨W0, hW0⟩ : ∃ W0, (((w.alloc (.cells #[.pointer (some ⟨gm, 0, none⟩)] 81)).alloc (.cells #[.int .i64 p.k, .int .i64 p.h, .slice A p.a.length c] 25)).alloc (.cells #[.int .i64 t.k, .int .i64 t.h, .slice A2 t.a.length c2] 25)) = W0 := ⟨_, rfl⟩
  rw [hW0] at hB3 EM EP ET
  have HB3 := Lib.hid hB3
  have HOB := Lib.hid (hob.mov hB3)
  have HMM := Lib.hid (hm.mov hB3)
  have HRP := Lib.hid (hr.mov hB3)
  have HRT := Lib.hid (hr2.mov hB3)
  have HW0 := Lib.hid hW0
  clear hm hob hr hr2 hB3 hW0
  go_enter Tryz.func78, Tryz.ntmps78
  go_wp2_with fail
  rw [HW0.out]
  go_loopw [18] (fun j wr => ∃ i : Nat, j = .int .i64 i ∧ KnRel bs p W0 i wr) (fun j _ => p.a.length - (intOf j).toNat)
  case atStart => exact ⟨0, rfl, Nat.zero_le _, Below.refl _ _, rfl⟩
  case round =>
    obtain ⟨i, rfl, hrel⟩ := hrel
    have hbw := hrel.below
    by_cases hlt : i < p.a.length
    · obtain ⟨ad, B3, d3, e3, -, c0, c1, c2, hd3, hsub⟩ := (HRP.out.mov hbw).at hlt
      subst e3
      have hcnt := cnt_mem (List.getElem_mem hlt)
      have hcp' := hcp
      have hp1 : cnt p = 1 + cntL p.a := by obtain ⟨k, h, a⟩ := p; rw [cnt]
      have HMC := Lib.hid (fun (W : World) (hb : Below wr.heap.size wr W) => Metas_calls p.a[i] B3 d3 W ((hsub.less (fun _ q => q.elim)).mov hb) hd3 (hok _ (List.getElem_mem hlt)) (by unfold limI; omega))
      have HPO := Lib.hid (hpos _ (List.getElem_mem hlt))
      have HTK := Lib.hid (kn_take hlt hrel.no)
      have HREL := Lib.hid hrel
      obtain ⟨av, hav⟩ : ∃ b, (metasOf (nodesW p.a[i] 0)).any (openV bs) = b := ⟨_, rfl⟩
      rw [hav] at HTK
      have HAV := Lib.hid hav
      clear hsub hrel hcnt hcp' hp1 hav
      go_wp2_with (first
        | (go_at_call 96; refine (HMC.out _ (bl_alloc (Below.refl _ _) _)).mono ?_; clear HMC; rintro e w5 ⟨⟨ml, Bm, cm, rfl, hcm, -, hrm, -, hmem⟩, hb5⟩; have hx5 := bl_then (bl_alloc (Below.refl _ _) _) hb5; have HMEM := Lib.hid hmem; have HRM := Lib.hid hrm; clear hmem hrm)
        | (go_at_call 95
           refine (ContainsFuncI_calls 94 (enters_of Tryz.func94 (by kernel_rfl) rfl) #[.pointer (some ⟨w.heap.size, 0, none⟩)] (openV bs) ml Bm cm w5 (fun j hj W hb => ?_) HRM.out).mono ?_
           · have hbb5 := bl_then (bl_then hbw hx5) hb
             exact known1_calls ml[j] (HPO.out _ ((HMEM.out _).1 (List.getElem_mem hj))) w.heap.size gm (some ⟨gb, 0, none⟩) cb v1 v2 (fun k => k = gb) bs W (boxed_mov EM.out hbb5) (HMM.out.mov hbb5) (HOB.out.mov hbb5).row
           rintro e w6 ⟨rfl, hb6⟩
           rw [any_mem HMEM.out, HAV.out]
           have hx6 := bl_then hx5 hb6
           cases av))
      · exact ⟨⟨i + 1, by go_num, hlt, bl_then hbw hx6, HTK.out⟩, by simp [intOf]; omega⟩
      · go_ret
        refine ⟨ret_int ?_, bl_then HB3.out (bl_then hbw hx6)⟩
        have hany : (p.a.any fun a => (metasOf (nodesW a 0)).any (openV bs)) = true := by
          rw [← List.take_append_drop (i + 1) p.a, List.any_append, HTK.out]
          rfl
        unfold knownV
        rw [if_pos hany]
    · obtain rfl : i = p.a.length := by have := hrel.le; omega
      have hno := hrel.no
      rw [List.take_length] at hno
      have HKV : Hid (knownV bs p t n = match FillV (toldV bs) p n with
        | .error e => e
        | .ok u => if sameB u t = true then 0 else 6) := Lib.hid (by
        unfold knownV
        rw [hno]
        rfl)
      clear hno hrel
      have HPW := Lib.hid (EP.out.mov hbw)
      have HMW := Lib.hid (boxed_mov EM.out hbw)
      have HGW := Lib.hid (HMM.out.mov hbw)
      have HTW := Lib.hid (ET.out.mov hbw)
      have HRPW := Lib.hid (HRP.out.mov hbw)
      have HRTW := Lib.hid (HRT.out.mov hbw)
      have HOW := Lib.hid (HOB.out.mov hbw)
      have HWW := Lib.hid (bl_then HB3.out hbw)
      have hlb := (HOW.out).row.1
      unfold lim at hlb
      have HTO : Hid (∀ W, Below wr.heap.size wr W → Calls Tryz.prog 42 #[.slice (some ⟨gb, 0, none⟩) bs.length cb] W fun e w' => Below W.heap.size W w' ∧ ∃ B d, e = .returned (.slice B bs.length d) ∧ bs.length ≤ d ∧ Reads (fun k => wr.heap.size ≤ k ∧ k < W.heap.size) w' B (toldV bs)) :=
        fun W hb => told_calls (fun k => wr.heap.size ≤ k ∧ k < W.heap.size) bs _ cb W (fun k q => q.2) (HOW.out.row.step (fun k hk _ q => by omega) hb)
      have HGB : Hid (gb < wr.heap.size) := HOW.out.lt
      clear hbw
      go_upto_region 8 with fail
      go_cut [12, 13] (fun sb se wx => ∃ g k h B7 n7 c7 x, sb = .pointer (some ⟨g, 0, none⟩) ∧ se = .int .i64 x ∧ Below wr.heap.size wr wx ∧ Blk wx g #[.int .i64 k, .int .i64 h, .slice B7 n7 c7] 25 ∧ RetC (fun _ => False) (FillV (toldV bs) p n) k h B7 n7 c7 x wx)
      case first =>
        have HC : Hid (∀ W, Below wr.heap.size wr W → (Below wr.heap.size wr W ∧ (W.cell? ⟨w.heap.size + 1, 0, none⟩ = some (.int .i64 p.k) ∧ W.cell? ⟨w.heap.size + 1, 1, none⟩ = some (.int .i64 p.h) ∧ W.cell? ⟨w.heap.size + 1, 2, none⟩ = some (.slice A p.a.length c)) ∧ W.cell? ⟨w.heap.size, 0, none⟩ = some (.pointer (some ⟨gm, 0, none⟩)) ∧ W.cell? ⟨gm, 0, none⟩ = some (.slice (some ⟨gb, 0, none⟩) bs.length cb))) := fun W hb => ⟨hb, ⟨(HPW.out.mov hb).cell 0, (HPW.out.mov hb).cell 1, (HPW.out.mov hb).cell 2⟩, (boxed_mov HMW.out hb).cell, (HGW.out.mov hb).cell 0⟩
        go_region_held2 (fun W => (Below wr.heap.size wr W ∧ (W.cell? ⟨w.heap.size + 1, 0, none⟩ = some (.int .i64 p.k) ∧ W.cell? ⟨w.heap.size + 1, 1, none⟩ = some (.int .i64 p.h) ∧ W.cell? ⟨w.heap.size + 1, 2, none⟩ = some (.slice A p.a.length c)) ∧ W.cell? ⟨w.heap.size, 0, none⟩ = some (.pointer (some ⟨gm, 0, none⟩)) ∧ W.cell? ⟨gm, 0, none⟩ = some (.slice (some ⟨gb, 0, none⟩) bs.length cb)))
          ((first | exact HC.out _ (bl_set3 hx7 (by (have h5 := hx5.size; (try simp only [World.size_drew, World.size_alloc] at h5 ⊢); omega))) | exact HC.out _ (bl_set3 (bl_alloc hx7 _) hx7.size) | exact HC.out _ hx7 | exact HC.out _ (bl_alloc hx7 _) | exact HC.out _ hx5 | exact HC.out _ (bl_alloc hx5 _) | exact HC.out _ (Below.refl _ _) | exact HC.out _ (Below.refl _ _).drew | exact HC.out _ (bl_alloc (Below.refl _ _) _).drew))
          (first
            | (go_at_call 42
               refine (HTO.out _ ?hbm).mono ?_
               case hbm => first | exact (Below.refl _ _).drew | exact (bl_alloc (Below.refl _ _) _).drew
               rintro e w5 ⟨hb5, B5, c5, rfl, hc5, hr5⟩
               have hx5 : Below wr.heap.size wr w5 := by first | exact bl_undrew hb5 | exact bl_then (bl_alloc (Below.refl _ _) _) (bl_undrew hb5))
            | (go_at_call 25
               refine (fillTold_calls B hB0 htop p A c bs n gb wr _ w5 _ B5 c5 HRPW.out hc HGB.out ?h1 hb5 ?h3 hr5 hc5 hbp hcp hbb).mono ?_
               case h1 => first | exact (Below.refl _ _).drew | exact (bl_alloc (Below.refl _ _) _).drew
               case h3 => first | exact Below.refl _ _ | exact bl_alloc (Below.refl _ _) _
               rintro e w7 hq
               obtain ⟨hb7, k, h, B7, n7, c7, x, rfl, hrc⟩ := hq.open
               have hx7 : Below wr.heap.size wr w7 := by first | exact bl_then hx5 hb7 | exact bl_then (bl_alloc hx5 _) hb7
               have HZ7 : Hid (∀ (g : Nat) (cs : Array Value) (t : TypeId), Blk _ g cs t → Blk w7 g cs t) := fun g cs t h => h.mov hb7
               have HZ5 : Hid (∀ (g : Nat) (cs : Array Value) (t : TypeId), Blk _ g cs t → Blk w5 g cs t) := fun g cs t h => h.mov hb5
               clear hq
               first
                 | have zb := HZ7.out _ #[.int .i64 0, .int .i64 0, .slice none 0 0] 25 (Blk.nw _ _ _ _ rfl)
                 | have zb := HZ7.out _ #[.int .i64 0, .int .i64 0, .slice none 0 0] 25 (HZ5.out _ _ _ (Blk.drew (Blk.nw _ _ _ _ rfl)))
                 | skip
               (try simp only [World.size_drew, World.size_alloc] at zb)
               (try have z0 := zb.cell 0)
               (try have z1 := zb.cell 1)
               (try have z2 := zb.cell 2)
               (try have g0 := zb.frozen 0)
               (try have g1 := zb.frozen 1)
               (try have g2 := zb.frozen 2)
               (try have HZB := Lib.hid zb)
               (try clear zb)))
        all_goals
          go_wp2_with fail
          go_meet
          have h5 := hx5.size
          have h6 := hb5.size
          (try simp only [World.size_drew, World.size_alloc] at h5 h6)
          first
            | exact ⟨_, k, h, B7, n7, c7, x, rfl, rfl, bl_set3 hx7 (by omega), HZB.out.set3 _ _ _, (hrc.set3 (by unfold FT; (try simp only [World.size_drew, World.size_alloc]); omega) _ _ _).less (fun _ q => q.elim)⟩
            | exact ⟨_, k, h, B7, n7, c7, x, rfl, rfl, bl_alloc hx7 _, Blk.nw w7 _ _ _ rfl, (hrc.mov (bl_alloc (Below.refl _ _) _)).less (fun _ q => q.elim)⟩
      case rest =>
        obtain ⟨g7, k, h, B7, n7, c7, x, rfl, rfl, hx7, hk7, hrc⟩ := hcut
        have t0 := (HTW.out.mov hx7).cell 0
        have t1 := (HTW.out.mov hx7).cell 1
        have t2 := (HTW.out.mov hx7).cell 2
        have hw7 := bl_then HWW.out hx7
        rcases hrc with ⟨hf, hx0, rfl, rfl, rfl, rfl, rfl⟩ | ⟨u, hf, rfl, rfl, rfl, rfl, hc7, hr7⟩
        · go_wp2_with fail
          go_ret
          refine ⟨ret_int ?_, hw7⟩
          rw [HKV.out, hf]
        · have k0 := hk7.cell 0
          have k1 := hk7.cell 1
          have k2 := hk7.cell 2
          have HSA := Lib.hid (Same_calls u t B7 c7 A2 c2 wc hr7 hc7 ((HRTW.out.less (fun _ q => q.elim)).mov hx7) hc2)
          obtain ⟨sv, hsv⟩ : ∃ b, sameB u t = b := ⟨_, rfl⟩
          rw [hsv] at HSA
          have HSV := Lib.hid hsv
          have HF := Lib.hid hf
          clear hsv hf hr7 hk7
          cases sv
          · go_wp2_with (go_at_call 18; refine HSA.out.mono ?_; clear HSA; rintro e w9 ⟨rfl, hb9⟩)
            go_ret
            refine ⟨ret_int ?_, bl_then hw7 hb9⟩
            rw [HKV.out, HF.out]
            simp only [HSV.out, Bool.false_eq_true, if_false]
          · go_wp2_with (go_at_call 18; refine HSA.out.mono ?_; clear HSA; rintro e w9 ⟨rfl, hb9⟩)
            go_ret
            refine ⟨ret_int ?_, bl_then hw7 hb9⟩
            rw [HKV.out, HF.out]
            simp only [HSV.out, if_true]
end Go.Proofs.YtbmmdfehhhgkcaaGreat
