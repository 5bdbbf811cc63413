/- The contracts of less.Clause and of the document's. -/
import Derived.Test.YtolpbnkkmkjejaaK3
namespace Go.Proofs.Ytolpbnkkmkjejaa
open Go.RowKit Go.Shelf
set_option linter.unusedSimpArgs false

def clauseE (fs : List Fu) (y : Cs) : Int := if y.cs.all (lessB fs y) = true then 0 else 11
theorem clauseE_no {fs : List Fu} {y : Cs} (h : y.cs.all (lessB fs y) = false) : clauseE fs y = 11 := by unfold clauseE; rw [h]; rfl
theorem clauseE_yes {fs : List Fu} {y : Cs} (h : y.cs.all (lessB fs y) = true) : clauseE fs y = 0 := by unfold clauseE; rw [h]; rfl

set_option maxHeartbeats 8000000 in
set_option maxRecDepth 100000 in
theorem lessClause_calls (fs : List Fu) (A : Option Addr) (a : Nat) (y : Cs) (ks : List Value) (w : World) (hr : Row eF 13 (fun _ => False) w A fs) (hk : eK (fun _ => False) w ks y) (hp : gT 1048576 y.p) :
    Calls Try.prog 13 #[.slice A fs.length a, .agg ks.toArray] w fun e w' => e = .returned (.int .i64 (clauseE fs y)) ∧ Below w.heap.size w w' := by
  have hk0 := hk
  obtain ⟨A1, a1, B1, b1, C1, c1, D1, d1, E1, e1, rfl, -, -, -, ⟨hd, hrd⟩, -⟩ := hk
  have hlen := hrd.1
  unfold lim at hlen
  have hb0 : Below w.heap.size w (w.alloc (.cells #[.slice A1 y.ms.length a1, .slice B1 y.th.length b1, .int .i64 y.p.k, .int .i64 y.p.h, .slice C1 y.p.a.length c1, .slice D1 y.cs.length d1, .int .i64 y.r.k, .int .i64 y.r.h, .slice E1 y.r.a.length e1] 29)) := bl_alloc (Below.refl _ _) _
  have e0 := Blk.new w #[.slice A1 y.ms.length a1, .slice B1 y.th.length b1, .int .i64 y.p.k, .int .i64 y.p.h, .slice C1 y.p.a.length c1, .slice D1 y.cs.length d1, .int .i64 y.r.k, .int .i64 y.r.h, .slice E1 y.r.a.length e1] 29
  have HB0 := Lib.hid hb0
  have E0 := Lib.hid e0
  have HC0 := Lib.hid (fun (W : World) (hb : Below w.heap.size w W) (x : Cl) (xs : List Value) (hx : eC (fun _ => False) W xs x) => lessCall_calls fs A a y x _ xs W (hr.mov lasts_F (by decide) hb) (lasts_K.mov hk0 hb) hx hp)
  clear hb0 e0 hk0
  go_enter Try.func13, Try.ntmps13
  go_wp2_with fail
  go_loopw [6, 7, 11] (fun _ _ j wr => ∃ i : Nat, j = .int .i64 i ∧ AllRel (lessB fs y) y.cs (w.alloc (.cells #[.slice A1 y.ms.length a1, .slice B1 y.th.length b1, .int .i64 y.p.k, .int .i64 y.p.h, .slice C1 y.p.a.length c1, .slice D1 y.cs.length d1, .int .i64 y.r.k, .int .i64 y.r.h, .slice E1 y.r.a.length e1] 29)) i wr) (fun _ _ j _ => y.cs.length - (intOf j).toNat)
  case atStart => exact ⟨0, rfl, .zero _ _ (Below.refl _ _)⟩
  case round =>
    obtain ⟨i, rfl, hrel⟩ := hrel
    have hbw := hrel.below
    have p0 := (E0.out.mov hbw).cell 0
    have p1 := (E0.out.mov hbw).cell 1
    have p2 := (E0.out.mov hbw).cell 2
    have p3 := (E0.out.mov hbw).cell 3
    have p4 := (E0.out.mov hbw).cell 4
    have p5 := (E0.out.mov hbw).cell 5
    have p6 := (E0.out.mov hbw).cell 6
    have p7 := (E0.out.mov hbw).cell 7
    have p8 := (E0.out.mov hbw).cell 8
    have hgl := (E0.out.mov hbw).lt
    by_cases hlt : i < y.cs.length
    · obtain ⟨ad, xs, rfl, -, hcl, k0, kj, hE⟩ := ((hrd.mov lasts_C (by decide) HB0.out).mov lasts_C (by decide) hbw).at hlt
      have hE0 := hE
      obtain ⟨A2, a2, B2, b2, C2, c2, rfl, -⟩ := hE
      have q0 := k0 _ rfl
      have q1 := kj 1 _ rfl
      have q2 := kj 2 _ rfl
      have q3 := kj 3 _ rfl
      have q4 := kj 4 _ rfl
      have q5 := kj 5 _ rfl
      have hcall := fun (W : World) (hb : Below wr.heap.size wr W) => HC0.out W (bl_then HB0.out (bl_then hbw hb)) y.cs[i] _ (lasts_C.mov hE0 hb)
      clear k0 kj hcl hE0
      cases hv : lessB fs y y.cs[i]
      · rw [lessE_no hv] at hcall
        have HC := Lib.hid hcall
        have HV := Lib.hid hv
        clear hcall hv
        go_wp2_with (go_at_call 11; refine (HC.out _ (bl_alloc (Below.refl _ _) _)).mono ?_; clear HC; rintro e w1 ⟨rfl, hb1⟩)
        go_ret
        exact ⟨ret_int (clauseE_no (hrel.no hlt HV.out)).symm, bl_then HB0.out (bl_then hbw (bl_then (bl_alloc (Below.refl _ _) _) hb1))⟩
      · rw [lessE_yes hv] at hcall
        have HC := Lib.hid hcall
        have HV := Lib.hid hv
        clear hcall hv
        go_wp2_with (go_at_call 11; refine (HC.out _ (bl_alloc (Below.refl _ _) _)).mono ?_; clear HC; rintro e w1 ⟨rfl, hb1⟩)
        exact ⟨⟨i + 1, by go_num, hrel.next hlt HV.out (bl_then (bl_alloc (Below.refl _ _) _) hb1)⟩, by simp [intOf]; omega⟩
    · have hy := hrel.yes hlt
      rw [Nat.not_lt] at hlt
      go_wp2_with fail
      go_ret
      exact ⟨ret_int (clauseE_yes hy).symm, bl_then HB0.out hbw⟩

set_option maxHeartbeats 8000000 in
set_option maxRecDepth 100000 in
theorem refClause_calls (fs : List Fu) (A : Option Addr) (a : Nat) (y : Cs) (ks : List Value) (w : World) (hr : Row eF 13 (fun _ => False) w A fs) (hk : eK (fun _ => False) w ks y) (hp : gT 1048576 y.p) :
    Calls Try.prog 14 #[.slice A fs.length a, .agg ks.toArray] w fun e w' => e = .returned (.int .i64 (clauseE fs y)) ∧ Below w.heap.size w w' := by
  have hk0 := hk
  obtain ⟨A1, a1, B1, b1, C1, c1, D1, d1, E1, e1, rfl, -, -, -, ⟨hd, hrd⟩, -⟩ := hk
  have hlen := hrd.1
  unfold lim at hlen
  have hb0 : Below w.heap.size w (w.alloc (.cells #[.slice A1 y.ms.length a1, .slice B1 y.th.length b1, .int .i64 y.p.k, .int .i64 y.p.h, .slice C1 y.p.a.length c1, .slice D1 y.cs.length d1, .int .i64 y.r.k, .int .i64 y.r.h, .slice E1 y.r.a.length e1] 29)) := bl_alloc (Below.refl _ _) _
  have e0 := Blk.new w #[.slice A1 y.ms.length a1, .slice B1 y.th.length b1, .int .i64 y.p.k, .int .i64 y.p.h, .slice C1 y.p.a.length c1, .slice D1 y.cs.length d1, .int .i64 y.r.k, .int .i64 y.r.h, .slice E1 y.r.a.length e1] 29
  have HB0 := Lib.hid hb0
  have E0 := Lib.hid e0
  have HC0 := Lib.hid (fun (W : World) (hb : Below w.heap.size w W) (x : Cl) (xs : List Value) (hx : eC (fun _ => False) W xs x) => refCall_calls fs A a y x _ xs W (hr.mov lasts_F (by decide) hb) (lasts_K.mov hk0 hb) hx hp)
  clear hb0 e0 hk0
  go_enter Try.func14, Try.ntmps14
  go_wp2_with fail
  go_loopw [5, 6] (fun j _ wr => ∃ i : Nat, j = .int .i64 i ∧ AllRel (lessB fs y) y.cs (w.alloc (.cells #[.slice A1 y.ms.length a1, .slice B1 y.th.length b1, .int .i64 y.p.k, .int .i64 y.p.h, .slice C1 y.p.a.length c1, .slice D1 y.cs.length d1, .int .i64 y.r.k, .int .i64 y.r.h, .slice E1 y.r.a.length e1] 29)) i wr) (fun j _ _ => y.cs.length - (intOf j).toNat)
  case atStart => exact ⟨0, rfl, .zero _ _ (Below.refl _ _)⟩
  case round =>
    obtain ⟨i, rfl, hrel⟩ := hrel
    have hbw := hrel.below
    have p0 := (E0.out.mov hbw).cell 0
    have p1 := (E0.out.mov hbw).cell 1
    have p2 := (E0.out.mov hbw).cell 2
    have p3 := (E0.out.mov hbw).cell 3
    have p4 := (E0.out.mov hbw).cell 4
    have p5 := (E0.out.mov hbw).cell 5
    have p6 := (E0.out.mov hbw).cell 6
    have p7 := (E0.out.mov hbw).cell 7
    have p8 := (E0.out.mov hbw).cell 8
    have hgl := (E0.out.mov hbw).lt
    by_cases hlt : i < y.cs.length
    · obtain ⟨ad, xs, rfl, -, hcl, k0, kj, hE⟩ := ((hrd.mov lasts_C (by decide) HB0.out).mov lasts_C (by decide) hbw).at hlt
      have hE0 := hE
      obtain ⟨A2, a2, B2, b2, C2, c2, rfl, -⟩ := hE
      have q0 := k0 _ rfl
      have q1 := kj 1 _ rfl
      have q2 := kj 2 _ rfl
      have q3 := kj 3 _ rfl
      have q4 := kj 4 _ rfl
      have q5 := kj 5 _ rfl
      have hcall := fun (W : World) (hb : Below wr.heap.size wr W) => HC0.out W (bl_then HB0.out (bl_then hbw hb)) y.cs[i] _ (lasts_C.mov hE0 hb)
      clear k0 kj hcl hE0
      cases hv : lessB fs y y.cs[i]
      · rw [lessE_no hv] at hcall
        have HC := Lib.hid hcall
        have HV := Lib.hid hv
        clear hcall hv
        have hi0 : (0 : Int) ≤ (i : Int) := by omega
        have hi1 : (i : Int) < (y.cs.length : Int) := by omega
        go_wp2_with fail
        go_still_tail 7, (by kernel_rfl)
        go_wp2_with (go_at_call 12; refine (HC.out _ (Below.refl _ _).drew).mono ?_; clear HC; rintro e w1 ⟨rfl, hb1'⟩; have hb1 := bl_undrew hb1')
        go_ret
        exact ⟨ret_int (clauseE_no (hrel.no hlt HV.out)).symm, bl_then HB0.out (bl_then hbw hb1)⟩
      · rw [lessE_yes hv] at hcall
        have HC := Lib.hid hcall
        have HV := Lib.hid hv
        clear hcall hv
        have hi0 : (0 : Int) ≤ (i : Int) := by omega
        have hi1 : (i : Int) < (y.cs.length : Int) := by omega
        go_wp2_with fail
        go_still_tail 7, (by kernel_rfl)
        go_wp2_with (go_at_call 12; refine (HC.out _ (Below.refl _ _).drew).mono ?_; clear HC; rintro e w1 ⟨rfl, hb1'⟩; have hb1 := bl_undrew hb1')
        exact ⟨⟨i + 1, by go_num, hrel.next hlt HV.out hb1⟩, by simp [intOf]; omega⟩
    · have hy := hrel.yes hlt
      rw [Nat.not_lt] at hlt
      go_wp2_with fail
      go_ret
      exact ⟨ret_int (clauseE_yes hy).symm, bl_then HB0.out hbw⟩
end Go.Proofs.Ytolpbnkkmkjejaa
