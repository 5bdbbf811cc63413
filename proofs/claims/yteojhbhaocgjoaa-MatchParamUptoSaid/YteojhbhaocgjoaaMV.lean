/- The contracts of (*matching).variable and of the closure that known hands over. -/
import Derived.Test.YteojhbhaocgjoaaBD
import Derived.Test.YteojhbhaocgjoaaT3
namespace Go.Proofs.Yteojhbhaocgjoaa
open Go.RowKit Go.Shelf
set_option linter.unusedVariables false
set_option linter.unusedSimpArgs false

/-- A row of truth values. -/
def RowBo (w : World) (A : Option Addr) (bs : List Bool) : Prop :=
  bs.length ≤ lim ∧ ∀ i, (hi : i < bs.length) → ∃ ad : Addr, A = some ad ∧ w.cell? (ad.add i) = some (.bool bs[i])
theorem RowBo.mov {w w' : World} {A : Option Addr} {bs : List Bool} (h : RowBo w A bs) (hb : Below w.heap.size w w') : RowBo w' A bs :=
  ⟨h.1, fun i hi => by obtain ⟨ad, e, hc⟩ := h.2 i hi; exact ⟨ad, e, cell_mov hc hb⟩⟩
def boolAt (bs : List Bool) (i : Int) : Bool := (bs[i.toNat]?).getD false
def variV (rigid : List Bool) (t : Tm) : Bool := if t.k = 6 then (decide (t.h < (rigid.length : Int)) && boolAt rigid t.h) else (decide (t.k = 4) && decide (t.a.length = 0))
theorem bl_drewNv {a w : World} (h : Below a.heap.size a w) (n : Nat) : Below a.heap.size a (w.drewN n) := ⟨h.os, h.tape, h.output, h.size, h.block⟩

set_option maxHeartbeats 4000000 in
theorem variable_calls (t : Tm) (A : Option Addr) (c gm : Nat) (v0 v1 : Value) (R : Option Addr) (cr : Nat) (rigid : List Bool) (w : World) (hm : Blk w gm #[v0, v1, .slice R rigid.length cr] 61) (hR : RowBo w R rigid) (h0 : t.k = 6 → 0 ≤ t.h) :
    Calls Try.prog 57 #[.pointer (some ⟨gm, 0, none⟩), .agg #[.int .i64 t.k, .int .i64 t.h, .slice A t.a.length c]] w fun e w' => e = .returned (.bool (variV rigid t)) ∧ Below w.heap.size w w' := by
  obtain ⟨k, h, a⟩ := t
  dsimp only at h0 ⊢
  have q2 := hm.cell 2
  have ql := hm.lt
  have hlr := hR.1
  unfold lim at hlr
  by_cases h6 : k = 6
  · subst h6
    have hh0 := h0 rfl
    obtain ⟨j, rfl⟩ := Int.eq_ofNat_of_zero_le hh0
    by_cases hj : j < rigid.length
    · obtain ⟨ad, rfl, c0⟩ := hR.2 j hj
      have hj0 : (0 : Int) ≤ (j : Int) := by omega
      have hcl := World.block_lt_of_cell? w _ c0
      have hcl0 : ad.block < w.heap.size := by simpa [add_block] using hcl
      have hj1 : (j : Int) < (rigid.length : Int) := by omega
      have hv : variV rigid ⟨6, j, a⟩ = rigid[j] := by simp [variV, boolAt, hj]
      rw [hv]
      generalize rigid[j] = b at *
      clear hv hR
      go_enter Try.func57, Try.ntmps57
      go_wp2_with fail
      go_quiet (fail)
      go_wp2_with fail
      go_ret
      exact ⟨rfl, bl_drewNv (bl_alloc (Below.refl _ _) _) _⟩
    · have hj1 : ¬ ((j : Int) < (rigid.length : Int)) := by omega
      have hv : variV rigid ⟨6, j, a⟩ = false := by simp [variV, hj1]
      rw [hv]
      go_enter Try.func57, Try.ntmps57
      go_wp2_with fail
      go_quiet (fail)
      go_wp2_with fail
      go_ret
      exact ⟨rfl, bl_drewNv (bl_alloc (Below.refl _ _) _) _⟩
  · have hv : variV rigid ⟨k, h, a⟩ = (decide (k = 4) && decide (a.length = 0)) := by simp [variV, h6]
    rw [hv]
    by_cases h4 : k = 4
    · subst h4
      go_enter Try.func57, Try.ntmps57
      go_wp2_with fail
      go_ret
      refine ⟨ret_bool ?_, bl_alloc (Below.refl _ _) _⟩
      rw [Bool.eq_iff_iff]
      simp
    · go_enter Try.func57, Try.ntmps57
      go_wp2_with fail
      go_ret
      refine ⟨ret_bool ?_, bl_alloc (Below.refl _ _) _⟩
      simp [h4]

def openV (bs : List Bd) (i : Int) : Bool := decide ((bs.length : Int) ≤ i) || !((bs[i.toNat]?).map Bd.is).getD false
set_option maxHeartbeats 4000000 in
theorem known1_calls (i : Int) (h0 : 0 ≤ i) (g gm : Nat) (A : Option Addr) (c : Nat) (v1 v2 : Value) (S : Nat → Prop) (bs : List Bd) (w : World) (hg : Boxed w g 59 (.pointer (some ⟨gm, 0, none⟩))) (hm : Blk w gm #[.slice A bs.length c, v1, v2] 61) (hr : RowB S w A bs) :
    Calls Try.prog 75 #[.int .i64 i, .pointer (some ⟨g, 0, none⟩)] w fun e w' => e = .returned (.bool (openV bs i)) ∧ Below w.heap.size w w' := by
  have q0 := hm.cell 0
  have b0 := hg.cell
  have hlr := hr.1
  unfold lim at hlr
  obtain ⟨j, rfl⟩ := Int.eq_ofNat_of_zero_le h0
  by_cases hj : j < bs.length
  · obtain ⟨ad, B, d, rfl, c0, -⟩ := hr.2 j hj
    have hj1 : ¬ ((bs.length : Int) ≤ (j : Int)) := by omega
    have hv : openV bs j = !bs[j].is := by simp [openV, hj]; omega
    rw [hv]
    generalize bs[j].is = b at *
    clear hv hr
    go_enter Try.func75, Try.ntmps75
    go_wp2_with fail
    go_ret
    exact ⟨rfl, Below.refl _ _⟩
  · have hj1 : (bs.length : Int) ≤ (j : Int) := by omega
    have hv : openV bs j = true := by simp [openV, hj1]
    rw [hv]
    go_enter Try.func75, Try.ntmps75
    go_wp2_with fail
    go_ret
    exact ⟨rfl, Below.refl _ _⟩
end Go.Proofs.Yteojhbhaocgjoaa
