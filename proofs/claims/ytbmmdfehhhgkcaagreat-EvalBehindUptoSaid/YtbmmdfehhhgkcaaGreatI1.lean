/- The contracts of (names).may and (names).rename. -/
import Derived.Test.YtbmmdfehhhgkcaaGreatBI
import Derived.Test.YtbmmdfehhhgkcaaGreatR1
namespace Go.Proofs.YtbmmdfehhhgkcaaGreat
open Go.RowKit Go.Shelf

/-- May these be a meta's variables, in a context of n? -/
def MayV (xs : List Int) (n : Int) : Prop := 0 ≤ n ∧ n ≤ 1000 ∧ ∀ i, (hi : i < xs.length) → 0 ≤ xs[i] ∧ xs[i] < n ∧ xs[i] ∉ xs.take i
open Classical in
noncomputable def mayV (xs : List Int) (n : Int) : Bool := decide (MayV xs n)
open Classical in
theorem mayV_false {xs : List Int} {n : Int} (h : ¬ MayV xs n) : mayV xs n = false := by unfold mayV; exact decide_eq_false h
open Classical in
theorem mayV_true {xs : List Int} {n : Int} (h : MayV xs n) : mayV xs n = true := by unfold mayV; exact decide_eq_true h

structure NamesRel (w : World) (A : Option Addr) (xs : List Int) (c : Nat) (n : Int) (i : Nat) (wr : World) : Prop where
  le : i ≤ xs.length
  below : Below w.heap.size w wr
  blk : Blk wr w.heap.size #[.slice A xs.length c, .int .i64 n] 135
  ok : ∀ j, (hj : j < xs.length) → j < i → 0 ≤ xs[j] ∧ xs[j] < n ∧ xs[j] ∉ xs.take j

set_option maxHeartbeats 2000000 in
theorem namesMay_calls (xs : List Int) (A : Option Addr) (c : Nat) (n : Int) (w : World) (hr : RdI (fun _ => False) w A xs) (hc : xs.length ≤ c) :
    Calls Tryz.prog 98 #[.agg #[.slice A xs.length c, .int .i64 n]] w fun e w' => e = .returned (.bool (mayV xs n)) ∧ Below w.heap.size w w' := by
  have hlen := hr.1
  unfold limI at hlen
  by_cases h0 : n < 0
  · go_enter Tryz.func98, Tryz.ntmps98
    go_wp2
    go_ret
    exact ⟨ret_bool (mayV_false (fun q => by have := q.1; omega)).symm, bl_alloc (Below.refl _ _) _⟩
  · by_cases h1 : n > 1000
    · go_enter Tryz.func98, Tryz.ntmps98
      go_wp2
      go_ret
      exact ⟨ret_bool (mayV_false (fun q => by have := q.2.1; omega)).symm, bl_alloc (Below.refl _ _) _⟩
    · go_enter Tryz.func98, Tryz.ntmps98
      go_wp2
      go_loopw [16] (fun j wr => ∃ (i : Nat), j = .int .i64 i ∧ NamesRel w A xs c n i wr) (fun j _ => xs.length - (intOf j).toNat)
      case atStart => exact ⟨0, rfl, Nat.zero_le _, bl_alloc (Below.refl _ _) _, Blk.new _ _ _, fun j _ h => absurd h (by omega)⟩
      case round =>
        obtain ⟨i, rfl, hrel⟩ := hrel
        have g0 := hrel.blk.cell 0
        have g1 := hrel.blk.cell 1
        have hi := hrel.le
        by_cases hlt : i < xs.length
        · obtain ⟨ad, rfl, -, c0⟩ := (hr.mov hrel.below).2 i hlt
          have hcon := Contains_calls (xs.take i) (some ad) c xs[i] wr ((hr.mov hrel.below).take i)
          rw [show (xs.take i).length = i from by simp; omega] at hcon
          by_cases ha : xs[i] < 0
          · go_wp2
            go_ret
            exact ⟨ret_bool (mayV_false (fun q => by have := (q.2.2 i hlt).1; omega)).symm, hrel.below⟩
          · by_cases hb : xs[i] ≥ n
            · go_wp2
              go_ret
              exact ⟨ret_bool (mayV_false (fun q => by have := (q.2.2 i hlt).2.1; omega)).symm, hrel.below⟩
            · cases hm : decide (xs[i] ∈ xs.take i)
              all_goals
                rw [hm] at hcon
                have HC := Lib.hid hcon
                have HM := Lib.hid hm
                clear hcon hm
                go_wp2_with (go_at_call 97; refine HC.out.mono ?_; clear HC; rintro e w1 ⟨rfl, hb1⟩)
              · refine ⟨⟨i + 1, by go_num, hlt, bl_then hrel.below hb1, hrel.blk.mov hb1, fun j hj hji => ?_⟩, by simp [intOf]; omega⟩
                by_cases hji2 : j < i
                · exact hrel.ok j hj hji2
                · obtain rfl : j = i := by omega
                  exact ⟨by omega, by omega, of_decide_eq_false HM.out⟩
              · go_ret
                exact ⟨ret_bool (mayV_false (fun q => (q.2.2 i hlt).2.2 (of_decide_eq_true HM.out))).symm, bl_then hrel.below hb1⟩
        · obtain rfl : i = xs.length := by omega
          go_wp2
          go_ret
          exact ⟨ret_bool (mayV_true ⟨by omega, by omega, fun j hj => hrel.ok j hj hj⟩).symm, hrel.below⟩

/-- A free variable's name in the meta's context. -/
def rnV (xs : List Int) (n i : Int) : Option Int :=
  if n ≤ i then some (wrap64 (wrap64 (i - n) + xs.length)) else if i ∈ xs then some ((xs.length : Int) - 1 - idxFrom i 0 xs) else none

set_option maxHeartbeats 2000000 in
theorem rename_calls (xs : List Int) (A : Option Addr) (c : Nat) (n i : Int) (w : World) (hr : RdI (fun _ => False) w A xs) :
    Calls Tryz.prog 100 #[.agg #[.slice A xs.length c, .int .i64 n], .int .i64 i] w fun e w' =>
      (∃ j b, e = .returned (.tuple #[.int .i64 j, .bool b]) ∧ rnV xs n i = if b = true then some j else none) ∧ Below w.heap.size w w' := by
  have hlen := hr.1
  unfold limI at hlen
  have hbo : Below w.heap.size w (w.alloc (.cells #[.slice A xs.length c, .int .i64 n] 135)) := bl_alloc (Below.refl _ _) _
  have HI := Lib.hid (Index_calls xs A c i _ (hr.mov hbo))
  have HB := Lib.hid hbo
  have HK := Lib.hid (Blk.new w #[.slice A xs.length c, .int .i64 n] 135)
  clear hbo
  by_cases h : n ≤ i
  · go_enter Tryz.func100, Tryz.ntmps100
    go_wp2
    go_ret2
    exact ⟨⟨_, true, rfl, by rw [rnV, if_pos h]; rfl⟩, HB.out⟩
  · have hx : ∃ v : Int, idxFrom i 0 xs = v ∧ -1 ≤ v ∧ v < xs.length ∧ (decide (v ≥ 0) = decide (i ∈ xs)) := by
      rcases idxFrom_neg (v := i) xs 0 with ⟨h1, h2⟩ | ⟨j, h1, _, h3, h4⟩
      · exact ⟨-1, h1, by omega, by omega, by simp [h2]⟩
      · exact ⟨j, h1, by omega, by omega, by simp [h4]⟩
    obtain ⟨v, hv, hv1, hv2, hv3⟩ := hx
    have HV := Lib.hid hv
    have HI2 : Hid _ := Lib.hid (hv ▸ HI.out)
    have HV3 := Lib.hid hv3
    clear hv hv3 HI
    go_enter Tryz.func100, Tryz.ntmps100
    go_wp2_with (go_at_call 115; refine HI2.out.mono ?_; clear HI2; rintro e w1 ⟨rfl, hb⟩; have q := HK.out.mov hb; have q0 := q.cell 0; have q1 := q.cell 1; clear q)
    go_ret2
    refine ⟨⟨_, _, rfl, ?_⟩, bl_then HB.out hb⟩
    rw [HV3.out, rnV, if_neg (by omega), HV.out]
    by_cases hm : i ∈ xs <;> simp [hm]
/-- What Invert hands back. -/
noncomputable def invV (t : Tm) (xs : List Int) (n : Int) : Option Tm × Int :=
  if (mayB t && mayV xs n) = true then match renW (rnV xs n) t 0 with
    | some u => (some u, 0)
    | none => (none, 7)
  else (none, 1)
def RetE (S : Nat → Prop) (r : Option Tm × Int) (w : World) (e : Ending) (w' : World) : Prop :=
  Below w.heap.size w w' ∧ ((r.1 = none ∧ e = .returned (.tuple #[zeroTm, .int .i64 r.2])) ∨
    ∃ u B c, r.1 = some u ∧ e = .returned (.tuple #[.agg #[.int .i64 u.k, .int .i64 u.h, .slice B u.a.length c], .int .i64 r.2]) ∧ u.a.length ≤ c ∧ Reads S w' B u.a)
end Go.Proofs.YtbmmdfehhhgkcaaGreat
