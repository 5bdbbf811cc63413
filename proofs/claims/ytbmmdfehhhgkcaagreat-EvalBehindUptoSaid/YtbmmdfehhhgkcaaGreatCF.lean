/- The contracts of slices.IndexFunc and slices.ContainsFunc over terms. -/
import Derived.Test.YtbmmdfehhhgkcaaGreatGL
import Derived.Test.YtbmmdfehhhgkcaaGreatC3
namespace Go.Proofs.YtbmmdfehhhgkcaaGreat
open Go.RowKit Go.Shelf
set_option linter.unusedVariables false
set_option linter.unusedSimpArgs false

/-- A function value that tells of a term what q says. -/
def TellsT (w : World) (S : Nat → Prop) (kf : Nat) (cap : Array Value) (ts : List Tm) (q : Tm → Bool) : Prop :=
  ∀ (i : Nat) (hi : i < ts.length) (B : Option Addr) (d : Nat) (W : World), Below w.heap.size w W → Reads S W B ts[i].a → ts[i].a.length ≤ d →
    Calls Tryz.prog kf (#[.agg #[.int .i64 ts[i].k, .int .i64 ts[i].h, .slice B ts[i].a.length d]] ++ cap) W fun e W' => e = .returned (.bool (q ts[i])) ∧ Below W.heap.size W W'

structure IdxRel (q : Tm → Bool) (ts : List Tm) (w : World) (i : Nat) (wr : World) : Prop where
  le : i ≤ ts.length
  below : Below w.heap.size w wr
  no : (ts.take i).any q = false
theorem any_take {q : Tm → Bool} {ts : List Tm} {i : Nat} (hi : i < ts.length) (h : (ts.take i).any q = false) : (ts.take (i + 1)).any q = q ts[i] := by
  rw [List.take_add_one, List.any_append, h]
  simp [hi]

set_option maxHeartbeats 4000000 in
theorem IndexFuncT_calls (kf : Nat) (eg : ∀ args w, (callFunc kf args).run Tryz.prog w = .ok (.enter kf args) w) (cap : Array Value) (q : Tm → Bool) (ts : List Tm) (A : Option Addr) (c : Nat) (w : World) (hq : TellsT w (fun _ => False) kf cap ts q) (hr : Reads (fun _ => False) w A ts) :
    Calls Tryz.prog 63 #[.slice A ts.length c, .func (.func kf) #[] cap] w fun e w' => (∃ j : Int, e = .returned (.int .i64 j) ∧ decide (0 ≤ j) = ts.any q) ∧ Below w.heap.size w w' := by
  have hlen := hr.len
  unfold lim at hlen
  have HQ := Lib.hid hq
  clear hq
  go_enter Tryz.func63, Tryz.ntmps63
  go_wp2_with fail
  go_loopw [5, 8] (fun _ j wr => ∃ i : Nat, j = .int .i64 i ∧ IdxRel q ts w i wr) (fun _ j _ => ts.length - (intOf j).toNat)
  case atStart => exact ⟨0, rfl, Nat.zero_le _, Below.refl _ _, rfl⟩
  case round =>
    obtain ⟨i, rfl, hrel⟩ := hrel
    have hbw := hrel.below
    by_cases hlt : i < ts.length
    · obtain ⟨ad, B, d, rfl, -, c0, c1, c2, hd, hsub⟩ := (hr.mov hbw).at hlt
      have hc := HQ.out i hlt B d wr hbw hsub hd
      have ha := any_take hlt hrel.no
      cases hv : q ts[i]
      all_goals
        rw [hv] at hc ha
        have HC := Lib.hid hc
        have HA := Lib.hid ha
        clear hc ha hv
        go_wp2_with (refine HC.out.mono ?_; clear HC; rintro e w1 ⟨rfl, hb⟩)
      · exact ⟨⟨i + 1, by go_num, hlt, bl_then hbw hb, HA.out⟩, by simp [intOf]; omega⟩
      · go_ret
        refine ⟨⟨_, rfl, ?_⟩, bl_then hbw hb⟩
        have : ts.any q = true := by
          rw [← List.take_append_drop (i + 1) ts, List.any_append, HA.out]
          rfl
        rw [this]
        simp
    · obtain rfl : i = ts.length := by have := hrel.le; omega
      have hn := hrel.no
      rw [List.take_length] at hn
      have HN := Lib.hid hn
      clear hn hrel
      go_wp2_with fail
      go_ret
      exact ⟨⟨_, rfl, by rw [HN.out]; rfl⟩, hbw⟩

set_option maxHeartbeats 2000000 in
theorem ContainsFuncT_calls (kf : Nat) (eg : ∀ args w, (callFunc kf args).run Tryz.prog w = .ok (.enter kf args) w) (cap : Array Value) (q : Tm → Bool) (ts : List Tm) (A : Option Addr) (c : Nat) (w : World) (hq : TellsT w (fun _ => False) kf cap ts q) (hr : Reads (fun _ => False) w A ts) :
    Calls Tryz.prog 46 #[.slice A ts.length c, .func (.func kf) #[] cap] w fun e w' => e = .returned (.bool (ts.any q)) ∧ Below w.heap.size w w' := by
  have HI := Lib.hid (IndexFuncT_calls kf eg cap q ts A c w hq hr)
  go_enter Tryz.func46, Tryz.ntmps46
  go_wp2_with (go_at_call 63; refine HI.out.mono ?_; clear HI; rintro e w1 ⟨⟨j, rfl, hj⟩, hb⟩; have HJ := Lib.hid hj; clear hj)
  go_ret
  exact ⟨ret_bool HJ.out, hb⟩

end Go.Proofs.YtbmmdfehhhgkcaaGreat
