/- The contracts of slices.IndexFunc and slices.ContainsFunc over binds. -/
import Derived.Test.YteojhbhaocgjoaaBD
namespace Go.Proofs.Yteojhbhaocgjoaa
open Go.RowKit Go.Shelf
set_option linter.unusedVariables false
set_option linter.unusedSimpArgs false

/-- A function value that tells of a bind what q says. -/
def TellsB (w : World) (S : Nat → Prop) (kf : Nat) (cap : Array Value) (ts : List Bd) (q : Bd → Bool) : Prop :=
  ∀ (i : Nat) (hi : i < ts.length) (B : Option Addr) (d : Nat) (W : World), Below w.heap.size w W → Reads S W B ts[i].t.a → ts[i].t.a.length ≤ d →
    Calls Try.prog kf (#[.agg #[.bool ts[i].is, .int .i64 ts[i].t.k, .int .i64 ts[i].t.h, .slice B ts[i].t.a.length d]] ++ cap) W fun e W' => e = .returned (.bool (q ts[i])) ∧ Below W.heap.size W W'

structure IdxRelB (q : Bd → Bool) (ts : List Bd) (w : World) (i : Nat) (wr : World) : Prop where
  le : i ≤ ts.length
  below : Below w.heap.size w wr
  no : (ts.take i).any q = false
theorem any_takeB {q : Bd → Bool} {ts : List Bd} {i : Nat} (hi : i < ts.length) (h : (ts.take i).any q = false) : (ts.take (i + 1)).any q = q ts[i] := by
  rw [List.take_add_one, List.any_append, h]
  simp [hi]

set_option maxHeartbeats 4000000 in
theorem IndexFuncB_calls (kf : Nat) (eg : ∀ args w, (callFunc kf args).run Try.prog w = .ok (.enter kf args) w) (cap : Array Value) (q : Bd → Bool) (ts : List Bd) (A : Option Addr) (c : Nat) (w : World) (hq : TellsB w (fun _ => False) kf cap ts q) (hr : RowB (fun _ => False) w A ts) :
    Calls Try.prog 44 #[.slice A ts.length c, .func (.func kf) #[] cap] w fun e w' => (∃ j : Int, e = .returned (.int .i64 j) ∧ decide (0 ≤ j) = ts.any q) ∧ Below w.heap.size w w' := by
  have hlen := hr.1
  unfold lim at hlen
  have HQ := Lib.hid hq
  clear hq
  go_enter Try.func44, Try.ntmps44
  go_wp2_with fail
  go_loopw [5, 8] (fun _ j wr => ∃ i : Nat, j = .int .i64 i ∧ IdxRelB q ts w i wr) (fun _ j _ => ts.length - (intOf j).toNat)
  case atStart => exact ⟨0, rfl, Nat.zero_le _, Below.refl _ _, rfl⟩
  case round =>
    obtain ⟨i, rfl, hrel⟩ := hrel
    have hbw := hrel.below
    by_cases hlt : i < ts.length
    · obtain ⟨ad, B, d, rfl, c0, c1, c2, c3, hd, hsub⟩ := (hr.mov hbw).2 i hlt
      have hc := HQ.out i hlt B d wr hbw hsub hd
      have ha := any_takeB hlt hrel.no
      cases hv : q ts[i]
      all_goals
        rw [hv] at hc ha
        have HC := Lib.hid hc
        have HA := Lib.hid ha
        clear hc ha hv
        go_wp2_with (refine HC.out.mono ?_; clear HC; rintro e w1 ⟨rfl, hb⟩)
      · exact ⟨⟨i + 1, by go_num, hlt, bl_then hbw hb, HA.out⟩, by simp [intOf]; omega⟩
      · go_ret
        refine ⟨⟨_, rfl, ?_⟩, bl_then hbw hb⟩
        have : ts.any q = true := by
          rw [← List.take_append_drop (i + 1) ts, List.any_append, HA.out]
          rfl
        rw [this]
        simp
    · obtain rfl : i = ts.length := by have := hrel.le; omega
      have hn := hrel.no
      rw [List.take_length] at hn
      have HN := Lib.hid hn
      clear hn hrel
      go_wp2_with fail
      go_ret
      exact ⟨⟨_, rfl, by rw [HN.out]; rfl⟩, hbw⟩

set_option maxHeartbeats 2000000 in
theorem ContainsFuncB_calls (kf : Nat) (eg : ∀ args w, (callFunc kf args).run Try.prog w = .ok (.enter kf args) w) (cap : Array Value) (q : Bd → Bool) (ts : List Bd) (A : Option Addr) (c : Nat) (w : World) (hq : TellsB w (fun _ => False) kf cap ts q) (hr : RowB (fun _ => False) w A ts) :
    Calls Try.prog 32 #[.slice A ts.length c, .func (.func kf) #[] cap] w fun e w' => e = .returned (.bool (ts.any q)) ∧ Below w.heap.size w w' := by
  have HI := Lib.hid (IndexFuncB_calls kf eg cap q ts A c w hq hr)
  go_enter Try.func32, Try.ntmps32
  go_wp2_with (go_at_call 44; refine HI.out.mono ?_; clear HI; rintro e w1 ⟨⟨j, rfl, hj⟩, hb⟩; have HJ := Lib.hid hj; clear hj)
  go_ret
  exact ⟨ret_bool HJ.out, hb⟩

end Go.Proofs.Yteojhbhaocgjoaa
