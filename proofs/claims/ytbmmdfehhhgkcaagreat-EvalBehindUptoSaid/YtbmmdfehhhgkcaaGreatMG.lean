/- The contracts of slices.IndexFunc and slices.ContainsFunc over binds. (*matching).node over the true meta; the closure that Match hands over. -/
import Derived.Test.YtbmmdfehhhgkcaaGreatBD
import Derived.Test.YtbmmdfehhhgkcaaGreatMM
import Derived.Test.YtbmmdfehhhgkcaaGreatOW
namespace Go.Proofs.YtbmmdfehhhgkcaaGreat
open Go.RowKit Go.Shelf
set_option linter.unusedVariables false
set_option linter.unusedSimpArgs false

/-- A function value that tells of a bind what q says. -/
def TellsB (w : World) (S : Nat → Prop) (kf : Nat) (cap : Array Value) (ts : List Bd) (q : Bd → Bool) : Prop :=
  ∀ (i : Nat) (hi : i < ts.length) (B : Option Addr) (d : Nat) (W : World), Below w.heap.size w W → Reads S W B ts[i].t.a → ts[i].t.a.length ≤ d →
    Calls Tryz.prog kf (#[.agg #[.bool ts[i].is, .int .i64 ts[i].t.k, .int .i64 ts[i].t.h, .slice B ts[i].t.a.length d]] ++ cap) W fun e W' => e = .returned (.bool (q ts[i])) ∧ Below W.heap.size W W'

structure IdxRelB (q : Bd → Bool) (ts : List Bd) (w : World) (i : Nat) (wr : World) : Prop where
  le : i ≤ ts.length
  below : Below w.heap.size w wr
  no : (ts.take i).any q = false
theorem any_takeB {q : Bd → Bool} {ts : List Bd} {i : Nat} (hi : i < ts.length) (h : (ts.take i).any q = false) : (ts.take (i + 1)).any q = q ts[i] := by
  rw [List.take_add_one, List.any_append, h]
  simp [hi]

set_option maxHeartbeats 4000000 in
theorem IndexFuncB_calls (kf : Nat) (eg : ∀ args w, (callFunc kf args).run Tryz.prog w = .ok (.enter kf args) w) (cap : Array Value) (q : Bd → Bool) (ts : List Bd) (A : Option Addr) (c : Nat) (w : World) (hq : TellsB w (fun _ => False) kf cap ts q) (hr : RowB (fun _ => False) w A ts) :
    Calls Tryz.prog 61 #[.slice A ts.length c, .func (.func kf) #[] cap] w fun e w' => (∃ j : Int, e = .returned (.int .i64 j) ∧ decide (0 ≤ j) = ts.any q) ∧ Below w.heap.size w w' := by
  have hlen := hr.1
  unfold lim at hlen
  have HQ := Lib.hid hq
  clear hq
  go_enter Tryz.func61, Tryz.ntmps61
  go_wp2_with fail
  go_loopw [5, 8] (fun _ j wr => ∃ i : Nat, j = .int .i64 i ∧ IdxRelB q ts w i wr) (fun _ j _ => ts.length - (intOf j).toNat)
  case atStart => exact ⟨0, rfl, Nat.zero_le _, Below.refl _ _, rfl⟩
  case round =>
    obtain ⟨i, rfl, hrel⟩ := hrel
    have hbw := hrel.below
    by_cases hlt : i < ts.length
    · obtain ⟨ad, B, d, rfl, c0, c1, c2, c3, hd, hsub⟩ := (hr.mov hbw).2 i hlt
      have hc := HQ.out i hlt B d wr hbw hsub hd
      have ha := any_takeB hlt hrel.no
      cases hv : q ts[i]
      all_goals
        rw [hv] at hc ha
        have HC := Lib.hid hc
        have HA := Lib.hid ha
        clear hc ha hv
        go_wp2_with (refine HC.out.mono ?_; clear HC; rintro e w1 ⟨rfl, hb⟩)
      · exact ⟨⟨i + 1, by go_num, hlt, bl_then hbw hb, HA.out⟩, by simp [intOf]; omega⟩
      · go_ret
        refine ⟨⟨_, rfl, ?_⟩, bl_then hbw hb⟩
        have : ts.any q = true := by
          rw [← List.take_append_drop (i + 1) ts, List.any_append, HA.out]
          rfl
        rw [this]
        simp
    · obtain rfl : i = ts.length := by have := hrel.le; omega
      have hn := hrel.no
      rw [List.take_length] at hn
      have HN := Lib.hid hn
      clear hn hrel
      go_wp2_with fail
      go_ret
      exact ⟨⟨_, rfl, by rw [HN.out]; rfl⟩, hbw⟩

set_option maxHeartbeats 2000000 in
theorem ContainsFuncB_calls (kf : Nat) (eg : ∀ args w, (callFunc kf args).run Tryz.prog w = .ok (.enter kf args) w) (cap : Array Value) (q : Bd → Bool) (ts : List Bd) (A : Option Addr) (c : Nat) (w : World) (hq : TellsB w (fun _ => False) kf cap ts q) (hr : RowB (fun _ => False) w A ts) :
    Calls Tryz.prog 39 #[.slice A ts.length c, .func (.func kf) #[] cap] w fun e w' => e = .returned (.bool (ts.any q)) ∧ Below w.heap.size w w' := by
  have HI := Lib.hid (IndexFuncB_calls kf eg cap q ts A c w hq hr)
  go_enter Tryz.func39, Tryz.ntmps39
  go_wp2_with (go_at_call 61; refine HI.out.mono ?_; clear HI; rintro e w1 ⟨⟨j, rfl, hj⟩, hb⟩; have HJ := Lib.hid hj; clear hj)
  go_ret
  exact ⟨ret_bool HJ.out, hb⟩

end Go.Proofs.YtbmmdfehhhgkcaaGreat
namespace Go.Proofs.YtbmmdfehhhgkcaaGreat
open Go.RowKit Go.Shelf
set_option linter.unusedVariables false
set_option linter.unusedSimpArgs false

theorem QM.parts {k h : Int} {a : List Tm} {t : Tm} {n : Int} (q : QM ⟨k, h, a⟩ t n) {i : Nat} (hi : i < a.length) (hj : i < t.a.length) (m : Int) : QM a[i] t.a[i] m := by
  obtain ⟨⟨q1, q2, q3⟩, q4, q5⟩ := q
  obtain ⟨tk, th, ta⟩ := t
  dsimp only at hj ⊢
  rw [hB] at q1 q4
  rw [okT] at q2
  rw [cnt] at q3 q5
  have c1 := cnt_mem (List.getElem_mem hi)
  have c2 := cnt_mem (List.getElem_mem hj)
  exact ⟨⟨hBL_iff.1 q1.2.2 _ (List.getElem_mem hi), okL_mem q2.2.2 (List.getElem_mem hi), by omega⟩, hBL_iff.1 q4.2.2 _ (List.getElem_mem hj), by omega⟩
theorem nodeM_calls (gm gb cb : Nat) (P : Option Addr) (cp : Nat) (R : Option Addr) (cr : Nat) (params rigid : List Bool) (N : Nat) (p t : Tm) (n : Int) (bs : List Bd) (A : Option Addr) (c : Nat) (A2 : Option Addr) (c2 : Nat) (w : World)
    (hq : QM p t n) (hr : Reads (fun k => k = gb) w A p.a) (hc : p.a.length ≤ c) (hr2 : Reads (fun k => k = gb) w A2 t.a) (hc2 : t.a.length ≤ c2) (hI : MI gm gb cb P cp R cr params rigid N bs w) :
    Calls Tryz.prog 40 #[.pointer (some ⟨gm, 0, none⟩), .agg #[.int .i64 p.k, .int .i64 p.h, .slice A p.a.length c], .agg #[.int .i64 t.k, .int .i64 t.h, .slice A2 t.a.length c2], .int .i64 n] w (RetN (some gb) (MI gm gb cb P cp R cr params rigid N) (nodeF (metaF params rigid) p t n bs) w) := by
  refine node_calls (metaF params rigid) (some gb) (MI gm gb cb P cp R cr params rigid N) (.pointer (some ⟨gm, 0, none⟩)) QM (fun s w w' h hb => h.mov hb) (fun k h a t n q i hi hj => q.parts hi hj _) (fun p t n s A c B d w hk q _ h1 h2 h3 h4 h5 => ?_) p t n bs A c A2 c2 w hq (fun g hg => by cases hg; exact hI.ob.lt) (hr.less (fun k q => by cases q; rfl)) hc (hr2.less (fun k q => by cases q; rfl)) hc2 hI
  exact meta_calls gm gb cb P cp R cr params rigid N p t n s A c B d w hk q (h1.less (fun k q => by rw [q])) h2 (h3.less (fun k q => by rw [q])) h4 h5

def oddBd (x : Bd) : Bool := x.is && !mayB x.t
set_option maxHeartbeats 2000000 in
theorem match1_calls (x : Bd) (A : Option Addr) (c : Nat) (w : World) (hr : Reads (fun _ => False) w A x.t.a) (hc : x.t.a.length ≤ c) :
    Calls Tryz.prog 37 #[.agg #[.bool x.is, .int .i64 x.t.k, .int .i64 x.t.h, .slice A x.t.a.length c]] w fun e w' => e = .returned (.bool (oddBd x)) ∧ Below w.heap.size w w' := by
  have HM := Lib.hid (May_calls x.t A c _ (hr.mov (bl_alloc (Below.refl w.heap.size w) (.cells #[.bool x.is, .int .i64 x.t.k, .int .i64 x.t.h, .slice A x.t.a.length c] 78))) hc)
  unfold oddBd
  generalize mayB x.t = m at *
  obtain ⟨b, hb⟩ : ∃ b, x.is = b := ⟨_, rfl⟩
  rw [hb] at HM ⊢
  cases b
  · go_enter Tryz.func37, Tryz.ntmps37
    go_wp2_with fail
    go_ret
    exact ⟨rfl, bl_alloc (Below.refl _ _) _⟩
  · go_enter Tryz.func37, Tryz.ntmps37
    go_wp2_with (go_at_call 38; refine HM.out.mono ?_; clear HM; rintro e w1 ⟨rfl, hb1⟩)
    go_ret
    exact ⟨rfl, bl_then (bl_alloc (Below.refl _ _) _) hb1⟩
end Go.Proofs.YtbmmdfehhhgkcaaGreat
