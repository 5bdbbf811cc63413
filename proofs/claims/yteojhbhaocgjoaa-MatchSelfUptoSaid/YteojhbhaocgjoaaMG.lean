/- (*matching).node over the true meta; the closure that Match hands over. -/
import Derived.Test.YteojhbhaocgjoaaMM
import Derived.Test.YteojhbhaocgjoaaCB
import Derived.Test.YteojhbhaocgjoaaOW
namespace Go.Proofs.Yteojhbhaocgjoaa
open Go.RowKit Go.Shelf
set_option linter.unusedVariables false
set_option linter.unusedSimpArgs false

theorem QM.parts {k h : Int} {a : List Tm} {t : Tm} {n : Int} (q : QM ⟨k, h, a⟩ t n) {i : Nat} (hi : i < a.length) (hj : i < t.a.length) (m : Int) : QM a[i] t.a[i] m := by
  obtain ⟨⟨q1, q2, q3⟩, q4, q5⟩ := q
  obtain ⟨tk, th, ta⟩ := t
  dsimp only at hj ⊢
  rw [hB] at q1 q4
  rw [okT] at q2
  rw [cnt] at q3 q5
  have c1 := cnt_mem (List.getElem_mem hi)
  have c2 := cnt_mem (List.getElem_mem hj)
  exact ⟨⟨hBL_iff.1 q1.2.2 _ (List.getElem_mem hi), okL_mem q2.2.2 (List.getElem_mem hi), by omega⟩, hBL_iff.1 q4.2.2 _ (List.getElem_mem hj), by omega⟩
theorem nodeM_calls (gm gb cb : Nat) (P : Option Addr) (cp : Nat) (R : Option Addr) (cr : Nat) (params rigid : List Bool) (N : Nat) (p t : Tm) (n : Int) (bs : List Bd) (A : Option Addr) (c : Nat) (A2 : Option Addr) (c2 : Nat) (w : World)
    (hq : QM p t n) (hr : Reads (fun k => k = gb) w A p.a) (hc : p.a.length ≤ c) (hr2 : Reads (fun k => k = gb) w A2 t.a) (hc2 : t.a.length ≤ c2) (hI : MI gm gb cb P cp R cr params rigid N bs w) :
    Calls Try.prog 33 #[.pointer (some ⟨gm, 0, none⟩), .agg #[.int .i64 p.k, .int .i64 p.h, .slice A p.a.length c], .agg #[.int .i64 t.k, .int .i64 t.h, .slice A2 t.a.length c2], .int .i64 n] w (RetN (some gb) (MI gm gb cb P cp R cr params rigid N) (nodeF (metaF params rigid) p t n bs) w) := by
  refine node_calls (metaF params rigid) (some gb) (MI gm gb cb P cp R cr params rigid N) (.pointer (some ⟨gm, 0, none⟩)) QM (fun s w w' h hb => h.mov hb) (fun k h a t n q i hi hj => q.parts hi hj _) (fun p t n s A c B d w hk q _ h1 h2 h3 h4 h5 => ?_) p t n bs A c A2 c2 w hq (fun g hg => by cases hg; exact hI.ob.lt) (hr.less (fun k q => by cases q; rfl)) hc (hr2.less (fun k q => by cases q; rfl)) hc2 hI
  exact meta_calls gm gb cb P cp R cr params rigid N p t n s A c B d w hk q (h1.less (fun k q => by rw [q])) h2 (h3.less (fun k q => by rw [q])) h4 h5

def oddBd (x : Bd) : Bool := x.is && !mayB x.t
set_option maxHeartbeats 2000000 in
theorem match1_calls (x : Bd) (A : Option Addr) (c : Nat) (w : World) (hr : Reads (fun _ => False) w A x.t.a) (hc : x.t.a.length ≤ c) :
    Calls Try.prog 31 #[.agg #[.bool x.is, .int .i64 x.t.k, .int .i64 x.t.h, .slice A x.t.a.length c]] w fun e w' => e = .returned (.bool (oddBd x)) ∧ Below w.heap.size w w' := by
  have HM := Lib.hid (May_calls x.t A c _ (hr.mov (bl_alloc (Below.refl w.heap.size w) (.cells #[.bool x.is, .int .i64 x.t.k, .int .i64 x.t.h, .slice A x.t.a.length c] 41))) hc)
  unfold oddBd
  generalize mayB x.t = m at *
  obtain ⟨b, hb⟩ : ∃ b, x.is = b := ⟨_, rfl⟩
  rw [hb] at HM ⊢
  cases b
  · go_enter Try.func31, Try.ntmps31
    go_wp2_with fail
    go_ret
    exact ⟨rfl, bl_alloc (Below.refl _ _) _⟩
  · go_enter Try.func31, Try.ntmps31
    go_wp2_with (go_at_call 10; refine HM.out.mono ?_; clear HM; rintro e w1 ⟨rfl, hb1⟩)
    go_ret
    exact ⟨rfl, bl_then (bl_alloc (Below.refl _ _) _) hb1⟩
end Go.Proofs.Yteojhbhaocgjoaa
