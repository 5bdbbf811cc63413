/- The contracts of package term: may, Depth, May. -/
import Derived.Test.YtaliphgdahpagaaT2
namespace Go.Proofs.Ytaliphgdahpagaa
open Go.RowKit Go.Shelf
attribute [local go_sem] Oper.semAt_some

theorem ret_bool {a b : Bool} (h : a = b) : Ending.returned (.bool a) = Ending.returned (.bool b) := by rw [h]
theorem ret_int {a b : Int} (h : a = b) : Ending.returned (.int .i64 a) = Ending.returned (.int .i64 b) := by rw [h]

/-- May a node of this kind, head and number of parts be? -/
def mayN (k h : Int) (n : Nat) : Bool :=
  if k = 0 then decide (h = 0) && decide (n = 0) else if k = 1 then decide (h = 0) && decide (n = 2) else if k = 3 then decide (h = 0) && decide (n = 1) else decide (0 ≤ k) && decide (k < 7) && decide (0 ≤ h)

set_option maxHeartbeats 1000000 in
theorem may_calls (k h : Int) (A : Option Addr) (n c : Nat) (w : World) :
    Calls Try.prog 30 #[.agg #[.int .i64 k, .int .i64 h, .slice A n c]] w fun e w' => e = .returned (.bool (mayN k h n)) ∧ Below w.heap.size w w' := by
  go_enter Try.func30, Try.ntmps30
  go_wp2
  all_goals go_ret
  all_goals refine ⟨ret_bool ?_, bl_alloc (Below.refl _ _) _⟩
  all_goals (subst_vars; (try simp only [mayN, *]); first | rfl | (simp; done) | (simp_all; done) | grind)

set_option maxHeartbeats 1000000 in
theorem may1_calls (i k h : Int) (A : Option Addr) (n c : Nat) (w : World) :
    Calls Try.prog 29 #[.int .i64 i, .agg #[.int .i64 k, .int .i64 h, .slice A n c]] w fun e w' => e = .returned (.bool (mayN k h n)) ∧ Below w.heap.size w w' := by
  go_enter Try.func29, Try.ntmps29
  go_wp2_with (go_at_call 30; refine (may_calls _ _ _ _ _ _).mono ?_; rintro e w1 ⟨rfl, hb⟩)
  go_ret
  exact ⟨rfl, bl_then (bl_alloc (Below.refl _ _) _) hb⟩

def mx (a b : Int) : Int := if a < b then b else a
mutual
def depthW : Tm → Int
  | ⟨_, _, a⟩ => wrap64 (depthL 0 a + 1)
def depthL : Int → List Tm → Int
  | m, [] => m
  | m, t :: l => depthL (mx m (depthW t)) l
end

structure DepthRel (w : World) (A : Option Addr) (ts : List Tm) (i : Nat) (m : Int) (wr : World) : Prop where
  le : i ≤ ts.length
  below : Below w.heap.size w wr
  sum : depthL m (ts.drop i) = depthL 0 ts

set_option maxHeartbeats 1000000 in
theorem depth_calls (t : Tm) : ∀ (A : Option Addr) (c : Nat) (w : World), Reads (fun _ => False) w A t.a → t.a.length ≤ c →
    Calls Try.prog 26 #[.agg #[.int .i64 t.k, .int .i64 t.h, .slice A t.a.length c]] w fun e w' => e = .returned (.int .i64 (depthW t)) ∧ Below w.heap.size w w' := by
  induction t using Tm.ind with
  | h t ih =>
  intro A c w hr hc
  obtain ⟨kk, hh, ts⟩ := t
  dsimp only at hr hc ih ⊢
  have hlen := hr.len
  unfold lim at hlen
  have IH := Lib.hid ih
  clear ih
  go_enter Try.func26, Try.ntmps26
  go_wp2
  go_loopw [3, 9] (fun v j wr => ∃ (i : Nat) (m : Int), v = .int .i64 m ∧ j = .int .i64 i ∧ DepthRel w A ts i m wr) (fun _ j _ => ts.length - (intOf j).toNat)
  case atStart => exact ⟨0, 0, rfl, rfl, Nat.zero_le _, bl_alloc (Below.refl _ _) _, rfl⟩
  case round =>
    obtain ⟨i, m, rfl, rfl, hrel⟩ := hrel
    by_cases hlt : i < ts.length
    · obtain ⟨ad, B, d, rfl, -, c0, c1, c2, hd, hsub⟩ := (hr.mov hrel.below).at hlt
      have hih := fun (W : World) (hb : Below wr.heap.size wr W) => IH.out ts[i] (List.getElem_mem hlt) B d W (hsub.mov hb) hd
      have HI := Lib.hid hih
      have hbo : Below wr.heap.size wr (wr.alloc (.cells #[.int .i64 ts[i].k, .int .i64 ts[i].h, .slice B ts[i].a.length d] 24)) := bl_alloc (Below.refl _ _) _
      have HB := Lib.hid hbo
      clear hih hbo
      go_wp2_with (go_at_call 26; refine (HI.out _ HB.out).mono ?_; clear HI; rintro e w1 ⟨rfl, hb⟩)
      refine ⟨⟨i + 1, mx m (depthW ts[i]), rfl, by go_num, hlt, bl_then (bl_then hrel.below HB.out) hb, ?_⟩, by simp [intOf]; omega⟩
      rw [← hrel.sum, List.drop_eq_getElem_cons hlt, depthL]
    · have hi := hrel.le
      obtain rfl : i = ts.length := by omega
      have hs := hrel.sum
      simp only [List.drop_length, depthL] at hs
      have HS := Lib.hid hs
      clear hs
      go_wp2
      go_ret
      exact ⟨ret_int (by rw [depthW, ← HS.out]), hrel.below⟩
theorem may1_asks (w : World) : Asks w (fun _ => False) 29 #[] (fun _ s => mayN s.k s.h s.a.length) := by
  intro n s B d W _ _ _
  exact may1_calls n s.k s.h B s.a.length d W

def sizeW (t : Tm) : Int := wrap64 ((nodesW t 0).length : Int)
def mayB (t : Tm) : Bool := decide (depthW t ≤ 60) && (decide (sizeW t ≤ 4000) && (nodesW t 0).all fun x => mayN x.2.k x.2.h x.2.a.length)

set_option maxHeartbeats 1000000 in
theorem May_calls (t : Tm) (A : Option Addr) (c : Nat) (w : World) (hr : Reads (fun _ => False) w A t.a) (hc : t.a.length ≤ c) :
    Calls Try.prog 12 #[.agg #[.int .i64 t.k, .int .i64 t.h, .slice A t.a.length c]] w fun e w' => e = .returned (.bool (mayB t)) ∧ Below w.heap.size w w' := by
  have hbo : Below w.heap.size w (w.alloc (.cells #[.int .i64 t.k, .int .i64 t.h, .slice A t.a.length c] 24)) := bl_alloc (Below.refl _ _) _
  have HB := Lib.hid hbo
  have hbk := Blk.new w #[.int .i64 t.k, .int .i64 t.h, .slice A t.a.length c] 24
  have HK := Lib.hid hbk
  have hD := fun (W : World) (hb : Below w.heap.size w W) => depth_calls t A c W (hr.mov hb) hc
  have hS := fun (W : World) (hb : Below w.heap.size w W) => size_calls t A c W (hr.mov hb) hc
  have hA := fun (W : World) (hb : Below w.heap.size w W) => all_calls 29 (enters_of Try.func29 (by kernel_rfl) rfl) #[] _ t A c W (may1_asks W) (hr.mov hb) hc
  have HD := Lib.hid hD
  have HS := Lib.hid hS
  have HA := Lib.hid hA
  clear hbo hbk hD hS hA
  have hm : mayB t = (decide (depthW t ≤ 60) && (decide (sizeW t ≤ 4000) && (nodesW t 0).all fun x => mayN x.2.k x.2.h x.2.a.length)) := rfl
  generalize (nodesW t 0).all (fun x => mayN x.2.k x.2.h x.2.a.length) = al at *
  unfold sizeW at hm
  generalize wrap64 ((nodesW t 0).length : Int) = sz at *
  generalize depthW t = de at *
  cases h1 : decide (de ≤ 60)
  · rw [h1] at hm
    have HM := Lib.hid hm
    clear hm
    go_enter Try.func12, Try.ntmps12
    go_wp2_with (go_at_call 26; refine (HD.out _ HB.out).mono ?_; clear HD; rintro e w1 ⟨rfl, hb⟩)
    go_ret
    exact ⟨ret_bool (by rw [HM.out]; rfl), bl_then HB.out hb⟩
  · cases h2 : decide (sz ≤ 4000)
    · rw [h1, h2] at hm
      have HM := Lib.hid hm
      clear hm
      go_enter Try.func12, Try.ntmps12
      go_wp2_with (first
        | (go_at_call 26; refine (HD.out _ HB.out).mono ?_; clear HD; rintro e w1 ⟨rfl, hb⟩; have q := HK.out.mov hb; have q0 := q.cell 0; have q1 := q.cell 1; have q2 := q.cell 2; clear q)
        | (go_at_call 27; refine (HS.out _ (bl_then HB.out hb)).mono ?_; clear HS; rintro e w2 ⟨rfl, hb2⟩))
      go_ret
      exact ⟨ret_bool (by rw [HM.out]; rfl), bl_then (bl_then HB.out hb) hb2⟩
    · rw [h1, h2] at hm
      have HM := Lib.hid hm
      clear hm
      go_enter Try.func12, Try.ntmps12
      go_wp2_with (first
        | (go_at_call 26; refine (HD.out _ HB.out).mono ?_; clear HD; rintro e w1 ⟨rfl, hb⟩; have q := HK.out.mov hb; have q0 := q.cell 0; have q1 := q.cell 1; have q2 := q.cell 2; clear q)
        | (go_at_call 27; refine (HS.out _ (bl_then HB.out hb)).mono ?_; clear HS; rintro e w2 ⟨rfl, hb2⟩; have p := (HK.out.mov hb).mov hb2; have p0 := p.cell 0; have p1 := p.cell 1; have p2 := p.cell 2; clear p)
        | (go_at_call 28; refine (HA.out _ (bl_then (bl_then HB.out hb) hb2)).mono ?_; clear HA; rintro e w3 ⟨rfl, hb3⟩))
      go_ret
      exact ⟨ret_bool (by rw [HM.out]; rfl), bl_then (bl_then (bl_then HB.out hb) hb2) hb3⟩
end Go.Proofs.Ytaliphgdahpagaa
