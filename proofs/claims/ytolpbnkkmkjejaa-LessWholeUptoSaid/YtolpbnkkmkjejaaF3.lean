/- The contracts of package amanuensisref01: nodes, Light, May; what is counted is the same both ways. -/
import Derived.Test.YtolpbnkkmkjejaaF2
namespace Go.Proofs.Ytolpbnkkmkjejaa
open Go.RowKit Go.Shelf

mutual
def nodesOk : Tm → Bool
  | ⟨k, h, a⟩ => mayN k h a.length && nodesOkL a
def nodesOkL : List Tm → Bool
  | [] => true
  | t :: l => nodesOk t && nodesOkL l
end

mutual
def cnt : Tm → Nat
  | ⟨_, _, a⟩ => 1 + cntL a
def cntL : List Tm → Nat
  | [] => 0
  | t :: l => cnt t + cntL l
end
theorem wrap_add (a b : Int) : wrap64 (wrap64 a + wrap64 b) = wrap64 (a + b) := by
  unfold wrap64
  omega
mutual
theorem sizeR_eq : ∀ t : Tm, sizeR t = wrap64 (cnt t : Int)
  | ⟨_, _, a⟩ => by
    have h := sizeRL_eq a 1
    have e : wrap64 ((1 : Nat) : Int) = 1 := by unfold wrap64; omega
    rw [e] at h
    rw [sizeR, cnt, h]
theorem sizeRL_eq : ∀ (l : List Tm) (m : Nat), sizeRL (wrap64 (m : Int)) l = wrap64 ((m + cntL l : Nat) : Int)
  | [], m => by rw [sizeRL, cntL]; rfl
  | t :: l, m => by
    rw [sizeRL, sizeR_eq t, wrap_add, ← Int.natCast_add, sizeRL_eq l, cntL, Nat.add_assoc]
end
mutual
theorem nodesW_len : ∀ (t : Tm) (n : Int), (nodesW t n).length = cnt t
  | ⟨k, h, a⟩, n => by rw [nodesW, cnt, List.length_cons, nodesL_len]; omega
theorem nodesL_len : ∀ (b : Bool) (l : List Tm) (n : Int), (nodesL b l n).length = cntL l
  | _, [], _ => rfl
  | b, t :: l, n => by rw [nodesL, cntL, List.length_append, nodesW_len, nodesL_len]
end
theorem sizeW_eq (t : Tm) : sizeW t = sizeR t := by rw [sizeW, nodesW_len, sizeR_eq]
mutual
theorem nodesW_ok : ∀ (t : Tm) (n : Int), ((nodesW t n).all fun x => mayN x.2.k x.2.h x.2.a.length) = nodesOk t
  | ⟨k, h, a⟩, n => by rw [nodesW, nodesOk, List.all_cons, nodesL_ok]
theorem nodesL_ok : ∀ (b : Bool) (l : List Tm) (n : Int), ((nodesL b l n).all fun x => mayN x.2.k x.2.h x.2.a.length) = nodesOkL l
  | _, [], _ => rfl
  | b, t :: l, n => by rw [nodesL, nodesOkL, List.all_append, nodesW_ok, nodesL_ok]
end
theorem mayB_eq (t : Tm) : mayB t = (decide (depthW t ≤ 60) && (decide (sizeR t ≤ 4000) && nodesOk t)) := by rw [mayB, sizeW_eq, nodesW_ok]

def lightB (t : Tm) (n d : Int) : Bool := lowB t && (decide (sizeR t ≤ n) && decide (depthW t ≤ d))

set_option maxHeartbeats 1000000 in
theorem Light_calls (t : Tm) (A : Option Addr) (c : Nat) (n d : Int) (w : World) (hr : Reads (fun _ => False) w A t.a) (hc : t.a.length ≤ c) :
    Calls Try.prog 10 #[.agg #[.int .i64 t.k, .int .i64 t.h, .slice A t.a.length c], .int .i64 n, .int .i64 d] w fun e w' => e = .returned (.bool (lightB t n d)) ∧ Below w.heap.size w w' := by
  have hbo : Below w.heap.size w (w.alloc (.cells #[.int .i64 t.k, .int .i64 t.h, .slice A t.a.length c] 26)) := bl_alloc (Below.refl _ _) _
  have HB := Lib.hid hbo
  have hbk := Blk.new w #[.int .i64 t.k, .int .i64 t.h, .slice A t.a.length c] 26
  have HK := Lib.hid hbk
  have hD := fun (W : World) (hb : Below w.heap.size w W) => low_calls t A c W (hr.mov hb) hc
  have hS := fun (W : World) (hb : Below w.heap.size w W) => SizeR_calls t A c W (hr.mov hb) hc
  have hA := fun (W : World) (hb : Below w.heap.size w W) => DepthR_calls t A c W (hr.mov hb) hc
  have HD := Lib.hid hD
  have HS := Lib.hid hS
  have HA := Lib.hid hA
  clear hbo hbk hD hS hA
  have hm : lightB t n d = (lowB t && (decide (sizeR t ≤ n) && decide (depthW t ≤ d))) := rfl
  generalize sizeR t = sz at *
  generalize depthW t = de at *
  generalize lowB t = al at *
  cases al
  · have HM := Lib.hid hm
    clear hm
    go_enter Try.func10, Try.ntmps10
    go_wp2_with (go_at_call 21; refine (HD.out _ HB.out).mono ?_; clear HD; rintro e w1 ⟨rfl, hb⟩)
    go_ret
    exact ⟨ret_bool (by rw [HM.out]; rfl), bl_then HB.out hb⟩
  · cases h2 : decide (sz ≤ n)
    · rw [h2] at hm
      have HM := Lib.hid hm
      clear hm
      go_enter Try.func10, Try.ntmps10
      go_wp2_with (first
        | (go_at_call 21; refine (HD.out _ HB.out).mono ?_; clear HD; rintro e w1 ⟨rfl, hb⟩; have q := HK.out.mov hb; have q0 := q.cell 0; have q1 := q.cell 1; have q2 := q.cell 2; clear q)
        | (go_at_call 22; refine (HS.out _ (bl_then HB.out hb)).mono ?_; clear HS; rintro e w2 ⟨rfl, hb2⟩))
      go_ret
      exact ⟨ret_bool (by rw [HM.out]; rfl), bl_then (bl_then HB.out hb) hb2⟩
    · rw [h2] at hm
      have HM := Lib.hid hm
      clear hm
      go_enter Try.func10, Try.ntmps10
      go_wp2_with (first
        | (go_at_call 21; refine (HD.out _ HB.out).mono ?_; clear HD; rintro e w1 ⟨rfl, hb⟩; have q := HK.out.mov hb; have q0 := q.cell 0; have q1 := q.cell 1; have q2 := q.cell 2; clear q)
        | (go_at_call 22; refine (HS.out _ (bl_then HB.out hb)).mono ?_; clear HS; rintro e w2 ⟨rfl, hb2⟩; have p := (HK.out.mov hb).mov hb2; have p0 := p.cell 0; have p1 := p.cell 1; have p2 := p.cell 2; clear p)
        | (go_at_call 23; refine (HA.out _ (bl_then (bl_then HB.out hb) hb2)).mono ?_; clear HA; rintro e w3 ⟨rfl, hb3⟩))
      go_ret
      exact ⟨ret_bool (by rw [HM.out]; rfl), bl_then (bl_then (bl_then HB.out hb) hb2) hb3⟩
end Go.Proofs.Ytolpbnkkmkjejaa
