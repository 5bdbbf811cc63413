/- The contracts of package amanuensisref01: Binds, low, Size, Depth, nodes, Light, May. -/
import Derived.Test.YtaliphgdahpagaaB
namespace Go.Proofs.Ytaliphgdahpagaa
open Go.RowKit Go.Shelf

/-- What a loop over a term's parts keeps: the term's variable, and what is still to come. -/
structure TRel {α : Type} (w : World) (k h : Int) (A : Option Addr) (ts : List Tm) (c : Nat) (f : List Tm → α) (r : α) (i : Nat) (wr : World) : Prop where
  le : i ≤ ts.length
  below : Below w.heap.size w wr
  blk : Blk wr w.heap.size #[.int .i64 k, .int .i64 h, .slice A ts.length c] 24
  rest : f (ts.drop i) = r
theorem TRel.zero {α : Type} (w : World) (k h : Int) (A : Option Addr) (ts : List Tm) (c : Nat) (f : List Tm → α) : TRel w k h A ts c f (f ts) 0 (w.alloc (.cells #[.int .i64 k, .int .i64 h, .slice A ts.length c] 24)) :=
  ⟨Nat.zero_le _, bl_alloc (Below.refl _ _) _, Blk.new _ _ _, rfl⟩
theorem TRel.next {α : Type} {w : World} {k h : Int} {A : Option Addr} {ts : List Tm} {c : Nat} {f g : List Tm → α} {r : α} {i : Nat} {wr w1 : World} (hr : TRel w k h A ts c f r i wr) (hlt : i < ts.length) (hb : Below wr.heap.size wr w1)
    (hf : f (ts[i] :: ts.drop (i + 1)) = g (ts.drop (i + 1))) : TRel w k h A ts c g r (i + 1) w1 :=
  ⟨hlt, bl_then hr.below hb, hr.blk.mov hb, by rw [← hf, ← List.drop_eq_getElem_cons hlt]; exact hr.rest⟩

def bindsI (k : Int) (i : Int) (n : Nat) : Int := if ((k == 1 || k == 3) && i == (n : Int) - 1) = true then 1 else 0
set_option maxHeartbeats 1000000 in
theorem Binds_calls (k h : Int) (A : Option Addr) (n c : Nat) (i : Int) (w : World) (hn : n ≤ lim) :
    Calls Try.prog 42 #[.agg #[.int .i64 k, .int .i64 h, .slice A n c], .int .i64 i] w fun e w' => e = .returned (.int .i64 (bindsI k i n)) ∧ Below w.heap.size w w' := by
  unfold lim at hn
  obtain ⟨k1, hk1⟩ : ∃ b, (k == 1) = b := ⟨_, rfl⟩
  obtain ⟨k3, hk3⟩ : ∃ b, (k == 3) = b := ⟨_, rfl⟩
  obtain ⟨tst, htst⟩ : ∃ b, (i == (n : Int) - 1) = b := ⟨_, rfl⟩
  have hB : bindsI k i n = if ((k1 || k3) && tst) = true then 1 else 0 := by rw [← hk1, ← hk3, ← htst]; rfl
  have HB := Lib.hid hB
  clear hB
  cases k1 <;> cases k3 <;> cases tst
  all_goals
    go_enter Try.func42, Try.ntmps42
    go_wp2
    go_ret
    exact ⟨ret_int (by rw [HB.out]; rfl), bl_alloc (Below.refl _ _) _⟩

mutual
def lowB : Tm → Bool
  | ⟨_, h, a⟩ => decide (h ≤ 1099511627776) && lowL a
def lowL : List Tm → Bool
  | [] => true
  | t :: l => lowB t && lowL l
end

set_option maxHeartbeats 1000000 in
theorem low_calls (t : Tm) : ∀ (A : Option Addr) (c : Nat) (w : World), Reads (fun _ => False) w A t.a → t.a.length ≤ c →
    Calls Try.prog 17 #[.agg #[.int .i64 t.k, .int .i64 t.h, .slice A t.a.length c]] w fun e w' => e = .returned (.bool (lowB t)) ∧ Below w.heap.size w w' := by
  induction t using Tm.ind with
  | h t ih =>
  intro A c w hr hc
  obtain ⟨kk, hh, ts⟩ := t
  dsimp only at hr hc ih ⊢
  have hlen := hr.len
  unfold lim at hlen
  have IH := Lib.hid ih
  clear ih
  by_cases hhd : hh ≤ 1099511627776
  · go_enter Try.func17, Try.ntmps17
    go_wp2
    go_loopw [3] (fun j wr => ∃ (i : Nat), j = .int .i64 i ∧ TRel w kk hh A ts c lowL (lowL ts) i wr) (fun j _ => ts.length - (intOf j).toNat)
    case atStart => exact ⟨0, rfl, TRel.zero _ _ _ _ _ _ _⟩
    case round =>
      obtain ⟨i, rfl, hrel⟩ := hrel
      have g2 := hrel.blk.cell 2
      by_cases hlt : i < ts.length
      · obtain ⟨ad, B, d, rfl, -, c0, c1, c2, hd, hsub⟩ := (hr.mov hrel.below).at hlt
        have hih := IH.out ts[i] (List.getElem_mem hlt) B d wr hsub hd
        cases hv : lowB ts[i]
        all_goals
          rw [hv] at hih
          have HI := Lib.hid hih
          have HV := Lib.hid hv
          clear hih hv
          go_wp2_with (go_at_call 17; refine HI.out.mono ?_; clear HI; rintro e w1 ⟨rfl, hb⟩)
        · go_ret
          refine ⟨ret_bool ?_, bl_then hrel.below hb⟩
          rw [lowB, ← hrel.rest, List.drop_eq_getElem_cons hlt, lowL, HV.out]
          simp
        · exact ⟨⟨i + 1, by go_num, hrel.next hlt hb (by rw [lowL, HV.out, Bool.true_and])⟩, by simp [intOf]; omega⟩
      · have hi := hrel.le
        obtain rfl : i = ts.length := by omega
        go_wp2
        go_ret
        have hs := hrel.rest
        simp only [List.drop_length, lowL] at hs
        exact ⟨ret_bool (by rw [lowB, ← hs]; simp [hhd]), hrel.below⟩
  · go_enter Try.func17, Try.ntmps17
    go_wp2
    go_ret
    exact ⟨ret_bool (by rw [lowB]; simp; omega), bl_alloc (Below.refl _ _) _⟩

mutual
def sizeR : Tm → Int
  | ⟨_, _, a⟩ => sizeRL 1 a
def sizeRL : Int → List Tm → Int
  | m, [] => m
  | m, t :: l => sizeRL (wrap64 (m + sizeR t)) l
end
set_option maxHeartbeats 1000000 in
theorem SizeR_calls (t : Tm) : ∀ (A : Option Addr) (c : Nat) (w : World), Reads (fun _ => False) w A t.a → t.a.length ≤ c →
    Calls Try.prog 18 #[.agg #[.int .i64 t.k, .int .i64 t.h, .slice A t.a.length c]] w fun e w' => e = .returned (.int .i64 (sizeR t)) ∧ Below w.heap.size w w' := by
  induction t using Tm.ind with
  | h t ih =>
  intro A c w hr hc
  obtain ⟨kk, hh, ts⟩ := t
  dsimp only at hr hc ih ⊢
  have hlen := hr.len
  unfold lim at hlen
  have IH := Lib.hid ih
  clear ih
  go_enter Try.func18, Try.ntmps18
  go_wp2
  go_loopw [3, 4] (fun v j wr => ∃ (i : Nat) (m : Int), v = .int .i64 m ∧ j = .int .i64 i ∧ TRel w kk hh A ts c (sizeRL m) (sizeRL 1 ts) i wr) (fun _ j _ => ts.length - (intOf j).toNat)
  case atStart => exact ⟨0, 1, rfl, rfl, TRel.zero _ _ _ _ _ _ _⟩
  case round =>
    obtain ⟨i, m, rfl, rfl, hrel⟩ := hrel
    have g2 := hrel.blk.cell 2
    by_cases hlt : i < ts.length
    · obtain ⟨ad, B, d, rfl, -, c0, c1, c2, hd, hsub⟩ := (hr.mov hrel.below).at hlt
      have HI := Lib.hid (IH.out ts[i] (List.getElem_mem hlt) B d wr hsub hd)
      go_wp2_with (go_at_call 18; refine HI.out.mono ?_; clear HI; rintro e w1 ⟨rfl, hb⟩)
      exact ⟨⟨i + 1, wrap64 (m + sizeR ts[i]), by rfl, by go_num, hrel.next hlt hb (by rw [sizeRL])⟩, by simp [intOf]; omega⟩
    · have hi := hrel.le
      obtain rfl : i = ts.length := by omega
      go_wp2
      go_ret
      have hs := hrel.rest
      simp only [List.drop_length, sizeRL] at hs
      exact ⟨ret_int (by rw [sizeR, ← hs]), hrel.below⟩

set_option maxHeartbeats 1000000 in
theorem DepthR_calls (t : Tm) : ∀ (A : Option Addr) (c : Nat) (w : World), Reads (fun _ => False) w A t.a → t.a.length ≤ c →
    Calls Try.prog 19 #[.agg #[.int .i64 t.k, .int .i64 t.h, .slice A t.a.length c]] w fun e w' => e = .returned (.int .i64 (depthW t)) ∧ Below w.heap.size w w' := by
  induction t using Tm.ind with
  | h t ih =>
  intro A c w hr hc
  obtain ⟨kk, hh, ts⟩ := t
  dsimp only at hr hc ih ⊢
  have hlen := hr.len
  unfold lim at hlen
  have IH := Lib.hid ih
  clear ih
  go_enter Try.func19, Try.ntmps19
  go_wp2
  go_loopw [3, 4] (fun v j wr => ∃ (i : Nat) (m : Int), v = .int .i64 m ∧ j = .int .i64 i ∧ TRel w kk hh A ts c (depthL m) (depthL 0 ts) i wr) (fun _ j _ => ts.length - (intOf j).toNat)
  case atStart => exact ⟨0, 0, rfl, rfl, TRel.zero _ _ _ _ _ _ _⟩
  case round =>
    obtain ⟨i, m, rfl, rfl, hrel⟩ := hrel
    have g2 := hrel.blk.cell 2
    by_cases hlt : i < ts.length
    · obtain ⟨ad, B, d, rfl, -, c0, c1, c2, hd, hsub⟩ := (hr.mov hrel.below).at hlt
      have hih := IH.out ts[i] (List.getElem_mem hlt) B d wr hsub hd
      obtain ⟨dv, hdv⟩ : ∃ dv, depthW ts[i] = dv := ⟨_, rfl⟩
      rw [hdv] at hih
      have HI := Lib.hid hih
      have HD := Lib.hid hdv
      clear hih hdv
      by_cases hgt : m < dv
      all_goals
        go_wp2_with (go_at_call 19; refine HI.out.mono ?_; clear HI; rintro e w1 ⟨rfl, hb⟩)
      · exact ⟨⟨i + 1, dv, by rfl, by go_num, hrel.next hlt hb (by rw [depthL, HD.out, mx, if_pos hgt])⟩, by simp [intOf]; omega⟩
      · exact ⟨⟨i + 1, m, by rfl, by go_num, hrel.next hlt hb (by rw [depthL, HD.out, mx, if_neg (by omega)])⟩, by simp [intOf]; omega⟩
    · have hi := hrel.le
      obtain rfl : i = ts.length := by omega
      go_wp2
      go_ret
      have hs := hrel.rest
      simp only [List.drop_length, depthL] at hs
      exact ⟨ret_int (by rw [depthW, ← hs]), hrel.below⟩
end Go.Proofs.Ytaliphgdahpagaa
