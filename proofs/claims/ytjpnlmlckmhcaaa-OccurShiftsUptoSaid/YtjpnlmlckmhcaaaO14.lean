/- The contract of amanuensislaw05.in, and what the parts of a term have to do with it. -/
import Derived.Test.YtjpnlmlckmhcaaaO13
namespace Go.Proofs.Ytjpnlmlckmhcaaa
open Go.RowKit Go.Shelf

mutual
theorem nodesW_up (m : Int) (hm : 0 ≤ m) : ∀ (t : Tm) (n : Int), 0 ≤ n → n + m + cnt t ≤ 4611686018427387904 → nodesW t (n + m) = (nodesW t n).map fun x => (x.1 + m, x.2)
  | ⟨k, h, a⟩, n, h0, h1 => by
    rw [cnt] at h1
    rw [nodesW, nodesW, nodesL_up m hm (isB k) a n h0 (by omega)]
    rfl
theorem nodesL_up (m : Int) (hm : 0 ≤ m) : ∀ (b : Bool) (l : List Tm) (n : Int), 0 ≤ n → n + m + cntL l + 1 ≤ 4611686018427387904 → nodesL b l (n + m) = (nodesL b l n).map fun x => (x.1 + m, x.2)
  | b, [], n, _, _ => by rw [nodesL, nodesL]; rfl
  | b, t :: l, n, h0, h1 => by
    rw [cntL] at h1
    have hl : lastN b l (n + m) = lastN b l n + m ∧ 0 ≤ lastN b l n ∧ lastN b l n ≤ n + 1 := by
      unfold lastN
      split
      · have e1 : wrap64 (n + m + 1) = n + m + 1 := by unfold wrap64; omega
        have e2 : wrap64 (n + 1) = n + 1 := by unfold wrap64; omega
        rw [e1, e2]
        omega
      · omega
    rw [nodesL, nodesL, hl.1, nodesW_up m hm t (lastN b l n) hl.2.1 (by omega), nodesL_up m hm b l n h0 (by omega), List.map_append]
end
mutual
/-- The binders that stand around a node are not so many. -/
theorem nodesW_low : ∀ (t : Tm) (n : Int), 0 ≤ n → n + cnt t ≤ 4611686018427387904 → ∀ x ∈ nodesW t n, n ≤ x.1 ∧ x.1 ≤ 4611686018427387904
  | ⟨k, h, a⟩, n, h0, h1, x, hx => by
    rw [cnt] at h1
    rw [nodesW] at hx
    rcases List.mem_cons.1 hx with rfl | hx
    · exact ⟨Int.le_refl _, by show n ≤ _; omega⟩
    · exact nodesL_low (isB k) a n h0 (by omega) x hx
theorem nodesL_low : ∀ (b : Bool) (l : List Tm) (n : Int), 0 ≤ n → n + cntL l + 1 ≤ 4611686018427387904 → ∀ x ∈ nodesL b l n, n ≤ x.1 ∧ x.1 ≤ 4611686018427387904
  | b, [], n, _, _, x, hx => by rw [nodesL] at hx; cases hx
  | b, t :: l, n, h0, h1, x, hx => by
    rw [cntL] at h1
    rw [nodesL] at hx
    have hl : n ≤ lastN b l n ∧ lastN b l n ≤ n + 1 := by
      unfold lastN
      split
      · have e2 : wrap64 (n + 1) = n + 1 := by unfold wrap64; omega
        rw [e2]
        omega
      · omega
    rcases List.mem_append.1 hx with hx | hx
    · have := nodesW_low t (lastN b l n) (by omega) (by omega) x hx
      omega
    · exact nodesL_low b l n h0 (by omega) x hx
end
theorem nodesL_part {b : Bool} {ts : List Tm} {n : Int} {i : Nat} (hlt : i < ts.length) : ∀ x ∈ nodesW ts[i] (lastN b (ts.drop (i + 1)) n), x ∈ nodesL b ts n := by
  induction ts generalizing i with
  | nil => simp at hlt
  | cons t l ih =>
    intro x hx
    rw [nodesL]
    cases i with
    | zero => exact List.mem_append_left _ (by simpa using hx)
    | succ i => exact List.mem_append_right _ (ih (by simpa using hlt) x (by simpa using hx))

theorem metas_part {k h : Int} {ts : List Tm} {i : Nat} (hlt : i < ts.length) (hn : cnt ⟨k, h, ts⟩ ≤ 1048576) {z : Int} (hz : z ∈ metasOf (nodesW ts[i] 0)) : z ∈ metasOf (nodesW ⟨k, h, ts⟩ 0) := by
  obtain ⟨x, hx, e⟩ := List.mem_filterMap.1 hz
  have hb : 0 ≤ lastN (isB k) (ts.drop (i + 1)) 0 ∧ lastN (isB k) (ts.drop (i + 1)) 0 ≤ 1 := by
    unfold lastN
    split
    · have e2 : wrap64 (0 + 1) = 1 := by unfold wrap64; omega
      rw [e2]
      omega
    · omega
  have hc : cnt ts[i] ≤ 1048576 := by
    have h1 : cntL ts = cntL (ts.drop 0) := rfl
    have : ∀ j, j ≤ i → cntL (ts.drop i) ≤ cntL (ts.drop (i - j)) := by
      intro j
      induction j with
      | zero => intro _; exact Nat.le_refl _
      | succ j ihj =>
        intro hj
        have a := ihj (by omega)
        have b := cntL_at (ts := ts) (i := i - (j + 1)) (by omega)
        rw [show i - (j + 1) + 1 = i - j from by omega] at b
        omega
    have h2 := this i (Nat.le_refl _)
    rw [Nat.sub_self] at h2
    have h3 := cntL_at (ts := ts) hlt
    rw [cnt] at hn
    omega
  have hu := nodesW_up (lastN (isB k) (ts.drop (i + 1)) 0) hb.1 ts[i] 0 (Int.le_refl _) (by omega)
  rw [Int.zero_add] at hu
  refine List.mem_filterMap.2 ⟨(x.1 + lastN (isB k) (ts.drop (i + 1)) 0, x.2), ?_, e⟩
  rw [nodesW]
  exact List.mem_cons_of_mem _ (nodesL_part hlt _ (by rw [hu]; exact List.mem_map.2 ⟨x, hx, rfl⟩))

theorem cnt_part {ts : List Tm} {i : Nat} (hlt : i < ts.length) : cnt ts[i] ≤ cntL ts := by
  induction ts generalizing i with
  | nil => simp at hlt
  | cons t l ih =>
    rw [cntL]
    cases i with
    | zero => simp
    | succ i =>
      have := ih (i := i) (by simpa using hlt)
      simp only [List.getElem_cons_succ]
      omega
theorem okL_at {ts : List Tm} (h : okL ts) {i : Nat} (hlt : i < ts.length) : okT ts[i] := by
  induction ts generalizing i with
  | nil => simp at hlt
  | cons t l ih =>
    rw [okL] at h
    cases i with
    | zero => exact h.1
    | succ i => exact ih h.2 (by simpa using hlt)

theorem vars_part {k h : Int} {ts : List Tm} {i : Nat} (hlt : i < ts.length) (hn : cnt ⟨k, h, ts⟩ ≤ 1048576) (hk : okL ts) {z : Int} (hz : z ∈ varsOf (nodesW ts[i] 0)) (hb : bindsI k i ts.length ≤ z) :
    z - bindsI k i ts.length ∈ varsOf (nodesW ⟨k, h, ts⟩ 0) := by
  obtain ⟨x, hx, e⟩ := List.mem_filterMap.1 hz
  have hc := cnt_part hlt
  rw [cnt] at hn
  have hl := lastN_binds (kk := k) (n := 0) hlt (by unfold inI; omega)
  rw [Int.zero_add] at hl
  have hbi : bindsI k i ts.length = 0 ∨ bindsI k i ts.length = 1 := bindsI_01 k i ts.length
  have hw : wrap64 (bindsI k i ts.length) = bindsI k i ts.length := by rcases hbi with q | q <;> rw [q] <;> unfold wrap64 <;> omega
  rw [hw] at hl
  generalize bindsI k i ts.length = b at *
  have hlow := nodesW_low ts[i] 0 (Int.le_refl _) (by omega) x hx
  have hin := okT_nodes ts[i] 0 (okL_at hk hlt) x hx
  unfold inH at hin
  have hu := nodesW_up b (by omega) ts[i] 0 (Int.le_refl _) (by omega)
  rw [Int.zero_add] at hu
  split at e
  · rename_i hc4
    have e2 := Option.some.inj e
    have hw2 : wrap64 (x.2.h - x.1) = x.2.h - x.1 := by unfold wrap64; omega
    rw [hw2] at e2
    refine List.mem_filterMap.2 ⟨(x.1 + b, x.2), ?_, ?_⟩
    · rw [nodesW]
      refine List.mem_cons_of_mem _ (nodesL_part hlt _ ?_)
      rw [← hl, hu]
      exact List.mem_map.2 ⟨x, hx, rfl⟩
    · dsimp only
      rw [if_pos ⟨hc4.1, by omega⟩]
      congr 1
      have : wrap64 (x.2.h - (x.1 + b)) = x.2.h - (x.1 + b) := by unfold wrap64; omega
      rw [this]
      omega
  · cases e

structure InRel (w : World) (xs : List Int) (n : Int) (i : Nat) (wr : World) : Prop where
  le : i ≤ xs.length
  below : Below w.heap.size w wr
  no : ∀ j, (hj : j < xs.length) → j < i → xs[j] ≠ n

set_option maxHeartbeats 2000000 in
theorem in_calls (xs : List Int) (A : Option Addr) (c : Nat) (n : Int) (w : World) (hr : RdI (fun _ => False) w A xs) :
    Calls Try.prog 22 #[.slice A xs.length c, .int .i64 n] w fun e w' => e = .returned (.bool (decide (n ∈ xs))) ∧ Below w.heap.size w w' := by
  have hlen := hr.1
  unfold limI at hlen
  go_enter Try.func22, Try.ntmps22
  go_wp2_with fail
  go_loopw [5] (fun j wr => ∃ i : Nat, j = .int .i64 i ∧ InRel w xs n i wr) (fun j _ => xs.length - (intOf j).toNat)
  case atStart => exact ⟨0, rfl, Nat.zero_le _, Below.refl _ _, fun j _ h => absurd h (by omega)⟩
  case round =>
    obtain ⟨i, rfl, hrel⟩ := hrel
    have hbw := hrel.below
    have hno := hrel.no
    by_cases hlt : i < xs.length
    · obtain ⟨ad, rfl, -, c0⟩ := (hr.mov hbw).2 i hlt
      cases hv : (xs[i] == n)
      · go_wp2_with fail
        refine ⟨⟨i + 1, by go_num, hlt, hbw, fun j hj hji => ?_⟩, by simp [intOf]; omega⟩
        by_cases h2 : j < i
        · exact hno j hj h2
        · obtain rfl : j = i := by omega
          simpa using hv
      · go_wp2_with fail
        go_ret
        refine ⟨ret_bool (Eq.symm (decide_eq_true ?_)), hbw⟩
        rw [← show xs[i] = n by simpa using hv]
        exact List.getElem_mem hlt
    · obtain rfl : i = xs.length := by have := hrel.le; omega
      go_wp2_with fail
      go_ret
      refine ⟨ret_bool (Eq.symm (decide_eq_false fun q => ?_)), hbw⟩
      obtain ⟨j, hj, e⟩ := List.getElem_of_mem q
      exact hno j hj hj e
end Go.Proofs.Ytjpnlmlckmhcaaa
