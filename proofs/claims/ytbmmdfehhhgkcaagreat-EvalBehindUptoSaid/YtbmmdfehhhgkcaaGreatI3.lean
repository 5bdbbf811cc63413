/- The contracts of package amanuensisref06: may, goes. -/
import Derived.Test.YtbmmdfehhhgkcaaGreatI1
namespace Go.Proofs.YtbmmdfehhhgkcaaGreat
open Go.RowKit Go.Shelf

structure May6Rel (w : World) (xs : List Int) (n : Int) (i : Nat) (wr : World) : Prop where
  le : i ≤ xs.length
  below : Below w.heap.size w wr
  ok : ∀ j, (hj : j < xs.length) → j < i → 0 ≤ xs[j] ∧ xs[j] < n ∧ xs[j] ∉ xs.take j
structure May6In (w : World) (xs : List Int) (i k : Nat) (wr : World) : Prop where
  le : k ≤ i
  below : Below w.heap.size w wr
  ok : ∀ j, (hj : j < xs.length) → j < k → (hi : i < xs.length) → xs[j] ≠ xs[i]

theorem mem_take {xs : List Int} {v : Int} {i : Nat} (h : v ∈ xs.take i) : ∃ j, ∃ hj : j < xs.length, j < i ∧ xs[j] = v := by
  obtain ⟨j, hj, e⟩ := List.getElem_of_mem h
  simp at hj
  exact ⟨j, by omega, by omega, by rw [← e, List.getElem_take]⟩

set_option maxRecDepth 100000 in
set_option maxHeartbeats 2000000 in
theorem may6_calls (xs : List Int) (A : Option Addr) (c : Nat) (n : Int) (w : World) (hr : RdI (fun _ => False) w A xs) :
    Calls Tryz.prog 133 #[.slice A xs.length c, .int .i64 n] w fun e w' => e = .returned (.bool (mayV xs n)) ∧ Below w.heap.size w w' := by
  have hlen := hr.1
  unfold limI at hlen
  by_cases h0 : n < 0
  · go_enter Tryz.func133, Tryz.ntmps133
    go_wp2
    go_ret
    exact ⟨ret_bool (mayV_false (fun q => by have := q.1; omega)).symm, Below.refl _ _⟩
  · by_cases h1 : n > 1000
    · go_enter Tryz.func133, Tryz.ntmps133
      go_wp2
      go_ret
      exact ⟨ret_bool (mayV_false (fun q => by have := q.2.1; omega)).symm, Below.refl _ _⟩
    · go_enter Tryz.func133, Tryz.ntmps133
      go_wp2
      go_loopw [5, 6] (fun j v wr => ∃ (i : Nat), j = .int .i64 i ∧ May6Rel w xs n i wr) (fun j _ _ => xs.length - (intOf j).toNat)
      case atStart => exact ⟨0, rfl, Nat.zero_le _, Below.refl _ _, fun j _ h => absurd h (by omega)⟩
      case round =>
        obtain ⟨i, rfl, hrel⟩ := hrel
        have hi := hrel.le
        by_cases hlt : i < xs.length
        · obtain ⟨ad, rfl, -, c0⟩ := (hr.mov hrel.below).2 i hlt
          by_cases ha : xs[i] < 0
          · go_wp2
            go_ret
            exact ⟨ret_bool (mayV_false (fun q => by have := (q.2.2 i hlt).1; omega)).symm, hrel.below⟩
          · by_cases hb : xs[i] ≥ n
            · go_wp2
              go_ret
              exact ⟨ret_bool (mayV_false (fun q => by have := (q.2.2 i hlt).2.1; omega)).symm, hrel.below⟩
            · go_wp2
              go_loopw [6] (fun v wq => ∃ (k : Nat), v = .int .i64 k ∧ May6In w xs i k wq) (fun v _ => i - (intOf v).toNat)
              case atStart => exact ⟨0, rfl, Nat.zero_le _, hrel.below, fun j _ h _ => absurd h (by omega)⟩
              case round =>
                obtain ⟨k, rfl, hin⟩ := hrel
                have hk := hin.le
                by_cases hkl : k < i
                · have hkx : k < xs.length := by omega
                  obtain ⟨ad1, e1, -, c1⟩ := (hr.mov hin.below).2 k hkx
                  cases e1
                  obtain ⟨ad2, e2, -, c2⟩ := (hr.mov hin.below).2 i hlt
                  cases e2
                  have hnx := hin.ok
                  cases hv : (xs[k] == xs[i])
                  all_goals
                    go_wp2_with fail
                    go_still_tail 8, (by kernel_rfl)
                    go_wp2
                  · refine ⟨⟨k + 1, by go_num, hkl, hin.below.drew, fun j hj hjk hi2 => ?_⟩, by simp [intOf]; omega⟩
                    by_cases hjk2 : j < k
                    · exact hnx j hj hjk2 hi2
                    · obtain rfl : j = k := by omega
                      simpa using hv
                  · go_ret
                    refine ⟨ret_bool (mayV_false (fun q => (q.2.2 i hlt).2.2 ?_)).symm, hin.below.drew⟩
                    have e : xs[k] = xs[i] := by simpa using hv
                    rw [← e]
                    exact List.mem_take_iff_getElem.2 ⟨k, by omega, rfl⟩
                · obtain rfl : k = i := by omega
                  have hok := hin.ok
                  have hbl := hin.below
                  go_wp2
                  refine ⟨⟨k + 1, by go_num, hlt, hbl, fun j hj hji => ?_⟩, by simp [intOf]; omega⟩
                  by_cases hji2 : j < k
                  · exact hrel.ok j hj hji2
                  · obtain rfl : j = k := by omega
                    refine ⟨by omega, by omega, fun q => ?_⟩
                    obtain ⟨m, hm, hmk, e⟩ := mem_take q
                    exact hok m hm hmk hlt e
        · obtain rfl : i = xs.length := by omega
          go_wp2
          go_ret
          exact ⟨ret_bool (mayV_true ⟨by omega, by omega, fun j hj => hrel.ok j hj hj⟩).symm, hrel.below⟩

theorem pigeon : ∀ (n : Nat) (l : List Int), (∀ x ∈ l, 0 ≤ x ∧ x < (n : Int)) → l.Nodup → l.length ≤ n
  | 0, [], _, _ => Nat.le_refl _
  | 0, x :: _, h, _ => by have := h x (by simp); omega
  | n + 1, l, h, hn => by
    by_cases hm : (n : Int) ∈ l
    · have h1 := pigeon n (l.erase (n : Int)) (fun x hx => by
        have h2 := h x (List.mem_of_mem_erase hx)
        have h3 : x ≠ (n : Int) := fun e => by rw [e] at hx; exact (hn.mem_erase_iff.1 hx).1 rfl
        omega) (hn.erase _)
      rw [List.length_erase_of_mem hm] at h1
      omega
    · have h1 := pigeon n l (fun x hx => by
        have h2 := h x hx
        have h3 : x ≠ (n : Int) := fun e => by rw [e] at hx; exact hm hx
        omega) hn
      omega
theorem MayV.nodup {xs : List Int} {n : Int} (h : MayV xs n) : xs.Nodup := by
  rw [List.nodup_iff_pairwise_ne, List.pairwise_iff_getElem]
  intro i j hi hj hij e
  exact (h.2.2 j hj).2.2 (List.mem_take_iff_getElem.2 ⟨i, by omega, e⟩)
theorem MayV.len {xs : List Int} {n : Int} (h : MayV xs n) : (xs.length : Int) ≤ n := by
  have h1 := pigeon n.toNat xs (fun x hx => by
    obtain ⟨i, hi, rfl⟩ := List.getElem_of_mem hx
    have := h.2.2 i hi
    have := h.1
    omega) h.nodup
  have := h.1
  omega
theorem rnV_nonneg {xs : List Int} {n i v : Int} (h : MayV xs n) (hi : i ≤ 9223372036854775807) (hv : rnV xs n i = some v) : 0 ≤ v := by
  have h1 := h.len
  have h2 := h.1
  have h3 := h.2.1
  unfold rnV at hv
  split at hv
  · injection hv with hv
    rw [← hv]
    unfold wrap64
    omega
  · split at hv
    · injection hv with hv
      rcases idxFrom_neg (v := i) xs 0 with ⟨e, hn⟩ | ⟨j, e, _, hj, _⟩
      · contradiction
      · rw [e] at hv
        omega
    · cases hv

set_option maxRecDepth 100000 in
set_option maxHeartbeats 1000000 in
theorem goes_calls (xs : List Int) (A : Option Addr) (c : Nat) (n i : Int) (w : World) (hr : RdI (fun _ => False) w A xs) :
    Calls Tryz.prog 141 #[.int .i64 i, .slice A xs.length c, .int .i64 n] w fun e w' =>
      e = .returned (.int .i64 ((rnV xs n i).getD (-1))) ∧ Below w.heap.size w w' := by
  have hlen := hr.1
  unfold limI at hlen
  by_cases h : n ≤ i
  · go_enter Tryz.func141, Tryz.ntmps141
    go_wp2
    go_ret
    exact ⟨ret_int (by rw [rnV, if_pos h]; rfl), Below.refl _ _⟩
  · go_enter Tryz.func141, Tryz.ntmps141
    go_wp2
    go_loop [7] (fun j => ∃ (p : Nat), j = .int .i64 p ∧ p ≤ xs.length ∧ Hid (idxFrom i p (xs.drop p) = idxFrom i 0 xs)) (fun j => xs.length - (intOf j).toNat)
    case atStart => exact ⟨0, rfl, Nat.zero_le _, rfl⟩
    case round =>
      obtain ⟨p, rfl, hp, HH⟩ := hrel
      by_cases hlt : p < xs.length
      · obtain ⟨ad, rfl, -, c0⟩ := hr.2 p hlt
        cases hq : (xs[p] == i)
        · go_wp2
          go_round
          case rel => exact ⟨p + 1, by go_num, hlt, by have := HH.out; rw [idxFrom_at hlt, if_neg (fun e => by simp [e] at hq)] at this; exact this⟩
          case measure => simp [intOf]; omega
        · have HQ := Lib.hid (beq_iff_eq.1 hq)
          go_wp2
          go_ret
          refine ⟨ret_int ?_, Below.refl _ _⟩
          have h2 := HH.out
          rw [idxFrom_at hlt, if_pos HQ.out.symm] at h2
          rw [rnV, if_neg (by omega), if_pos (by rw [← HQ.out]; exact List.getElem_mem hlt), ← h2]
          rfl
      · obtain rfl : p = xs.length := by omega
        go_wp2
        go_ret
        refine ⟨ret_int ?_, Below.refl _ _⟩
        have h2 := HH.out
        rw [List.drop_length] at h2
        have h3 : i ∉ xs := by
          rcases idxFrom_neg (v := i) xs 0 with ⟨_, hn⟩ | ⟨j, e, _⟩
          · exact hn
          · rw [← h2] at e; simp only [idxFrom] at e; omega
        rw [rnV, if_neg (by omega), if_neg h3]
        rfl
end Go.Proofs.YtbmmdfehhhgkcaaGreat
