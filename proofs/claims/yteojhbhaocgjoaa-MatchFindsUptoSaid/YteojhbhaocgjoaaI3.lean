/- The contracts of package amanuensisref06: may, goes. -/
import Derived.Test.YteojhbhaocgjoaaI1
namespace Go.Proofs.Yteojhbhaocgjoaa
open Go.RowKit Go.Shelf

structure May6Rel (w : World) (xs : List Int) (n : Int) (i : Nat) (wr : World) : Prop where
  le : i ≤ xs.length
  below : Below w.heap.size w wr
  ok : ∀ j, (hj : j < xs.length) → j < i → 0 ≤ xs[j] ∧ xs[j] < n ∧ xs[j] ∉ xs.take j
structure May6In (w : World) (xs : List Int) (i k : Nat) (wr : World) : Prop where
  le : k ≤ i
  below : Below w.heap.size w wr
  ok : ∀ j, (hj : j < xs.length) → j < k → (hi : i < xs.length) → xs[j] ≠ xs[i]

theorem mem_take {xs : List Int} {v : Int} {i : Nat} (h : v ∈ xs.take i) : ∃ j, ∃ hj : j < xs.length, j < i ∧ xs[j] = v := by
  obtain ⟨j, hj, e⟩ := List.getElem_of_mem h
  simp at hj
  exact ⟨j, by omega, by omega, by rw [← e, List.getElem_take]⟩

theorem pigeon : ∀ (n : Nat) (l : List Int), (∀ x ∈ l, 0 ≤ x ∧ x < (n : Int)) → l.Nodup → l.length ≤ n
  | 0, [], _, _ => Nat.le_refl _
  | 0, x :: _, h, _ => by have := h x (by simp); omega
  | n + 1, l, h, hn => by
    by_cases hm : (n : Int) ∈ l
    · have h1 := pigeon n (l.erase (n : Int)) (fun x hx => by
        have h2 := h x (List.mem_of_mem_erase hx)
        have h3 : x ≠ (n : Int) := fun e => by rw [e] at hx; exact (hn.mem_erase_iff.1 hx).1 rfl
        omega) (hn.erase _)
      rw [List.length_erase_of_mem hm] at h1
      omega
    · have h1 := pigeon n l (fun x hx => by
        have h2 := h x hx
        have h3 : x ≠ (n : Int) := fun e => by rw [e] at hx; exact hm hx
        omega) hn
      omega
theorem MayV.nodup {xs : List Int} {n : Int} (h : MayV xs n) : xs.Nodup := by
  rw [List.nodup_iff_pairwise_ne, List.pairwise_iff_getElem]
  intro i j hi hj hij e
  exact (h.2.2 j hj).2.2 (List.mem_take_iff_getElem.2 ⟨i, by omega, e⟩)
theorem MayV.len {xs : List Int} {n : Int} (h : MayV xs n) : (xs.length : Int) ≤ n := by
  have h1 := pigeon n.toNat xs (fun x hx => by
    obtain ⟨i, hi, rfl⟩ := List.getElem_of_mem hx
    have := h.2.2 i hi
    have := h.1
    omega) h.nodup
  have := h.1
  omega
theorem rnV_nonneg {xs : List Int} {n i v : Int} (h : MayV xs n) (hi : i ≤ 9223372036854775807) (hv : rnV xs n i = some v) : 0 ≤ v := by
  have h1 := h.len
  have h2 := h.1
  have h3 := h.2.1
  unfold rnV at hv
  split at hv
  · injection hv with hv
    rw [← hv]
    unfold wrap64
    omega
  · split at hv
    · injection hv with hv
      rcases idxFrom_neg (v := i) xs 0 with ⟨e, hn⟩ | ⟨j, e, _, hj, _⟩
      · contradiction
      · rw [e] at hv
        omega
    · cases hv

end Go.Proofs.Yteojhbhaocgjoaa
