/- Plain laws of patterns. No program stands here. -/
import Derived.Test.YtjpnlmlckmhcaaaOP
namespace Go.Proofs.Ytjpnlmlckmhcaaa

theorem patGo_iff (below : Int) : ∀ (l : List Tm) (acc vs : List Int), patGo below acc l = some vs ↔
    (∀ t ∈ l, t.k = 4 ∧ t.a.length = 0 ∧ 0 ≤ t.h ∧ t.h < below) ∧ (l.map (·.h)).Nodup ∧ (∀ x ∈ l.map (·.h), x ∉ acc) ∧ vs = acc ++ l.map (·.h)
  | [], acc, vs => by simp [patGo, eq_comm]
  | t :: l, acc, vs => by
    rw [patGo]
    by_cases h : t.k = 4 ∧ t.a.length = 0 ∧ 0 ≤ t.h ∧ t.h < below ∧ t.h ∉ acc
    · rw [if_pos h, patGo_iff below l]
      obtain ⟨h1, h2, h3, h4, h5⟩ := h
      constructor
      · rintro ⟨a, b, c, rfl⟩
        refine ⟨fun s hs => ?_, ?_, fun x hx => ?_, by simp⟩
        · rcases List.mem_cons.1 hs with rfl | hs
          · exact ⟨h1, h2, h3, h4⟩
          · exact a s hs
        · rw [List.map_cons, List.nodup_cons]
          exact ⟨fun q => c _ q (by simp), b⟩
        · rcases List.mem_cons.1 hx with rfl | hx
          · exact h5
          · exact fun q => c x hx (by simp [q])
      · rintro ⟨a, b, c, rfl⟩
        rw [List.map_cons, List.nodup_cons] at b
        refine ⟨fun s hs => a s (List.mem_cons_of_mem _ hs), b.2, fun x hx q => ?_, by simp⟩
        rcases List.mem_append.1 q with q | q
        · exact c x (List.mem_cons_of_mem _ hx) q
        · obtain rfl := List.mem_singleton.1 q
          exact b.1 hx
    · rw [if_neg h]
      constructor
      · intro q; cases q
      · rintro ⟨a, b, c, rfl⟩
        obtain ⟨a1, a2, a3, a4⟩ := a t (by simp)
        exact absurd ⟨a1, a2, a3, a4, c t.h (by simp)⟩ h
theorem patV_iff (below : Int) (l : List Tm) (vs : List Int) : patV l below = some vs ↔ (∀ t ∈ l, t.k = 4 ∧ t.a.length = 0 ∧ 0 ≤ t.h ∧ t.h < below) ∧ (l.map (·.h)).Nodup ∧ vs = l.map (·.h) := by
  unfold patV
  rw [patGo_iff]
  simp
theorem patV_take {below : Int} {l : List Tm} {vs : List Int} (h : patV l below = some vs) (n : Nat) : patV (l.take n) below = some (vs.take n) := by
  rw [patV_iff] at h ⊢
  obtain ⟨a, b, rfl⟩ := h
  exact ⟨fun t ht => a t (List.mem_of_mem_take ht), by rw [List.map_take]; exact b.sublist (List.take_sublist _ _), by rw [List.map_take]⟩
theorem patV_more {below more : Int} {l : List Tm} {vs : List Int} (h : patV l below = some vs) (hm : 0 ≤ more) : patV l (below + more) = some vs := by
  rw [patV_iff] at h ⊢
  obtain ⟨a, b, c⟩ := h
  exact ⟨fun t ht => by obtain ⟨a1, a2, a3, a4⟩ := a t ht; exact ⟨a1, a2, a3, by omega⟩, b, c⟩
theorem patV_twice {below : Int} {l : List Tm} {t : Tm} (ht : t ∈ l) : patV (l ++ [t]) below = none := by
  cases h : patV (l ++ [t]) below with
  | none => rfl
  | some vs =>
    rw [patV_iff] at h
    obtain ⟨_, b, _⟩ := h
    rw [List.map_append, List.map_cons, List.map_nil, List.nodup_append] at b
    exact absurd rfl (b.2.2 t.h (List.mem_map_of_mem ht) t.h (by simp))
theorem patV_len {below : Int} {l : List Tm} {vs : List Int} (h : patV l below = some vs) : vs.length = l.length := by
  rw [patV_iff] at h
  rw [h.2.2, List.length_map]
theorem patV_node {below : Int} {l : List Tm} {vs : List Int} (h : patV l below = some vs) {t : Tm} (ht : t ∈ l) : t.a = [] := by
  rw [patV_iff] at h
  exact List.eq_nil_of_length_eq_zero (h.1 t ht).2.1

theorem Reads.take {S : Nat → Prop} {w : World} {A : Option Addr} {ts : List Tm} (h : Reads S w A ts) (n : Nat) : Reads S w A (ts.take n) := by
  cases h with
  | nil => rw [List.take_nil]; exact .nil _
  | row b o ts f c hS hl hc hr =>
    refine .row b o _ f c hS (Nat.le_trans (by simp; omega) hl) (fun i hi => ?_) (fun i hi => ?_)
    · have hi' : i < ts.length := by simp at hi; omega
      rw [List.getElem_take]
      exact hc i hi'
    · have hi' : i < ts.length := by simp at hi; omega
      rw [List.getElem_take]
      exact hr i hi'
end Go.Proofs.Ytjpnlmlckmhcaaa
