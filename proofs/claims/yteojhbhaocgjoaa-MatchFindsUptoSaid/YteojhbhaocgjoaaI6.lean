/- The chapter's examples of invert, and the law InvertTells. -/
import Derived.Test.YteojhbhaocgjoaaI5
namespace Go.Proofs.Yteojhbhaocgjoaa
open Go.RowKit Go.Shelf

theorem inv_ex1 : invV ⟨4, 2, []⟩ [2, 0] 3 = (some ⟨4, 1, []⟩, 0) := by
  have h1 : mayB ⟨4, 2, []⟩ = true := by decide +kernel
  have h2 : mayV [2, 0] 3 = true := mayV_true ⟨by omega, by omega, fun i hi => by
    have : i = 0 ∨ i = 1 := by simp at hi; omega
    rcases this with rfl | rfl <;> simp⟩
  have h3 : renW (rnV [2, 0] 3) ⟨4, 2, []⟩ 0 = some ⟨4, 1, []⟩ := by kernel_rfl
  rw [invV, h1, h2, h3]
  rfl
theorem inv_ex2 : invV ⟨4, 3, []⟩ [2, 0] 3 = (some ⟨4, 2, []⟩, 0) := by
  have h1 : mayB ⟨4, 3, []⟩ = true := by decide +kernel
  have h2 : mayV [2, 0] 3 = true := mayV_true ⟨by omega, by omega, fun i hi => by
    have : i = 0 ∨ i = 1 := by simp at hi; omega
    rcases this with rfl | rfl <;> simp⟩
  have h3 : renW (rnV [2, 0] 3) ⟨4, 3, []⟩ 0 = some ⟨4, 2, []⟩ := by kernel_rfl
  rw [invV, h1, h2, h3]
  rfl
theorem inv_ex3 : invV ⟨4, 1, []⟩ [2, 0] 3 = (none, 7) := by
  have h1 : mayB ⟨4, 1, []⟩ = true := by decide +kernel
  have h2 : mayV [2, 0] 3 = true := mayV_true ⟨by omega, by omega, fun i hi => by
    have : i = 0 ∨ i = 1 := by simp at hi; omega
    rcases this with rfl | rfl <;> simp⟩
  have h3 : renW (rnV [2, 0] 3) ⟨4, 1, []⟩ 0 = none := by kernel_rfl
  rw [invV, h1, h2, h3]
  rfl

/-- What comes back, in one form. -/
theorem RetE.u {S : Nat → Prop} {r : Option Tm × Int} {w w' : World} {e : Ending} (h : RetE S r w e w') :
    ∃ u B c, e = .returned (.tuple #[.agg #[.int .i64 u.k, .int .i64 u.h, .slice B u.a.length c], .int .i64 r.2]) ∧ u = r.1.getD ⟨0, 0, []⟩ ∧ u.a.length ≤ c ∧ Reads S w' B u.a ∧ Below w.heap.size w w' := by
  obtain ⟨hb, (⟨h1, h2⟩ | ⟨u, B, c, h1, h2, h3, h4⟩)⟩ := h
  · exact ⟨⟨0, 0, []⟩, none, 0, h2, by rw [h1]; rfl, Nat.le_refl _, .nil _, hb⟩
  · exact ⟨u, B, c, h2, by rw [h1]; rfl, h3, h4, hb⟩

mutual
theorem sameB_refl : ∀ t : Tm, sameB t t = true
  | ⟨k, h, a⟩ => by rw [sameB, sameL_refl a]; simp
theorem sameL_refl : ∀ l : List Tm, sameL l l = true
  | [] => by rw [sameL]
  | t :: l => by rw [sameL, sameB_refl t, sameL_refl l]; rfl
end

end Go.Proofs.Yteojhbhaocgjoaa
