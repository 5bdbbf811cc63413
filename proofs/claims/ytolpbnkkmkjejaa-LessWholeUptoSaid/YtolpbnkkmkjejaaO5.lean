/- What Vars and Metas of package occur see: a map of numbers. -/
import Derived.Test.YtolpbnkkmkjejaaO4
namespace Go.Proofs.Ytolpbnkkmkjejaa
open Go.RowKit Go.Shelf Go.Maps
set_option linter.unusedVariables false
set_option linter.unusedSimpArgs false

theorem keyedInt : Keyed Try.prog 3 := int_keyed (q := .i64) (by kernel_rfl)

/-- Block b is a map of at most n entries, whose keys are these numbers. -/
def HasKeys (W : World) (b n : Nat) (xs : List Int) : Prop :=
  ∃ D : DataW Unit, W.ownsMap Try.prog 3 (plainElem Try.prog 4) b n D ∧ ∀ x : Int, has D (.int .i64 x) = true ↔ x ∈ xs

def varsOf (l : List (Int × Tm)) : List Int := l.filterMap fun x => if x.2.k = 4 ∧ x.1 ≤ x.2.h then some (wrap64 (x.2.h - x.1)) else none
def metasOf (l : List (Int × Tm)) : List Int := l.filterMap fun x => if x.2.k = 6 then some x.2.h else none

def inH (s : Tm) : Prop := -9223372036854775808 ≤ s.h ∧ s.h ≤ 9223372036854775807

theorem wf_in {x : Int} (h : -9223372036854775808 ≤ x ∧ x ≤ 9223372036854775807) : (Lit.int .i64 x).wf = true := by
  simp [Lit.wf]
  rw [show IntKind.i64.min = -9223372036854775808 from rfl]
  omega
theorem wrap_range (x : Int) : -9223372036854775808 ≤ wrap64 x ∧ wrap64 x ≤ 9223372036854775807 := by unfold wrap64; omega

theorem HasKeys.kept {W W' : World} {b n : Nat} {xs : List Int} {row : Option Nat} (h : HasKeys W b n xs) (hg : W.grownBy W' row) (hne : some b ≠ row) : HasKeys W' b n xs := by
  obtain ⟨D, h1, h2⟩ := h
  exact ⟨D, h1.kept hg hne, h2⟩
theorem HasKeys.put {W : World} {b n : Nat} {xs : List Int} {D : DataW Unit} (h2 : ∀ x : Int, has D (.int .i64 x) = true ↔ x ∈ xs) {x : Int} {d : DataW Unit} (hD : IsMap D) :
    ∀ y : Int, has (D.put (.int .i64 x) d) (.int .i64 y) = true ↔ y ∈ xs ++ [x] := by
  intro y
  by_cases e : y = x
  · subst e
    simp [has_put_same hD (show WideAt.IsKeyLit (.int .i64 y) from trivial)]
  · rw [has_put_other (fun q => e (by injection q)), h2]
    simp [e]

/-- What is seen by Vars, Metas: the variable at c0 holds the map b. -/
def SeenJ (c0 b : Nat) (ks : List (Int × Tm) → List Int) (pre : List (Int × Tm)) (W : World) : Prop :=
  Boxed W c0 56 (.map (some b)) ∧ c0 ≠ b ∧ HasKeys W b pre.length (ks pre)
theorem SeenJ.kept {c0 b : Nat} {ks : List (Int × Tm) → List Int} {pre : List (Int × Tm)} {W W' : World} (h : SeenJ c0 b ks pre W) (hg : W.grownBy W' none) : SeenJ c0 b ks pre W' :=
  ⟨h.1.kept hg (by simp), h.2.1, h.2.2.kept hg (by simp)⟩

set_option maxHeartbeats 2000000 in
theorem Metas1_sees (c0 b N : Nat) (hN : N ≤ 4611686018427387904) (w : World) : Sees w inH N b 30 #[.pointer (some ⟨c0, 0, none⟩)] (SeenJ c0 b metasOf) := by
  intro pre n s B d W hw hlt hG hj hr hc
  obtain ⟨hbx, hcb, D, hown, hkeys⟩ := hj.kept (World.grownBy_alloc W (.cells #[.int .i64 s.k, .int .i64 s.h, .slice B s.a.length d] 26) none)
  have hcl := hbx.cell
  have hc0 := hj.1.lt
  have e : metasOf (pre ++ [(n, s)]) = metasOf pre ++ (if s.k = 6 then [s.h] else []) := by
    unfold metasOf
    rw [List.filterMap_append]
    by_cases h : s.k = 6 <;> simp [h]
  have HB := Lib.hid hbx
  have HE := Lib.hid e
  have HK := Lib.hid hkeys
  clear hbx e hkeys hj
  cases h6 : (s.k == 6)
  · go_enter Try.func30, Try.ntmps30
    go_wp2_with fail
    (try simp only [Exit.inBlock, Exit.then])
    refine bodyPost_end (res_none rfl _ _) rfl ⟨rfl, ⟨HB.out, hcb, D, hown.mono (by simp), ?_⟩, World.grownBy_alloc _ _ _⟩
    rw [HE.out, if_neg (by simpa using h6), List.append_nil]
    exact HK.out
  · go_enter Try.func30, Try.ntmps30
    go_wp2_with (at_mapUpdate; refine wpList_mapUpdate_own _ rfl _ _ _ 56 rfl 3 4 keyedInt Try.underlying56 _ b pre.length D rfl hown (by unfold maxLen; omega) _ _ _ rfl rfl (keyOf_int_mk (by kernel_rfl) (wf_in hG)) _ [] (plainElem_bool (by kernel_rfl) _) ?_; intro w1 hown1 hgrow1)
    (try simp only [Exit.inBlock, Exit.then])
    refine bodyPost_end (res_none rfl _ _) rfl ⟨rfl, ⟨HB.out.kept hgrow1 (fun e => hcb (by cases e; rfl)), hcb, _, hown1.mono (by simp), ?_⟩, World.grownBy.trans (World.grownBy_alloc _ _ _) hgrow1⟩
    rw [HE.out, if_pos (by simpa using h6)]
    exact HasKeys.put (W := W) (b := b) (n := 0) HK.out hown.isMap
end Go.Proofs.Ytolpbnkkmkjejaa
