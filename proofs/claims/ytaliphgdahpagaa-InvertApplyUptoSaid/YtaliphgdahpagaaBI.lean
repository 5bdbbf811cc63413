/- Rows of whole numbers that a call makes itself, by appending. -/
import Derived.Test.YtaliphgdahpagaaIX
namespace Go.Proofs.Ytaliphgdahpagaa
open Go.RowKit Go.Shelf

theorem infoInt : (Try.prog.info? 3).map (fun i => (i.zero, i.size, i.bytes)) = some (some (.int .i64 0), 1, 8) := by kernel_rfl

def nums (xs : List Int) : List Value := xs.map (.int .i64 ·)

/-- v is a row of one's own (from block base on) that reads as xs. -/
def MineI (base : Nat) (w : World) (v : Value) (xs : List Int) : Prop := w.ownsRow base 3 1 v xs.length (nums xs)

section
variable {base : Nat} {w w' : World} {v : Value} {xs : List Int}
theorem MineI.nil (base : Nat) (w : World) : MineI base w (.slice none 0 0) [] := ⟨by simp [nums], .inl ⟨rfl, rfl⟩⟩
theorem MineI.lt (h : MineI base w v xs) : ∀ k, v.ownBlock = some k → k < w.heap.size := by
  intro k hk
  rcases h.2 with ⟨rfl, _⟩ | ⟨g, cap, cur, rfl, _, hh, _⟩
  · simp [Value.ownBlock] at hk
  · have : g = k := by simpa [Value.ownBlock] using hk
    subst this
    exact (Array.getElem?_eq_some_iff.1 hh).1
theorem MineI.ge (h : MineI base w v xs) : ∀ k, v.ownBlock = some k → base ≤ k := by
  intro k hk
  rcases h.2 with ⟨rfl, _⟩ | ⟨g, cap, cur, rfl, hb, hh, _⟩
  · simp [Value.ownBlock] at hk
  · have : g = k := by simpa [Value.ownBlock] using hk
    subst this
    exact hb
theorem MineI.step (hb : ∀ k, v.ownBlock = some k → k < w.heap.size → w'.heap[k]? = w.heap[k]?) (h : MineI base w v xs) : MineI base w' v xs := by
  have hlt := h.lt
  refine ⟨h.1, ?_⟩
  rcases h.2 with h4 | ⟨g, cap, cur, rfl, hg, hh, r⟩
  · exact .inl h4
  · exact .inr ⟨g, cap, cur, rfl, hg, (hb g rfl (hlt g rfl)).trans hh, r⟩
theorem MineI.mov (h : MineI base w v xs) (hb : Below w.heap.size w w') : MineI base w' v xs := h.step (fun k _ hk => hb.block k hk)
theorem MineI.slice (h : MineI base w v xs) : ∃ A c, v = .slice A xs.length c := by
  rcases h.2 with ⟨rfl, e⟩ | ⟨g, cap, cur, rfl, _⟩
  · exact ⟨none, 0, by rw [e]⟩
  · exact ⟨_, cap, rfl⟩
theorem MineI.reads (h : MineI base w v xs) (hl : xs.length ≤ limI) : ∃ A c, v = .slice A xs.length c ∧ xs.length ≤ c ∧ RdI (fun _ => False) w A xs := by
  rcases h.2 with ⟨rfl, e⟩ | ⟨g, cap, cur, rfl, hg, hh, hcap, hm, hsz, htake⟩
  · obtain rfl := List.eq_nil_of_length_eq_zero e
    exact ⟨none, 0, rfl, by simp, Nat.zero_le _, fun i hi => absurd hi (Nat.not_lt_zero i)⟩
  · refine ⟨_, cap, rfl, hcap, hl, fun i hi => ⟨_, rfl, fun q => q, ?_⟩⟩
    exact World.ownsRow.cells h (g := g) rfl i _ (by simp [nums, List.getElem?_eq_getElem hi])
end

/-- 'append(v, x)': behind 'at_builtin'. -/
theorem append_int {ops : Array Oper} {rest : List Oper} {o : Oper} {a : Act} {Q : Exit → Act → World → Prop} (hgd : o.guard = none) (s x : Operand)
    (ho : o.op = .call { callee := .builtin .append, args := #[s, x], argTypes := #[25, 25] })
    (base : Nat) {W : World} (v : Value) (xs : List Int) (n : Int) (hs : a.eval s = v) {g : Nat} (hx : a.eval x = .slice (some ⟨g, 0, none⟩) 1 1) (hgs : g = W.heap.size)
    (HM : MineI base W v xs) (hbase : base ≤ W.heap.size) (hl : xs.length + 1 ≤ limI)
    (h : ∀ v1 w1, MineI base w1 v1 (xs ++ [n]) → W.grownBy w1 v.ownBlock → (v1.ownBlock = v.ownBlock ∨ ∃ k, v1.ownBlock = some k ∧ W.heap.size ≤ k) → wpList Try.prog ops Q rest (a.put o.dst v1) w1) :
    wpList Try.prog ops Q (o :: rest) a (W.alloc (.cells #[.int .i64 n] 3)) := by
  subst hgs
  obtain ⟨i0, hi, hzz⟩ := Option.map_eq_some_iff.1 infoInt
  simp only [Prod.mk.injEq] at hzz
  obtain ⟨hz0, hz1, hz2⟩ := hzz
  unfold limI at hl
  refine wpList_append_own_at (W.alloc (.cells #[.int .i64 n] 3)) hgd s x 25 ho base 3 i0 _ 1 8 Try.underlying25 hi hz0 hz1 hz2 rfl (by decide) v xs.length (nums xs) hs (World.ownsRow.alloc HM _) ⟨W.heap.size, 0, none⟩ 1 1 [.int .i64 n] hx rfl
    (cell_one_new _ _ _) (by simp [Value.oneCell']) (by simp only [maxLen]; omega) (by omega) (by simp; omega) ?_
  intro v1 w1 hown1 hg _ hat
  refine h v1 w1 ?_ (World.grownBy.trans (World.grownBy_alloc W _ _) hg) ?_
  · unfold MineI
    rw [List.length_append, show nums (xs ++ [n]) = nums xs ++ [.int .i64 n] from by simp [nums]]
    exact hown1
  · rcases hat with e | e
    · exact .inl e
    · exact .inr ⟨_, e, by simp⟩
end Go.Proofs.Ytaliphgdahpagaa
