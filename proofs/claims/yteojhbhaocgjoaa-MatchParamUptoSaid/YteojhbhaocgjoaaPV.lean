/- A meta of variables alone, filled by one term: the walk's part; what patterns say of names. -/
import Derived.Test.YteojhbhaocgjoaaPK
import Derived.Test.YteojhbhaocgjoaaPL
import Derived.Test.YteojhbhaocgjoaaFW
import Derived.Test.YteojhbhaocgjoaaMO
import Derived.Test.YteojhbhaocgjoaaO1
namespace Go.Proofs.Yteojhbhaocgjoaa
open Go.RowKit Go.Shelf
set_option linter.unusedVariables false
set_option linter.unusedSimpArgs false

theorem patGo_vars {n : Int} : ∀ {l vs r : List Int}, patGo n vs (varsT l) = some r → ∀ i, (hi : i < l.length) → 0 ≤ l[i] ∧ l[i] < n ∧ l[i] ∉ vs ++ l.take i
  | [], vs, r, q, i, hi => absurd hi (Nat.not_lt_zero _)
  | x :: l, vs, r, q, i, hi => by
    rw [varsT, List.map_cons, patGo] at q
    split at q
    · rename_i hc
      have ih := patGo_vars (l := l) q
      cases i with
      | zero => exact ⟨hc.2.2.1, hc.2.2.2.1, by simpa using hc.2.2.2.2⟩
      | succ i =>
        have h1 := ih i (by simpa using hi)
        refine ⟨h1.1, h1.2.1, ?_⟩
        simpa using h1.2.2
    · cases q
theorem pat_may {xs r : List Int} {n : Int} (h0 : 0 ≤ n) (h1 : n ≤ 1000) (q : patV (varsT xs) n = some r) : MayV xs n :=
  ⟨h0, h1, fun i hi => by
    have := patGo_vars (vs := []) q i hi
    simpa using this⟩
theorem vars_su {xs : List Int} {n : Int} (hm : MayV xs n) (hx : xs.length ≤ 20) : maySu ⟨varsT xs, n⟩ = true := by
  obtain ⟨h0, h1, h2⟩ := hm
  have h3 := vars_may (xs := xs) (fun x hx => by
    obtain ⟨i, hi, rfl⟩ := List.getElem_of_mem hx
    exact (h2 i hi).1)
  unfold maySu
  simp only [h3, varsT_len, Bool.not_false, Bool.and_true, Bool.and_eq_true, decide_eq_true_eq]
  omega
theorem may_le {xs : List Int} {n : Int} (hm : MayV xs n) : ∀ x ∈ xs, 0 ≤ x ∧ x ≤ 1000 := fun x hx => by
  obtain ⟨i, hi, rfl⟩ := List.getElem_of_mem hx
  have h1 := hm.2.2 i hi
  have h2 := hm.2.1
  omega
/-- What a meta of variables comes to, filled. -/
theorem only_pure {x : Tm} {xs : List Int} {n : Int} (hcn : cnt x ≤ 1048576) (hl : lightB x 1000 60 = true) (hmb : mayB x = true) (hx : xs.length ≤ 20) (hm : MayV xs n) :
    FillV [x] ⟨6, 0, varsT xs⟩ n = .ok (fwT xs n x 0) ∧ invV (fwT xs n x 0) xs n = (some x, 0) ∧ hB 1099511627776 x ∧ cnt x ≤ 1000 := by
  unfold lightB at hl
  simp only [Bool.and_eq_true, decide_eq_true_eq] at hl
  obtain ⟨hlow, hsz, hdp⟩ := hl
  have hc : cnt x ≤ 1000 := by
    rw [sizeR_eq] at hsz
    unfold wrap64 at hsz
    omega
  have hmb' := hmb
  rw [mayB_eq] at hmb'
  simp only [Bool.and_eq_true, decide_eq_true_eq] at hmb'
  have hb := hB_of hmb'.2.2 hlow
  obtain ⟨q1, q2, q3, q4⟩ := fw_ren hm x 0 hb (by omega)
  have hmt : mayB (fwT xs n x 0) = true := by
    rw [mayB_eq, q4, sizeR_eq, q3, may_of_hB q2, ← sizeR_eq]
    simp only [Bool.and_eq_true, decide_eq_true_eq]
    exact ⟨hdp, by omega, trivial⟩
  have hev := ev_back hm (fwT xs n x 0) x 0 0 q1 q2 (by omega) (by omega)
  rw [sg_zero] at hev
  refine ⟨fill_meta (fun y hy => (may_le hm y hy).1) (by omega) ⟨hm.1, hm.2.1⟩ (by rw [hmb, vars_su hm hx]; rfl) hev hmt, ?_, hb, hc⟩
  unfold invV
  rw [hmt, mayV_true hm]
  have q1' : renW (rnV xs n) (fwT xs n x 0) 0 = some x := q1
  rw [q1']
  rfl
/-- What was inverted, filled. -/
theorem back_pure {t u : Tm} {xs : List Int} {n : Int} (hcn : cnt t ≤ 1048576) (hl : lightB t 1000 60 = true) (hmb : mayB t = true) (hx : xs.length ≤ 20) (hv : invV t xs n = (some u, 0)) :
    FillV [u] ⟨6, 0, varsT xs⟩ n = .ok t ∧ MayV xs n ∧ renW (rnV xs n) t 0 = some u ∧ hB 4398046511104 u ∧ cnt u ≤ 1000 ∧ cnt u = cnt t := by
  obtain ⟨h1, h2, h3⟩ := apply_pure hcn hl hmb hx hv
  have hmay : MayV xs n := by
    rcases hq : mayV xs n with _ | _
    · unfold invV at hv
      rw [hmb, hq] at hv
      simp at hv
    · exact mayV_prop hq
  have hren : renW (rnV xs n) t 0 = some u := by
    unfold invV at hv
    rw [hmb, mayV_true hmay] at hv
    simp only [Bool.and_self, if_true] at hv
    cases hr : renW (rnV xs n) t 0 with
    | none => rw [hr] at hv; simp at hv
    | some z => rw [hr] at hv; simp at hv; rw [hv]
  unfold lightB at hl
  simp only [Bool.and_eq_true, decide_eq_true_eq] at hl
  obtain ⟨hlow, hsz, hdp⟩ := hl
  have hc : cnt t ≤ 1000 := by
    rw [sizeR_eq] at hsz
    unfold wrap64 at hsz
    omega
  have hmb' := hmb
  rw [mayB_eq] at hmb'
  simp only [Bool.and_eq_true, decide_eq_true_eq] at hmb'
  obtain ⟨q1, q2, q3⟩ := ren_may hmay t u 0 hren ((hB_of hmb'.2.2 hlow).mono (by decide)) (by omega)
  exact ⟨fill_meta (fun y hy => (may_le hmay y hy).1) (by omega) ⟨hmay.1, hmay.2.1⟩ h1 h3 hmb, hmay, hren, q1, by omega, q2⟩
/-- What Invert tells of a term that may be. -/
theorem inv3 {t : Tm} {xs : List Int} {n : Int} (hmb : mayB t = true) : (∃ u, invV t xs n = (some u, 0) ∧ renW (rnV xs n) t 0 = some u) ∨ invV t xs n = (none, 1) ∨ (invV t xs n = (none, 7) ∧ renW (rnV xs n) t 0 = none) := by
  unfold invV
  rw [hmb]
  cases mayV xs n
  · exact .inr (.inl rfl)
  · simp only [Bool.and_self, if_true]
    cases renW (rnV xs n) t 0 with
    | none => exact .inr (.inr ⟨rfl, rfl⟩)
    | some u => exact .inl ⟨u, rfl, rfl⟩

/-- What is not the row's, nor the list's. -/
def FS (a m r b : Nat) (gs : Nat) : Nat → Prop := fun k => a ≤ k ∧ k < b ∧ k ≠ gs ∧ ¬ (m ≤ k ∧ k < r)
theorem vars_hB {xs : List Int} {B : Int} (hB0 : 1000 ≤ B) (h : ∀ x ∈ xs, 0 ≤ x ∧ x ≤ 1000) : hB B ⟨6, 0, varsT xs⟩ := by
  rw [hB]
  refine ⟨by simp [mayN], by omega, hBL_iff.2 fun e he => ?_⟩
  unfold varsT at he
  obtain ⟨x, hxm, rfl⟩ := List.mem_map.1 he
  rw [hB]
  exact ⟨mayN_var (h x hxm).1, by have := (h x hxm).2; omega, trivial⟩
theorem vars_cnt (l : List Int) : cntL (varsT l) = l.length := by
  induction l with
  | nil => rfl
  | cons x l ih => rw [varsT, List.map_cons, cntL, show (List.map (fun h => (⟨4, h, []⟩ : Tm)) l) = varsT l from rfl, ih, cnt, cntL, List.length_cons]; omega
theorem fillVars_calls (x t : Tm) (A : Option Addr) (c : Nat) (xs : List Int) (n : Int) (W0 Wm W5 W : World) (B5 : Option Addr) (c5 gs : Nat)
    (hr : Reads (fun _ => False) W0 A x.a) (hc : x.a.length ≤ c) (h1 : Below W0.heap.size W0 Wm) (h2 : Below Wm.heap.size Wm W5) (h3 : Below W5.heap.size W5 W) (hr5 : Reads (fun k => k < Wm.heap.size) W5 B5 (varsT xs)) (hc5 : (varsT xs).length ≤ c5)
    (hs : Blk W gs #[.int .i64 x.k, .int .i64 x.h, .slice A x.a.length c] 24) (hg : W0.heap.size ≤ gs)
    (hF : FillV [x] ⟨6, 0, varsT xs⟩ n = .ok t) (hBx : hB 4398046511104 x) (hcx : cnt x ≤ 1000) (hv : ∀ y ∈ xs, 0 ≤ y ∧ y ≤ 1000) (hxl : xs.length ≤ 20) :
    Calls Try.prog 17 #[.agg #[.int .i64 6, .int .i64 0, .slice B5 (varsT xs).length c5], .slice (some ⟨gs, 0, none⟩) 1 1, .int .i64 n] W fun e w' => Below W.heap.size W w' ∧ ∃ B6 c6, e = .returned (.tuple #[.agg #[.int .i64 t.k, .int .i64 t.h, .slice B6 t.a.length c6], .int .i64 0]) ∧ t.a.length ≤ c6 ∧ Reads (FS W0.heap.size Wm.heap.size W5.heap.size W.heap.size gs) w' B6 t.a := by
  have hrx : Reads (FS W0.heap.size Wm.heap.size W5.heap.size W.heap.size gs) W A x.a := hr.step (fun k hk _ q => by have := q.1; omega) (fun k hk _ => (bl_then h1 (bl_then h2 h3)).block k hk)
  have hrv : Reads (FS W0.heap.size Wm.heap.size W5.heap.size W.heap.size gs) W B5 (varsT xs) := hr5.step (fun k hk hn q => q.2.2.2 ⟨by omega, hk⟩) (fun k hk _ => h3.block k hk)
  refine (Fill_calls _ [x] (some ⟨gs, 0, none⟩) 1 (Nat.le_refl _) 4398046511104 (by decide) (by decide) ⟨6, 0, varsT xs⟩ B5 c5 n W (fun k q => q.2.1) hrv hc5 (reads_one hs (fun q => q.2.2.1 rfl) hrx hc) (fun _ => vars_hB (by decide) hv) (by rw [cnt, vars_cnt]; omega) (fun y hy => ?_)).mono fun e w' q => ?_
  · simp at hy
    subst hy
    exact ⟨fun _ => hBx, by omega⟩
  · rw [hF] at q
    obtain ⟨hb, q⟩ := q
    rcases q with ⟨_, q, _⟩ | ⟨u, B6, c6, q, rfl, hc6, hr6⟩
    · cases q
    · cases q
      exact ⟨hb, B6, c6, rfl, hc6, hr6⟩
end Go.Proofs.Yteojhbhaocgjoaa
