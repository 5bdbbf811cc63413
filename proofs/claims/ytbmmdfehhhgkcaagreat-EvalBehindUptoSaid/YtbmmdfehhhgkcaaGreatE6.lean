/- How far heads go where a function is evaluated: plain laws. A row that is appended to: one's own, or one that is full. The contract of (*evaluating).call, out of that of (*evaluating).eval by as much fuel. The contract of (*evaluating).eval and of eval.Eval. -/
import Derived.Test.YtbmmdfehhhgkcaaGreatE2
import Derived.Test.YtbmmdfehhhgkcaaGreatFW
import Derived.Test.YtbmmdfehhhgkcaaGreatBA
import Derived.Laws.Append
namespace Go.Proofs.YtbmmdfehhhgkcaaGreat
open Go.RowKit Go.Shelf
set_option linter.unusedVariables false
set_option linter.unusedSimpArgs false

theorem inv_bnd {B : Int} (hB1 : B ≤ 288230376151711744) {t u : Tm} {xs : List Int} {n : Int} (hc : cnt t ≤ 4000) (hb : hB B t) (h : (invV t xs n).1 = some u) : hB (B + 1000) u ∧ cnt u = cnt t := by
  unfold invV at h
  cases hm : mayB t with
  | false => rw [hm] at h; simp at h
  | true =>
    cases hq : mayV xs n with
    | false => rw [hm, hq] at h; simp at h
    | true =>
      rw [hm, hq] at h
      simp only [Bool.and_self, if_true] at h
      cases hr : renW (rnV xs n) t 0 with
      | none => rw [hr] at h; simp at h
      | some z =>
        rw [hr] at h
        simp at h
        subst h
        obtain ⟨q1, q2, -⟩ := ren_mayG hB1 (mayV_prop hq) t z 0 hr hb (by omega)
        exact ⟨q1, q2⟩
mutual
theorem nodeF_inv {σ : Type} {MF : Tm → Tm → Int → σ → Except Int σ} {I : σ → Prop} {T : Tm → Prop} (hT : ∀ k h a, T ⟨k, h, a⟩ → ∀ x ∈ a, T x) (hM : ∀ p t n s s', T t → I s → MF p t n s = .ok s' → I s') : ∀ (p t : Tm) (n : Int) (s s' : σ), T t → I s → nodeF MF p t n s = .ok s' → I s'
  | ⟨k, h, a⟩, ⟨tk, th, ta⟩, n, s, s', ht, hi, q => by
    rw [nodeF] at q
    split at q
    · exact hM _ _ _ _ _ ht hi q
    · split at q
      · exact nodeL_inv hT hM _ _ _ _ _ _ (hT _ _ _ ht) hi q
      · cases q
theorem nodeL_inv {σ : Type} {MF : Tm → Tm → Int → σ → Except Int σ} {I : σ → Prop} {T : Tm → Prop} (hT : ∀ k h a, T ⟨k, h, a⟩ → ∀ x ∈ a, T x) (hM : ∀ p t n s s', T t → I s → MF p t n s = .ok s' → I s') : ∀ (b : Bool) (l l' : List Tm) (n : Int) (s s' : σ), (∀ x ∈ l', T x) → I s → nodeL MF b l l' n s = .ok s' → I s'
  | b, [], l', n, s, s', _, hi, q => by rw [nodeL] at q; cases q; exact hi
  | b, _ :: _, [], n, s, s', _, hi, q => by rw [nodeL] at q; cases q; exact hi
  | b, p :: l, t :: l', n, s, s', ht, hi, q => by
    rw [nodeL] at q
    split at q
    · cases q
    · rename_i s2 h2
      exact nodeL_inv hT hM _ _ _ _ _ _ (fun x hx => ht x (List.mem_cons_of_mem _ hx)) (nodeF_inv hT hM _ _ _ _ _ (ht t List.mem_cons_self) hi h2) q
end
/-- What metas become is no greater than the term. -/
theorem match_bnd {B : Int} (hB1 : B ≤ 288230376151711744) {params rigid : List Bool} {p t : Tm} {n : Int} {s s' : List Bd} (hm : mayB t = true → hB B t) (hc : cnt t ≤ 1048576) (hs : ∀ x ∈ s, x.is = true → hB (B + 1000) x.t ∧ cnt x.t ≤ 4000) (q : MatchV params rigid p t n s = .ok s') :
    ∀ x ∈ s', x.is = true → hB (B + 1000) x.t ∧ cnt x.t ≤ 4000 := by
  unfold MatchV at q
  split at q
  case isFalse => cases q
  case isTrue hq =>
    simp only [Bool.and_eq_true] at hq
    have hmt := hq.2.1
    refine nodeF_inv (I := fun s => ∀ x ∈ s, x.is = true → hB (B + 1000) x.t ∧ cnt x.t ≤ 4000) (T := fun t => hB B t ∧ cnt t ≤ 4000) (fun k h a ht x hx => ?_) (fun p t n s s' ht hi q => ?_) p t n s s' ⟨hm hmt, may_cnt hmt (by omega)⟩ hs q
    · rw [hB, cnt] at ht
      exact ⟨hBL_iff.1 ht.1.2.2 x hx, by have := cnt_mem hx; omega⟩
    · unfold metaF at q
      split at q
      · cases q
      · split at q
        · split at q
          · cases q; exact hi
          · cases q
        · split at q
          · cases q
          · split at q
            · cases q
            · rename_i u hu
              split at q
              · cases q
              · cases q
                obtain ⟨q1, q2⟩ := inv_bnd hB1 ht.2 ht.1 hu
                intro x hx hxi
                rcases List.mem_or_eq_of_mem_set hx with hx | rfl
                · exact hi x hx hxi
                · exact ⟨q1, by have := ht.2; show cnt u ≤ 4000; omega⟩
theorem fit_bnd {B : Int} (hB1 : B ≤ 288230376151711744) {k : Nat} {m : Tm} {c : Cs} {r : List Tm × Int} (hm : mayB m = true → hB B m) (hc : cnt m ≤ 1048576) (q : fitV k m c = some r) : ∀ t ∈ r.1, hB (B + 1000) t ∧ cnt t ≤ 4000 := by
  unfold fitV at q
  split at q
  · split at q
    · cases q
    · cases q; intro t ht; cases ht
  · rename_i bs hbs
    have hb := match_bnd hB1 hm hc (fun x hx hi => by simp [bd0] at hx; rw [hx.2] at hi; cases hi) hbs
    split at q
    · cases q; intro t ht; cases ht
    · rename_i hw
      cases q
      intro t ht
      obtain ⟨x, hx, rfl⟩ := List.mem_map.1 ht
      have hxi : x.is = true := by
        cases h : x.is with
        | true => rfl
        | false => exact absurd (List.any_eq_true.2 ⟨x, hx, by simp [h]⟩) hw
      unfold toldT
      rw [if_pos hxi]
      exact hb x hx hxi
/-- What find tells is a clause of the function, and as small. -/
theorem findL_mem {del : List Md} {theta : List Tm} {c : Cs} {rho : List Tm} : ∀ {l : List (Cs × List Tm × Int)}, findL del theta l = .ok (c, rho) → ∃ e, (c, rho, e) ∈ l
  | [], q => by rw [findL] at q; cases q
  | (c', rho', e') :: l, q => by
    rw [findL] at q
    split at q
    · split at q
      · cases q
      · split at q
        · cases q; exact ⟨_, List.mem_cons_self⟩
        · obtain ⟨e, he⟩ := findL_mem q
          exact ⟨e, List.mem_cons_of_mem _ he⟩
    · cases q
theorem fitsV_mem {k : Nat} {m : Tm} {c : Cs} {r : List Tm × Int} : ∀ {l : List Cs}, (c, r) ∈ fitsV k m l → c ∈ l ∧ fitV k m c = some r
  | [], h => by rw [fitsV] at h; cases h
  | c' :: l, h => by
    rw [fitsV] at h
    split at h
    · obtain ⟨h1, h2⟩ := fitsV_mem h
      exact ⟨List.mem_cons_of_mem _ h1, h2⟩
    · rename_i r' hr'
      rcases List.mem_cons.1 h with h | h
      · cases h; exact ⟨List.mem_cons_self, hr'⟩
      · obtain ⟨h1, h2⟩ := fitsV_mem h
        exact ⟨List.mem_cons_of_mem _ h1, h2⟩
theorem findV_mem {f : Fu} {theta : List Tm} {m : Tm} {c : Cs} {rho : List Tm} (q : findV f theta m = .ok (c, rho)) : c ∈ f.cl ∧ ∃ e, fitV f.psi.length m c = some (rho, e) := by
  obtain ⟨e, he⟩ := findL_mem q
  obtain ⟨h1, h2⟩ := fitsV_mem he
  exact ⟨h1, e, h2⟩

/-- What filling comes to is not far greater. -/
theorem fillV_bnd {B : Int} (hB0 : 0 ≤ B) {th : List Tm} {t u : Tm} {n : Int} (hth : ∀ x ∈ th, (mayB x = true → hB B x) ∧ cnt x ≤ 1048576) (hb : mayB t = true → hB B t) (hc : cnt t ≤ 300) (htop : B + stepB * 4000 ≤ 1152921504606846976) (q : FillV th t n = .ok u) : hB (B + stepB * 300) u ∧ cnt u ≤ 4000 ∧ mayB u = true := by
  unfold FillV at q
  split at q
  case isFalse => cases q
  case isTrue hq =>
    simp only [Bool.and_eq_true, Bool.not_eq_true', decide_eq_false_iff_not] at hq
    obtain ⟨h1, h2, h3, h4, h5⟩ := hq
    split at q
    · cases q
    · rename_i v hv
      split at q
      · rename_i hmv
        cases q
        obtain ⟨p1, p2⟩ := fillF_bnd hB0 ⟨by omega, by omega, fun x hx => by
          have hmx : mayB x = true := by
            have := List.any_eq_false.1 h5 x hx
            simpa using this
          exact ⟨(hth x hx).1 hmx, may_cnt hmx (by have := (hth x hx).2; omega)⟩, by unfold stepB at *; omega⟩ (by omega) (hb h1) hv
        exact ⟨p1.mono (by unfold stepB; omega), may_cnt hmv (by omega), hmv⟩
      · cases q

/-- What is asked of functions. -/
structure FuOk (f : Fu) : Prop where
  psi : f.psi.length ≤ 1048576
  phi : f.phi.length ≤ 1048576
  del : f.del.length ≤ 1048576
  dctx : ∀ x ∈ f.del, x.ctx.length ≤ 1048576
  cl : ∀ c ∈ f.cl, ((mayB c.p = true → hB 1099511627776 c.p) ∧ okT c.p ∧ cnt c.p ≤ 1048576) ∧ c.ms.length ≤ 1048576
  th : ∀ c ∈ f.cl, ∀ t ∈ c.th, (mayB t = true → hB 1099511627776 t) ∧ cnt t ≤ 1048576
  ncs : ∀ c ∈ f.cl, c.cs.length ≤ 1048576
  r : ∀ c ∈ f.cl, (mayB c.r = true → hB 1099511627776 c.r) ∧ cnt c.r ≤ 300
  cs : ∀ c ∈ f.cl, ∀ x ∈ c.cs, ((∀ t ∈ x.th, (mayB t = true → hB 1099511627776 t) ∧ cnt t ≤ 1048576) ∧ (mayB x.arg = true → hB 1099511627776 x.arg) ∧ cnt x.arg ≤ 300) ∧ x.ext.length ≤ 1048576 ∧ (-9223372036854775808 ≤ x.f ∧ x.f ≤ 9223372036854775807)
def FusOk (fs : List Fu) : Prop := ∀ f ∈ fs, FuOk f

/-- How far heads may go up where a clause is filled; in a step of evaluating. -/
def fillU : Int := 25165824000000
def stepU : Int := 50331648001000
theorem stepU_eq : stepU = 2 * fillU + 1000 := rfl
theorem fillU_eq : fillU = stepB * 300 := rfl
structure Room (b s : Int) : Prop where
  low : 1099511627776 ≤ b
  s0 : 0 ≤ s
  s1 : s ≤ 2000
  top : b + (2002 - s) * stepU ≤ 288230376151711744
theorem Room.le {b s : Int} (h : Room b s) : b + 2 * stepU ≤ 288230376151711744 := by have := h.top; have := h.s1; unfold stepU at *; omega
theorem Room.top2 {b s : Int} (h : Room b s) : b + stepU + stepB * 4000 ≤ 1152921504606846976 := by have := h.le; unfold stepU stepB at *; omega

theorem match_len {params rigid : List Bool} {p t : Tm} {n : Int} {s s' : List Bd} (q : MatchV params rigid p t n s = .ok s') : s'.length = s.length := by
  unfold MatchV at q
  split at q
  case isFalse => cases q
  case isTrue hq =>
    refine nodeF_inv (I := fun x => x.length = s.length) (T := fun _ => True) (fun _ _ _ _ _ _ => trivial) (fun p t n x x' _ hi q => ?_) p t n s s' trivial rfl q
    unfold metaF at q
    split at q
    · cases q
    · split at q
      · split at q
        · cases q; exact hi
        · cases q
      · split at q
        · cases q
        · split at q
          · cases q
          · split at q
            · cases q
            · cases q
              rw [List.length_set]
              exact hi
theorem find_len {f : Fu} {theta : List Tm} {m : Tm} {c : Cs} {rho : List Tm} (q : findV f theta m = .ok (c, rho)) : rho.length ≤ c.ms.length := by
  obtain ⟨h1, e, h2⟩ := findV_mem q
  unfold fitV at h2
  split at h2
  · split at h2
    · cases h2
    · cases h2; exact Nat.zero_le _
  · rename_i bs hbs
    have hl := match_len hbs
    rw [bd0_len] at hl
    split at h2
    · cases h2; exact Nat.zero_le _
    · cases h2
      rw [toldV_len]
      omega

/-- What is told of a term, of a call, of calls: heads go up by so much a step. -/
def EvB (b s : Int) (r : Except Int Tm × Int) : Prop := s ≤ r.2 ∧ ∀ u, r.1 = .ok u → r.2 ≤ 2000 ∧ hB (b + (r.2 - s) * stepU) u ∧ cnt u ≤ 4000 ∧ mayB u = true
def EvOk (ev : Int → List Tm → Tm → Int → Except Int Tm × Int) : Prop := ∀ (no : Int) (theta : List Tm) (m : Tm) (b s : Int), Room b s → (mayB m = true → hB (b + fillU) m) → cnt m ≤ 1048576 → EvB b s (ev no theta m s)
structure RhoOk (b : Int) (rho : List Tm) : Prop where
  each : ∀ x ∈ rho, hB b x ∧ cnt x ≤ 4000
theorem RhoOk.fill {b c : Int} {rho : List Tm} (h : RhoOk b rho) (hbc : b ≤ c) : ∀ x ∈ rho, (mayB x = true → hB c x) ∧ cnt x ≤ 1048576 := fun x hx => ⟨fun _ => (h.each x hx).1.mono hbc, by have := (h.each x hx).2; omega⟩
theorem callV_bnd {fs : List Fu} {ev : Int → List Tm → Tm → Int → Except Int Tm × Int} (hev : EvOk ev) {x : Cl} (hx : (mayB x.arg = true → hB 1099511627776 x.arg) ∧ cnt x.arg ≤ 300) {rho : List Tm} {b s : Int} (hr : Room b s) (hrho : RhoOk b rho) : EvB b s (callV fs ev x rho s) := by
  unfold callV
  split
  · exact ⟨Int.le_refl _, fun u q => by cases q⟩
  · split
    · exact ⟨Int.le_refl _, fun u q => by cases q⟩
    · rename_i g hg
      split
      · exact ⟨Int.le_refl _, fun u q => by cases q⟩
      · rename_i theta hth
        split
        · exact ⟨Int.le_refl _, fun u q => by cases q⟩
        · rename_i arg harg
          obtain ⟨h1, h2, h3⟩ := fillV_bnd (B := b) (by have := hr.low; omega) (hrho.fill (Int.le_refl _)) (fun hm => (hx.1 hm).mono hr.low) hx.2 (by have := hr.top2; unfold stepU at this; omega) harg
          exact hev x.f theta arg b s hr (fun _ => h1.mono (by rw [fillU_eq]; exact Int.le_refl _)) (by omega)
theorem Room.step {b s s' : Int} (h : Room b s) (hs : s ≤ s') (h1 : s' ≤ 2000) : Room (b + (s' - s) * stepU) s' := by
  obtain ⟨h0, h2, h3, h4⟩ := h
  have e : (s' - s) * stepU = s' * stepU - s * stepU := Int.sub_mul _ _ _
  unfold stepU at *
  exact ⟨by omega, by omega, h1, by unfold stepU; omega⟩
theorem callsV_bnd {fs : List Fu} {ev : Int → List Tm → Tm → Int → Except Int Tm × Int} (hev : EvOk ev) : ∀ {l : List Cl}, (∀ x ∈ l, (mayB x.arg = true → hB 1099511627776 x.arg) ∧ cnt x.arg ≤ 300) → ∀ {rho : List Tm} {b s : Int}, Room b s → RhoOk b rho →
    s ≤ (callsV fs ev l rho s).2 ∧ ∀ all, (callsV fs ev l rho s).1 = .ok all → (callsV fs ev l rho s).2 ≤ 2000 ∧ RhoOk (b + ((callsV fs ev l rho s).2 - s) * stepU) all
  | [], _, rho, b, s, hr, hrho => by
    rw [callsV]
    refine ⟨Int.le_refl _, fun all q => ?_⟩
    cases q
    exact ⟨hr.s1, by rw [Int.sub_self, Int.zero_mul, Int.add_zero]; exact hrho⟩
  | x :: l, hx, rho, b, s, hr, hrho => by
    have hc := callV_bnd (fs := fs) hev (hx x List.mem_cons_self) hr hrho
    rw [callsV]
    split
    · rename_i e s' he
      rw [he] at hc
      exact ⟨hc.1, fun all q => by cases q⟩
    · rename_i t s' ht
      rw [ht] at hc
      obtain ⟨h1, h2⟩ := hc
      obtain ⟨h3, h4, h5, h6⟩ := h2 t rfl
      dsimp only at h1 h3 h4
      have hr' := hr.step h1 h3
      obtain ⟨p1, p2⟩ := callsV_bnd hev (fun y hy => hx y (List.mem_cons_of_mem _ hy)) hr' (rho := rho ++ [t]) ⟨fun y hy => by
        rcases List.mem_append.1 hy with hy | hy
        · exact ⟨(hrho.each y hy).1.mono (by have := hr'.low; have e : (s' - s) * stepU = s' * stepU - s * stepU := Int.sub_mul _ _ _; unfold stepU at *; omega), (hrho.each y hy).2⟩
        · rw [List.mem_singleton.1 hy]; exact ⟨h4, h5⟩⟩
      refine ⟨Int.le_trans h1 p1, fun all q => ?_⟩
      obtain ⟨q1, q2⟩ := p2 all q
      refine ⟨q1, ⟨fun y hy => ⟨(q2.each y hy).1.mono ?_, (q2.each y hy).2⟩⟩⟩
      generalize (callsV fs ev l (rho ++ [t]) s').2 = s2 at *
      have e1 : (s' - s) * stepU = s' * stepU - s * stepU := Int.sub_mul _ _ _
      have e2 : (s2 - s') * stepU = s2 * stepU - s' * stepU := Int.sub_mul _ _ _
      have e3 : (s2 - s) * stepU = s2 * stepU - s * stepU := Int.sub_mul _ _ _
      omega
theorem find_rho {f : Fu} {theta : List Tm} {m : Tm} {c : Cs} {rho : List Tm} {B : Int} (hB1 : B ≤ 288230376151711744) (hm : mayB m = true → hB B m) (hc : cnt m ≤ 1048576) (q : findV f theta m = .ok (c, rho)) : c ∈ f.cl ∧ RhoOk (B + 1000) rho := by
  obtain ⟨h1, e, h2⟩ := findV_mem q
  exact ⟨h1, ⟨fit_bnd hB1 hm hc h2⟩⟩
theorem evalV_bnd {fs : List Fu} (hfs : FusOk fs) : ∀ k, EvOk (evalV fs k)
  | 0 => fun no theta m b s hr hm hc => by
    rw [evalV]
    split <;> exact ⟨Int.le_refl _, fun u q => by cases q⟩
  | k + 1 => fun no theta m b s hr hm hc => by
    rw [evalV]
    split
    · exact ⟨Int.le_refl _, fun u q => by cases q⟩
    · split
      · exact ⟨by show s ≤ s + 1; omega, fun u q => by cases q⟩
      · split
        · exact ⟨Int.le_refl _, fun u q => by cases q⟩
        · rename_i h1 h2 f hf
          split
          · exact ⟨by show s ≤ s + 1; omega, fun u q => by cases q⟩
          · rename_i c rho hfd
            have hl := hr.le
            obtain ⟨hcm, hrho⟩ := find_rho (B := b + fillU) (by unfold stepU fillU at *; omega) hm hc hfd
            have hfo := hfs f (List.mem_of_getElem? hf)
            have hr1 : Room (b + fillU + 1000) (s + 1) := by
              obtain ⟨q0, q1, q2, q3⟩ := hr
              exact ⟨by unfold fillU; omega, by omega, by omega, by unfold stepU fillU at *; omega⟩
            obtain ⟨p1, p2⟩ := callsV_bnd (fs := fs) (evalV_bnd hfs k) (fun x hx => (hfo.cs c hcm x hx).1.2) hr1 hrho
            split
            · rename_i e s' he
              rw [he] at p1
              exact ⟨by show s ≤ s'; dsimp only at p1; omega, fun u q => by cases q⟩
            · rename_i all s' he
              rw [he] at p1 p2
              dsimp only at p1 p2
              obtain ⟨q1, q2⟩ := p2 all rfl
              refine ⟨by show s ≤ s'; omega, fun u q => ?_⟩
              have hr2 := hr1.step p1 q1
              obtain ⟨r1, r2, r3⟩ := fillV_bnd (B := b + fillU + 1000 + (s' - (s + 1)) * stepU) (by have := hr2.low; omega) (q2.fill (Int.le_refl _)) (fun hm => ((hfo.r c hcm).1 hm).mono hr2.low) (hfo.r c hcm).2 (by have := hr2.top2; unfold stepU at *; omega) q
              refine ⟨q1, r1.mono ?_, r2, r3⟩
              have e1 : (s' - s) * stepU = s' * stepU - s * stepU := Int.sub_mul _ _ _
              have e2 : (s' - (s + 1)) * stepU = s' * stepU - (s + 1) * stepU := Int.sub_mul _ _ _
              show b + fillU + 1000 + (s' - (s + 1)) * stepU + stepB * 300 ≤ b + (s' - s) * stepU
              rw [e1, e2, ← fillU_eq]
              unfold stepU fillU
              omega
end Go.Proofs.YtbmmdfehhhgkcaaGreat
namespace Go.Proofs.YtbmmdfehhhgkcaaGreat
open Go.RowKit Go.Shelf
set_option linter.unusedVariables false
set_option linter.unusedSimpArgs false

/-- The row v reads as ts, and may be appended to; what its terms lead to keeps clear of O. -/
def RhoV (base : Nat) (S O : Nat → Prop) (w : World) (v : Value) (ts : List Tm) : Prop :=
  (Mine base S w v ts ∧ ∀ k, O k ↔ S k ∨ v.ownBlock = some k) ∨ ((∃ A, v = .slice A ts.length ts.length ∧ Reads S w A ts) ∧ ∀ k, O k ↔ S k)
theorem RhoV.sub {base : Nat} {S O : Nat → Prop} {w : World} {v : Value} {ts : List Tm} (h : RhoV base S O w v ts) : ∀ k, S k → O k := fun k hk => by
  rcases h with ⟨_, h⟩ | ⟨_, h⟩
  · exact (h k).2 (.inl hk)
  · exact (h k).2 hk
theorem RhoV.own {base : Nat} {S O : Nat → Prop} {w : World} {v : Value} {ts : List Tm} (h : RhoV base S O w v ts) : ∀ k, O k → S k ∨ (base ≤ k ∧ k < w.heap.size) := fun k hk => by
  rcases h with ⟨hm, h⟩ | ⟨_, h⟩
  · rcases (h k).1 hk with q | q
    · exact .inl q
    · exact .inr ⟨hm.ge k q, hm.lt k q⟩
  · exact .inl ((h k).1 hk)
theorem RhoV.slice {base : Nat} {S O : Nat → Prop} {w : World} {v : Value} {ts : List Tm} (h : RhoV base S O w v ts) : ∃ A c, v = .slice A ts.length c ∧ ts.length ≤ c ∧ ReadsE O w A ts := by
  rcases h with ⟨hm, hO⟩ | ⟨⟨A, rfl, hr⟩, hO⟩
  · obtain ⟨h0, h1, qs, h2, ho, h3⟩ := hm
    rcases ho.2 with ⟨rfl, e⟩ | ⟨g, cap, cur, rfl, hg, hh, hcap, hmx, hsz, htake⟩
    · obtain rfl := List.eq_nil_of_length_eq_zero e
      exact ⟨none, 0, rfl, by simp, .inl rfl⟩
    · refine ⟨_, cap, rfl, hcap, .inr ⟨g, 0, fun i => (qs.getD i (none, 0)).1, fun i => (qs.getD i (none, 0)).2, rfl, h0, fun i hi => ?_, fun i hi => ?_⟩⟩
      · have hq : i < qs.length := by omega
        obtain ⟨a0, a1, a2⟩ := tmcs_at ts qs h2 i hi hq
        have hcell : ∀ j u, (tmcs ts qs)[j]? = some u → w.cell? ⟨g, j, none⟩ = some u := fun j u e => by
          have := ho.cells (g := g) rfl j u e
          rwa [add_plain, Nat.zero_add] at this
        have e1 : qs.getD i (none, 0) = qs[i] := by simp [List.getD_eq_getElem?_getD, hq]
        dsimp only
        rw [e1]
        refine ⟨hcell _ _ (by rw [Nat.zero_add, Nat.mul_comm]; exact a0), hcell _ _ (by rw [Nat.zero_add, Nat.mul_comm]; exact a1), hcell _ _ (by rw [Nat.zero_add, Nat.mul_comm]; exact a2), (h3 i hi hq).1⟩
      · have hq : i < qs.length := by omega
        have e1 : qs.getD i (none, 0) = qs[i] := by simp [List.getD_eq_getElem?_getD, hq]
        show Reads O w (qs.getD i (none, 0)).1 _
        rw [e1]
        exact (h3 i hi hq).2.step (fun k _ hk q => hk ((hO k).1 q)) (fun _ _ _ => rfl)
  · exact ⟨A, _, rfl, Nat.le_refl _, (hr.step (fun k _ hk q => hk ((hO k).1 q)) (fun _ _ _ => rfl)).toE⟩
theorem RhoV.grown {base : Nat} {S O : Nat → Prop} {w w' : World} {v : Value} {ts : List Tm} (h : RhoV base S O w v ts) {gv : Nat} (hgv : S gv) (hg : w.grownBy w' (some gv)) : RhoV base S O w' v ts := by
  have hb : ∀ k, k < w.heap.size → ¬ S k → w'.heap[k]? = w.heap[k]? := fun k hk hn => hg.block k hk (fun e => hn (by cases e; exact hgv))
  rcases h with ⟨hm, hO⟩ | ⟨⟨A, rfl, hr⟩, hO⟩
  · exact .inl ⟨hm.step hb, hO⟩
  · exact .inr ⟨⟨A, rfl, hr.step (fun _ _ q => q) hb⟩, hO⟩

/-- 'append(v, t)', where v is full: a new row. -/
theorem run_append_full (ty : TypeId) (base : Nat) (S : Nat → Prop) {W : World} (ad : Addr) (ts : List Tm) (t : Tm) (B : Option Addr) (c : Nat) (hts : Reads S W (some ad) ts) (hr : Reads S W B t.a) (hc : t.a.length ≤ c) (hS : ∀ k, S k → k < W.heap.size) (hbase : base ≤ W.heap.size) (hl : ts.length + 1 ≤ lim) :
    ∃ v1 w1, (Builtin.append_ #[23, 23] ty #[.slice (some ad) ts.length ts.length, .slice (some ⟨W.heap.size, 0, none⟩) 1 1]).run Tryz.prog (W.alloc (.cells #[.int .i64 t.k, .int .i64 t.h, .slice B t.a.length c] 25)) = .ok v1 w1 ∧ Mine base S w1 v1 (ts ++ [t]) ∧ Below W.heap.size W w1 := by
  obtain ⟨i0, hi, hzz⟩ := Option.map_eq_some_iff.1 infoTm
  simp only [Prod.mk.injEq] at hzz
  obtain ⟨hz0, hz1, hz2⟩ := hzz
  have hl' := hl
  unfold lim at hl
  have hcs : ∃ rs : List (Option Addr × Nat), rs.length = ts.length ∧ (∀ j u, (tmcs ts rs)[j]? = some u → W.cell? (ad.add j) = some u) ∧ ∀ i, (hi : i < ts.length) → (hq : i < rs.length) → ts[i].a.length ≤ rs[i].2 ∧ Reads S W rs[i].1 ts[i].a := by
    rcases hts.row_cells with rfl | ⟨ad', rs, e, _, h1, h2, h3⟩
    · exact ⟨[], rfl, fun j u h => by simp [tmcs] at h, fun i hi => absurd hi (by simp)⟩
    · obtain rfl := Option.some.inj e
      exact ⟨rs, h1, h2, h3⟩
  obtain ⟨rs, h1, h2, h3⟩ := hcs
  have hbx : Below W.heap.size W (W.alloc (.cells #[.int .i64 t.k, .int .i64 t.h, .slice B t.a.length c] 25)) := bl_alloc (Below.refl _ _) _
  obtain ⟨WX, hWX⟩ : ∃ WX, W.alloc (.cells #[.int .i64 t.k, .int .i64 t.h, .slice B t.a.length c] 25) = WX := ⟨_, rfl⟩
  have hbk : Blk WX W.heap.size #[.int .i64 t.k, .int .i64 t.h, .slice B t.a.length c] 25 := by rw [← hWX]; exact Blk.nw _ _ _ _ rfl
  rw [hWX] at hbx ⊢
  have hrun := run_append_grow (P := Tryz.prog) WX 23 ty 25 i0 _ Tryz.underlying23 hi hz0 ad ts.length ts.length (tmcs ts rs) (by rw [hz1]; exact tmcs_length ts rs h1) (fun j u hu => cell_mov (h2 j u hu) hbx)
    ⟨W.heap.size, 0, none⟩ 1 1 (tmc t (B, c)) (by rw [hz1]; rfl) (fun j u hu => by rw [add_plain, Nat.zero_add, hbk.cell j]; simpa [tmc] using hu) (by omega) (by omega) (growslice_fits (by omega) (by rw [hz2]; omega))
  have hge := grownCap_ge WX (ts.length + 1) ts.length 25
  have hcm := grownCap_le_maxLen WX (ts.length + 1) ts.length 25 (by simp only [maxLen]; omega)
  refine ⟨_, _, hrun, ?_, bl_alloc hbx.drew _⟩
  have hlen : (tmcs ts rs ++ tmc t (B, c)).length = (ts.length + 1) * 3 := by rw [List.length_append, tmcs_length ts rs h1]; simp [tmc]; omega
  have hbig : Below W.heap.size W (WX.drew.alloc (.cells ((tmcs ts rs).toArray ++ (tmc t (B, c)).toArray ++ Builtin.zeroCells (Value.agg #[.int .i64 0, .int .i64 0, .slice none 0 0]).cells (grownCap WX (ts.length + 1) ts.length 25 - (ts.length + 1))) 25)) := bl_alloc hbx.drew _
  have hsz : W.heap.size < WX.heap.size := hbk.lt
  refine ⟨by rw [List.length_append]; exact hl', fun k hk q => ?_, rs ++ [(B, c)], by simp [h1], ⟨by rw [tmcs_snoc _ _ _ _ h1, hlen, List.length_append]; rfl, .inr ⟨WX.heap.size, _, _, by rw [List.length_append]; rfl, by omega, World.alloc_heap_new WX.drew _, by rw [List.length_append]; exact hge, hcm, ?_, ?_⟩⟩, fun i hi hq => ?_⟩
  · have hk' : WX.heap.size = k := by simpa [Value.ownBlock] using hk
    have := hS k q
    omega
  · have hzc : (Value.agg #[.int .i64 0, .int .i64 0, .slice none 0 0]).cells.size = 3 := rfl
    simp only [Array.size_append, List.size_toArray, size_zeroCells, hzc, tmcs_length ts rs h1]
    have : (tmc t (B, c)).length = 3 := rfl
    rw [this]
    omega
  · rw [tmcs_snoc _ _ _ _ h1, List.length_append]
    simp only [Array.toList_append, List.append_assoc]
    rw [← List.append_assoc]
    exact (by rw [show (ts.length + [t].length) * 3 = (tmcs ts rs ++ tmc t (B, c)).length from hlen.symm]; exact List.take_left)
  · have key : ∀ (A : Option Addr) (l : List Tm), Reads S W A l → Reads (fun k => S k ∨ (Value.slice (some ⟨WX.heap.size, 0, none⟩) (ts.length + 1) (grownCap WX (ts.length + 1) ts.length 25)).ownBlock = some k) _ A l := fun A l h =>
      h.step (fun k hk hn q => by
        rcases q with q | q
        · exact hn q
        · have : WX.heap.size = k := by simpa [Value.ownBlock] using q
          omega) (fun k hk _ => hbig.block k hk)
    by_cases hlt : i < ts.length
    · have hq2 : i < rs.length := by omega
      rw [List.getElem_append_left hlt, List.getElem_append_left hq2]
      exact ⟨(h3 i hlt hq2).1, key _ _ (h3 i hlt hq2).2⟩
    · obtain rfl : i = ts.length := by simp at hi; omega
      have e1 : (ts ++ [t])[ts.length]'hi = t := by simp
      have e2 : (rs ++ [(B, c)])[ts.length]'hq = (B, c) := by simp [← h1]
      rw [e1, e2]
      exact ⟨hc, key _ _ hr⟩

/-- 'append(v, t)': behind 'at_builtin'. -/
theorem append_rho {ops : Array Oper} {rest : List Oper} {o : Oper} {a : Act} {Q : Exit → Act → World → Prop} (hgd : o.guard = none) (s x : Operand)
    (ho : o.op = .call { callee := .builtin .append, args := #[s, x], argTypes := #[23, 23] })
    (base : Nat) (S O : Nat → Prop) {W : World} (v : Value) (ts : List Tm) (t : Tm) (B : Option Addr) (c : Nat) (hs : a.eval s = v) {g : Nat} (hx : a.eval x = .slice (some ⟨g, 0, none⟩) 1 1) (hgs : g = W.heap.size)
    (HM : RhoV base S O W v ts) (hr : Reads O W B t.a) (hc : t.a.length ≤ c) (hS : ∀ k, S k → k < W.heap.size) (hbase : base ≤ W.heap.size) (hl : ts.length + 1 ≤ lim)
    (h : ∀ v1 w1 O1 row, RhoV base S O1 w1 v1 (ts ++ [t]) → W.grownBy w1 row → (∀ k, row = some k → base ≤ k ∧ ¬ S k) → wpList Tryz.prog ops Q rest (a.put o.dst v1) w1) :
    wpList Tryz.prog ops Q (o :: rest) a (W.alloc (.cells #[.int .i64 t.k, .int .i64 t.h, .slice B t.a.length c] 25)) := by
  rcases HM with ⟨HM, hO⟩ | ⟨⟨A, hv, hts⟩, hO⟩
  · refine append_tm hgd s x ho base S v ts t B c hs hx hgs HM (hr.step (fun k _ hk q => hk ((hO k).2 q)) (fun _ _ _ => rfl)) hc hS hbase hl fun v1 w1 h1 h2 => ?_
    exact h v1 w1 _ v.ownBlock (.inl ⟨h1, fun k => Iff.rfl⟩) h2 (fun k hk => ⟨HM.ge k hk, HM.2.1 k hk⟩)
  · have hr' : Reads S W B t.a := hr.step (fun k _ hk q => hk ((hO k).2 q)) (fun _ _ _ => rfl)
    cases A with
    | none =>
      have hn : ts = [] := by cases hts; rfl
      subst hn
      refine append_tm hgd s x ho base S v [] t B c hs hx hgs (by rw [hv]; exact Mine.nil _ _ _) (hr'.step (fun k _ hk q => by rcases q with q | q; exact hk q; (rw [hv] at q; cases q)) (fun _ _ _ => rfl)) hc hS hbase hl fun v1 w1 h1 h2 => ?_
      exact h v1 w1 _ none (.inl ⟨h1, fun k => Iff.rfl⟩) (by rw [hv] at h2; exact h2) (fun k hk => by cases hk)
    | some ad =>
      obtain ⟨v1, w1, hrun, h1, h2⟩ := run_append_full o.type base S ad ts t B c hts hr' hc hS hbase hl
      subst hgs
      refine wpList_plain hgd fun K hK => ?_
      unfold Oper.wp execOp
      rw [← hs] at hv
      simp only [ho, resolve, invoke, builtin, Sem.run_bind, Sem.run_pure, Result.andThen_ok, List.map_toArray, List.map_cons, List.map_nil, hv, hx, hrun]
      exact hK _ _ (h v1 w1 _ none (.inl ⟨h1, fun k => Iff.rfl⟩) (bl_grownBy h2) (fun k hk => by cases hk))
end Go.Proofs.YtbmmdfehhhgkcaaGreat
namespace Go.Proofs.YtbmmdfehhhgkcaaGreat
open Go.RowKit Go.Shelf
set_option linter.unusedVariables false
set_option linter.unusedSimpArgs false

/-- What evaluating leaves: the count, and a term or an error. -/
def RetEv (S : Nat → Prop) (gv : Nat) (F : Option Addr) (n cf : Nat) (r : Except Int Tm × Int) (w : World) (e : Ending) (w' : World) : Prop :=
  w.grownBy w' (some gv) ∧ Blk w' gv #[.slice F n cf, .int .i64 r.2] 72 ∧ ((∃ x, r.1 = .error x ∧ x ≠ 0 ∧ e = .returned (.tuple #[zeroTm, .int .i64 x])) ∨
    ∃ u B c, r.1 = .ok u ∧ e = .returned (.tuple #[.agg #[.int .i64 u.k, .int .i64 u.h, .slice B u.a.length c], .int .i64 0]) ∧ u.a.length ≤ c ∧ Reads S w' B u.a)
/-- (*evaluating).eval by fuel k does what it should. -/
def EvalAt (fs : List Fu) (k : Nat) : Prop :=
  ∀ (S : Nat → Prop) (F : Option Addr) (cf gv : Nat) (fuel no : Int) (theta : List Tm) (m : Tm) (T : Option Addr) (ct : Nat) (M : Option Addr) (cm : Nat) (s b : Int) (w : World),
    fuel.toNat = k → fuel ≤ 9223372036854775807 → -9223372036854775808 ≤ fuel → S gv → (∀ j, S j → j < w.heap.size) → Room b s → Blk w gv #[.slice F fs.length cf, .int .i64 s] 72 → Row eF 13 S w F fs → theta.length ≤ ct → Reads S w T theta → m.a.length ≤ cm → Reads S w M m.a →
    (mayB m = true → hB (b + fillU) m) → cnt m ≤ 1048576 →
    Calls Tryz.prog 35 #[.pointer (some ⟨gv, 0, none⟩), .int .i64 no, .slice T theta.length ct, .agg #[.int .i64 m.k, .int .i64 m.h, .slice M m.a.length cm], .int .i64 fuel] w (RetEv S gv F fs.length cf (evalV fs k no theta m s) w)

/-- What is asked of a call. -/
structure ClsOk (x : Cl) : Prop where
  th : ∀ t ∈ x.th, (mayB t = true → hB 1099511627776 t) ∧ cnt t ≤ 1048576
  arg : (mayB x.arg = true → hB 1099511627776 x.arg) ∧ cnt x.arg ≤ 300
  ext : x.ext.length ≤ 1048576
  f : -9223372036854775808 ≤ x.f ∧ x.f ≤ 9223372036854775807

theorem lasts_Fx {S : Nat → Prop} {w : World} {cs : List Value} {x : Fu} (h : eF S w cs x) : ∃ A a B b C c D d E e F k G g, cs = (cellsF x A a B b C c D d E e F k G g).toList ∧ (x.del.length ≤ b ∧ Row eM 5 S w B x.del) ∧ (x.cl.length ≤ g ∧ Row eK 9 S w G x.cl) := by
  obtain ⟨A, a, B, b, C, c, D, d, E, e, F, k, G, g, h0, h1, h2, h3, h4, h5, h6, h7⟩ := h
  exact ⟨A, a, B, b, C, c, D, d, E, e, F, k, G, g, h0, h2, h7⟩

structure SzRel (l : List Int) (n : Nat) (w : World) (i : Nat) (v : Value) (wr : World) : Prop where
  le : i ≤ l.length
  below : Below w.heap.size w wr
  mine : MineI w.heap.size wr v ((l.take i).map fun x => wrap64 (x + (n : Int)))

theorem ev_bad {S : Nat → Prop} {gv : Nat} {F : Option Addr} {n cf : Nat} {r : Except Int Tm × Int} {s : Int} {w W : World} {g : Nat} {x : Int} (hv : Blk w gv #[.slice F n cf, .int .i64 s] 72) (hb : Below w.heap.size w W) (hg : w.heap.size ≤ g) (hr : r = (.error x, s)) (hx : x ≠ 0) :
    RetEv S gv F n cf r w (.returned (.tuple #[zeroTm, .int .i64 x])) (((W.setCell ⟨g, 0, none⟩ (.int .i64 0)).setCell ⟨g, 1, none⟩ (.int .i64 0)).setCell ⟨g, 2, none⟩ (.slice none 0 0)) := by
  subst hr
  exact ⟨grown_but (bl_grownBy (bl_set3 hb hg)) _, hv.mov (bl_set3 hb hg), .inl ⟨x, rfl, hx, rfl⟩⟩
theorem RetEv.mov {S : Nat → Prop} {gv : Nat} {F : Option Addr} {n cf : Nat} {r : Except Int Tm × Int} {w : World} {e : Ending} {w' w'' : World} (q : RetEv S gv F n cf r w e w') (hb : Below w'.heap.size w' w'') : RetEv S gv F n cf r w e w'' := by
  obtain ⟨h1, h2, h3⟩ := q
  refine ⟨gb_then h1 hb, h2.mov hb, ?_⟩
  rcases h3 with h3 | ⟨u, B, c, h3, h4, h5, h6⟩
  · exact .inl h3
  · exact .inr ⟨u, B, c, h3, h4, h5, h6.mov hb⟩
/-- A term and an error, told of apart. -/
theorem RetEv.open {S : Nat → Prop} {gv : Nat} {F : Option Addr} {n cf : Nat} {r : Except Int Tm × Int} {w : World} {e : Ending} {w' : World} (q : RetEv S gv F n cf r w e w') : w.grownBy w' (some gv) ∧ Blk w' gv #[.slice F n cf, .int .i64 r.2] 72 ∧
    ∃ k h B l c x, e = .returned (.tuple #[.agg #[.int .i64 k, .int .i64 h, .slice B l c], .int .i64 x]) ∧ RetC S r.1 k h B l c x w' := by
  obtain ⟨h1, h2, h3⟩ := q
  refine ⟨h1, h2, ?_⟩
  rcases h3 with ⟨x, h3, h4, rfl⟩ | ⟨u, B, c, h3, rfl, h4, h5⟩
  · exact ⟨0, 0, none, 0, 0, x, rfl, .inl ⟨h3, h4, rfl, rfl, rfl, rfl, rfl⟩⟩
  · exact ⟨u.k, u.h, B, _, c, 0, rfl, .inr ⟨u, h3, rfl, rfl, rfl, rfl, h4, h5⟩⟩
theorem RetEv.close {S : Nat → Prop} {gv : Nat} {F : Option Addr} {n cf : Nat} {r : Except Int Tm × Int} {w w' : World} {k h : Int} {B : Option Addr} {l c : Nat} {x : Int} (h1 : w.grownBy w' (some gv)) (h2 : Blk w' gv #[.slice F n cf, .int .i64 r.2] 72) (h3 : RetC S r.1 k h B l c x w') :
    RetEv S gv F n cf r w (.returned (.tuple #[.agg #[.int .i64 k, .int .i64 h, .slice B l c], .int .i64 x])) w' := by
  refine ⟨h1, h2, ?_⟩
  rcases h3 with ⟨q, hx, rfl, rfl, rfl, rfl, rfl⟩ | ⟨u, q, rfl, rfl, rfl, rfl, hc, hr⟩
  · exact .inl ⟨x, q, hx, rfl⟩
  · exact .inr ⟨u, B, c, q, rfl, hc, hr⟩
/-- The function at number j. -/
theorem fun_at {S : Nat → Prop} {w : World} {F : Option Addr} {fs : List Fu} (h : Row eF 13 S w F fs) {j : Nat} (hj : j < fs.length) : ∃ ad A a B b C c D d E e G k H g, F = some ad ∧ ¬ S ad.block ∧ (∀ i u, (cellsF fs[j] A a B b C c D d E e G k H g)[i]? = some u → w.cell? ⟨(ad.add (j * 13)).block, (ad.add (j * 13)).off + i, none⟩ = some u) ∧
    (ad.add (j * 13)).spot = none ∧ (fs[j].del.length ≤ b ∧ Row eM 5 S w B fs[j].del) ∧ (fs[j].cl.length ≤ g ∧ Row eK 9 S w H fs[j].cl) := by
  obtain ⟨⟨bl, o, sp⟩, cs, h1, h2, h3, h4, h5, h6⟩ := h.2 j hj
  dsimp only at h2
  subst h2
  obtain ⟨A, a, B, b, C, c, D, d, E, e, G, k, H, g, rfl, q1, q2⟩ := lasts_Fx h6
  refine ⟨⟨bl, o, none⟩, A, a, B, b, C, c, D, d, E, e, G, k, H, g, h1, h3, fun i u hu => ?_, by rw [add_plain], q1, q2⟩
  have := h5 i u (by simpa using hu)
  rw [add_plain]
  dsimp only at this ⊢
  rw [Nat.add_assoc]
  exact this

theorem fun_set {w W : World} (h : Below w.heap.size w W) (o : Obj) (v0 v1 v2 v3 v4 v5 v6 v7 v8 v9 v10 v11 v12 : Value) :
    Below w.heap.size w ((((((((((((((W.alloc o).setCell ⟨W.heap.size, 0, none⟩ v0).setCell ⟨W.heap.size, 1, none⟩ v1).setCell ⟨W.heap.size, 2, none⟩ v2).setCell ⟨W.heap.size, 3, none⟩ v3).setCell ⟨W.heap.size, 4, none⟩ v4).setCell ⟨W.heap.size, 5, none⟩ v5).setCell ⟨W.heap.size, 6, none⟩ v6).setCell ⟨W.heap.size, 7, none⟩ v7).setCell ⟨W.heap.size, 8, none⟩ v8).setCell ⟨W.heap.size, 9, none⟩ v9).setCell ⟨W.heap.size, 10, none⟩ v10).setCell ⟨W.heap.size, 11, none⟩ v11).setCell ⟨W.heap.size, 12, none⟩ v12) := by
  have k : ∀ {V : World}, Below w.heap.size w V → ∀ i u, Below w.heap.size w (V.setCell ⟨W.heap.size, i, none⟩ u) := fun hV i u => bl_set hV (p := ⟨W.heap.size, i, none⟩) h.size u
  exact k (k (k (k (k (k (k (k (k (k (k (k (k (bl_alloc h o) 0 v0) 1 v1) 2 v2) 3 v3) 4 v4) 5 v5) 6 v6) 7 v7) 8 v8) 9 v9) 10 v10) 11 v11) 12 v12

set_option maxRecDepth 100000 in
set_option maxHeartbeats 16000000 in
theorem call_calls (fs : List Fu) (hfs : FusOk fs) (k : Nat) (hev : EvalAt fs k) (S : Nat → Prop) (F : Option Addr) (cf gv : Nat) (fuel : Int) (x : Cl) (rho : List Tm) (R : Option Addr) (cr : Nat) (A : Option Addr) (a : Nat) (B : Option Addr) (bb : Nat) (C : Option Addr) (c : Nat) (s b : Int) (w : World)
    (hk : fuel.toNat = k) (hf1 : fuel ≤ 9223372036854775807) (hf2 : -9223372036854775808 ≤ fuel) (hSg : S gv) (hS : ∀ j, S j → j < w.heap.size) (hrm : Room b s) (hv : Blk w gv #[.slice F fs.length cf, .int .i64 s] 72) (hF : Row eF 13 S w F fs)
    (hcr : rho.length ≤ cr) (hR : ReadsE S w R rho) (hrho : RhoOk b rho) (ha : x.ext.length ≤ a) (hth : x.th.length ≤ bb) (hrt : Reads S w B x.th) (hc : x.arg.a.length ≤ c) (hra : Reads S w C x.arg.a) (hx : ClsOk x) :
    Calls Tryz.prog 53 #[.pointer (some ⟨gv, 0, none⟩), .agg #[.int .i64 x.f, .slice A x.ext.length a, .slice B x.th.length bb, .int .i64 x.arg.k, .int .i64 x.arg.h, .slice C x.arg.a.length c], .slice R rho.length cr, .int .i64 fuel] w (RetEv S gv F fs.length cf (callV fs (evalV fs k) x rho s) w) := by
  obtain ⟨xf, ext, xth, arg⟩ := x
  dsimp only at ha hth hrt hc hra ⊢
  have hfl := hF.1
  unfold lim at hfl
  have e5 : Blk ((w.alloc (.cells #[.int .i64 xf, .slice A ext.length a, .slice B xth.length bb, .int .i64 arg.k, .int .i64 arg.h, .slice C arg.a.length c] 63)).alloc (.cells #[.int .i64 0, .int .i64 0, .slice none 0 0] 25)) w.heap.size #[.int .i64 xf, .slice A ext.length a, .slice B xth.length bb, .int .i64 arg.k, .int .i64 arg.h, .slice C arg.a.length c] 63 := (Blk.nw _ _ _ _ rfl).al _
  have e8 : Blk ((w.alloc (.cells #[.int .i64 xf, .slice A ext.length a, .slice B xth.length bb, .int .i64 arg.k, .int .i64 arg.h, .slice C arg.a.length c] 63)).alloc (.cells #[.int .i64 0, .int .i64 0, .slice none 0 0] 25)) (w.heap.size + 1) #[.int .i64 0, .int .i64 0, .slice none 0 0] 25 := Blk.nw _ _ _ _ (by simp)
  have hb : Below w.heap.size w ((w.alloc (.cells #[.int .i64 xf, .slice A ext.length a, .slice B xth.length bb, .int .i64 arg.k, .int .i64 arg.h, .slice C arg.a.length c] 63)).alloc (.cells #[.int .i64 0, .int .i64 0, .slice none 0 0] 25)) := bl_alloc (bl_alloc (Below.refl _ _) _) _
  obtain ⟨W0, hW0⟩ : ∃ W0, ((w.alloc (.cells #[.int .i64 xf, .slice A ext.length a, .slice B xth.length bb, .int .i64 arg.k, .int .i64 arg.h, .slice C arg.a.length c] 63)).alloc (.cells #[.int .i64 0, .int .i64 0, .slice none 0 0] 25)) = W0 := ⟨_, rfl⟩
  rw [hW0] at e5 e8 hb
  have hv0 := hv.mov hb
  have p0 := e5.cell 0
  have g0 := hv0.cell 0
  have lg := hv0.lt
  have l5 := e5.lt
  have HE5 := Lib.hid e5
  have HE8 := Lib.hid e8
  have HV := Lib.hid hv
  have HV0 := Lib.hid hv0
  have HB := Lib.hid hb
  have HC : Hid (callV fs (evalV fs k) ⟨xf, ext, xth, arg⟩ rho s = callV fs (evalV fs k) ⟨xf, ext, xth, arg⟩ rho s) := Lib.hid rfl
  conv at HC => rhs; rhs; unfold callV
  generalize callV fs (evalV fs k) ⟨xf, ext, xth, arg⟩ rho s = rv at *
  clear hv hv0
  by_cases hneg : xf < 0
  · have e := HC.out
    simp only [hneg, true_or, if_true] at e
    have HX := Lib.hid e
    clear HC e
    have z0 := HE8.out.cell 0
    have z1 := HE8.out.cell 1
    have z2 := HE8.out.cell 2
    have y0 := HE8.out.frozen 0
    have y1 := HE8.out.frozen 1
    have y2 := HE8.out.frozen 2
    have l8 := HE8.out.lt
    clear e5 e8 hb
    go_enter Tryz.func53, Tryz.ntmps53
    go_upto_region 1 with fail
    clear hW0
    go_quiet (fail)
    all_goals
      go_wp2_with fail
      refine bodyPost_ret (res_tm rfl _ _ _ _ _ _ rfl (HE8.out.set3 (.int .i64 0) (.int .i64 0) (.slice none 0 0))) rfl ?_
      exact ev_bad HV.out (bl_drewNv HB.out _) (Nat.le_succ _) HX.out (by decide)
  by_cases hge : (fs.length : Int) ≤ xf
  · have e := HC.out
    simp only [hge, or_true, if_true] at e
    have HX := Lib.hid e
    clear HC e
    have z0 := HE8.out.cell 0
    have z1 := HE8.out.cell 1
    have z2 := HE8.out.cell 2
    have y0 := HE8.out.frozen 0
    have y1 := HE8.out.frozen 1
    have y2 := HE8.out.frozen 2
    have l8 := HE8.out.lt
    clear e5 e8 hb
    go_enter Tryz.func53, Tryz.ntmps53
    go_upto_region 1 with fail
    clear hW0
    go_quiet (fail)
    all_goals
      go_wp2_with fail
      refine bodyPost_ret (res_tm rfl _ _ _ _ _ _ rfl (HE8.out.set3 (.int .i64 0) (.int .i64 0) (.slice none 0 0))) rfl ?_
      exact ev_bad HV.out (bl_drewNv HB.out _) (Nat.le_succ _) HX.out (by decide)
  obtain ⟨j, rfl⟩ := Int.eq_ofNat_of_zero_le (Int.not_lt.1 hneg)
  have hj : j < fs.length := by omega
  obtain ⟨ad, fA, fa, fB, fb, fC, fc, fD, fd, fE, fe, fG, fk, fH, fg, rfl, hSad, hcf, hsp, hdel, hfcl⟩ := fun_at hF hj
  have e := HC.out
  have hnr : ¬ ((j : Int) < 0 ∨ (fs.length : Int) ≤ (j : Int)) := by omega
  simp only [hnr, if_false, Int.toNat_natCast, List.getElem?_eq_getElem hj] at e
  have HC2 := Lib.hid e
  have HSP := Lib.hid hsp
  clear HC e hnr
  have hjN : ((j : Int) < (fs.length : Int)) := by omega
  have hj0 : (0 : Int) ≤ (j : Int) := by omega
  have HCE : Hid (∀ W, Below W0.heap.size W0 W → (Below W0.heap.size W0 W ∧ W.cell? ⟨gv, 0, none⟩ = some (.slice (some ad) fs.length cf) ∧ W.cell? ⟨w.heap.size, 0, none⟩ = some (.int .i64 j) ∧
      W.cell? (ad.add (j * 13)) = some (.string fs[j].nm) ∧ W.cell? ⟨(ad.add (j * 13)).block, (ad.add (j * 13)).off + 1, none⟩ = some (.slice fA fs[j].sch.length fa) ∧ W.cell? ⟨(ad.add (j * 13)).block, (ad.add (j * 13)).off + 2, none⟩ = some (.slice fB fs[j].del.length fb) ∧
      W.cell? ⟨(ad.add (j * 13)).block, (ad.add (j * 13)).off + 3, none⟩ = some (.slice fC fs[j].psi.length fc) ∧ W.cell? ⟨(ad.add (j * 13)).block, (ad.add (j * 13)).off + 4, none⟩ = some (.int .i64 fs[j].a.k) ∧ W.cell? ⟨(ad.add (j * 13)).block, (ad.add (j * 13)).off + 5, none⟩ = some (.int .i64 fs[j].a.h) ∧
      W.cell? ⟨(ad.add (j * 13)).block, (ad.add (j * 13)).off + 6, none⟩ = some (.slice fD fs[j].a.a.length fd) ∧ W.cell? ⟨(ad.add (j * 13)).block, (ad.add (j * 13)).off + 7, none⟩ = some (.slice fE fs[j].phi.length fe) ∧ W.cell? ⟨(ad.add (j * 13)).block, (ad.add (j * 13)).off + 8, none⟩ = some (.int .i64 fs[j].b.k) ∧
      W.cell? ⟨(ad.add (j * 13)).block, (ad.add (j * 13)).off + 9, none⟩ = some (.int .i64 fs[j].b.h) ∧ W.cell? ⟨(ad.add (j * 13)).block, (ad.add (j * 13)).off + 10, none⟩ = some (.slice fG fs[j].b.a.length fk) ∧ W.cell? ⟨(ad.add (j * 13)).block, (ad.add (j * 13)).off + 11, none⟩ = some (.bool fs[j].tot) ∧
      W.cell? ⟨(ad.add (j * 13)).block, (ad.add (j * 13)).off + 12, none⟩ = some (.slice fH fs[j].cl.length fg))) := Lib.hid (fun W hb2 => by
    have mv : ∀ i u, (cellsF fs[j] fA fa fB fb fC fc fD fd fE fe fG fk fH fg)[i]? = some u → W.cell? ⟨(ad.add (j * 13)).block, (ad.add (j * 13)).off + i, none⟩ = some u := fun i u hu => cell_mov (hcf i u hu) (bl_then HB.out hb2)
    refine ⟨hb2, (HV0.out.mov hb2).cell 0, (HE5.out.mov hb2).cell 0, ?_, mv 1 _ rfl, mv 2 _ rfl, mv 3 _ rfl, mv 4 _ rfl, mv 5 _ rfl, mv 6 _ rfl, mv 7 _ rfl, mv 8 _ rfl, mv 9 _ rfl, mv 10 _ rfl, mv 11 _ rfl, mv 12 _ rfl⟩
    have q := mv 0 _ rfl
    have e : (⟨(ad.add (j * 13)).block, (ad.add (j * 13)).off + 0, none⟩ : Addr) = ad.add (j * 13) := by rw [Nat.add_zero, ← HSP.out]
    rw [e] at q
    exact q)
  clear hcf e5 e8 hsp
  go_enter Tryz.func53, Tryz.ntmps53
  go_upto_region 1 with fail
  clear hW0
  go_quiet (fail)
  all_goals
    have HN := Lib.hid (rfl : nq = nq)
    go_upto_region 3 with fail
    go_cut [10] (fun s10 wx => ∃ g cs, s10 = .pointer (some ⟨g, 0, none⟩) ∧ w.heap.size + 1 < g ∧ Below W0.heap.size W0 wx ∧ Blk wx g cs 39 ∧ cs[2]? = some (.slice fB fs[j].del.length fb) ∧ cs[3]? = some (.slice fC fs[j].psi.length fc))
    case first =>
      clear p0 g0 lg l5
      obtain ⟨-, c0, c1, d0, d1, d2, d3, d4, d5, d6, d7, d8, d9, d10, d11, d12⟩ := HCE.out _ (bl_drewNv (Below.refl _ _) nq)
      have hlt0 : W0.heap.size = (W0.drewN nq).heap.size := rfl
      have HZ := Lib.hid hlt0
      have HBN : Hid (Below W0.heap.size W0 (W0.drewN nq)) := Lib.hid (bl_drewNv (Below.refl _ _) nq)
      clear hlt0
      generalize W0.drewN nq = Wn at *
      have lt0 := World.block_lt_of_cell? Wn _ c0
      have lt1 := World.block_lt_of_cell? Wn _ c1
      have lt2 := World.block_lt_of_cell? Wn _ d0
      dsimp only at lt0 lt1 lt2
      go_region
      go_wp2_with fail
      go_meet
      exact ⟨Wn.heap.size, _, rfl, by (have := HE8.out.lt; have := HBN.out.size; omega), (bl_alloc HBN.out _).drew, (Blk.nw _ _ _ _ rfl).drew, rfl, rfl⟩
    case rest =>
      obtain ⟨gf, fcs, rfl, hgf, hwc, hfb, hf2', hf3'⟩ := hcut
      have q2 := (hfb.cell 2).trans hf2'
      have q3 := (hfb.cell 3).trans hf3'
      have hw := bl_then HB.out hwc
      have HFB := Lib.hid hfb
      have HQ2 := Lib.hid hf2'
      have HQ3 := Lib.hid hf3'
      have HSZ := Lib.hid (fun (W : World) (hb2 : Below wc.heap.size wc W) => Sizes_calls fs[j].del fB fb W (((hdel.2.less lasts_M (by decide) (fun _ q => q.elim)).mov lasts_M (by decide) hw).mov lasts_M (by decide) hb2))
      have hfo := hfs fs[j] (List.getElem_mem hj)
      have hdl := hfo.del
      clear hfb hf2' hf3' p0 g0 lg l5
      go_wp2_with (first
        | (go_at_call 23; refine (HSZ.out _ (Below.refl _ _)).mono ?_; clear HSZ; rintro e3 w3 ⟨hb3, BS, dS, rfl, hdS, hrS⟩))
      have hx3 := bl_then hwc hb3
      go_loopw [43, 11] (fun jv v wr => ∃ i : Nat, jv = .int .i64 i ∧ SzRel (sizesV fs[j].del) ext.length w3 i v wr) (fun jv _ _ => fs[j].del.length - (intOf jv).toNat)
      case atStart => exact ⟨0, rfl, Nat.zero_le _, Below.refl _ _, MineI.nil _ _⟩
      case round =>
        obtain ⟨i, rfl, hrel⟩ := hrel
        have hbr := hrel.below
        have hsl : (sizesV fs[j].del).length = fs[j].del.length := sizesV_len _
        by_cases hlt : i < fs[j].del.length
        · have hlt2 : i < (sizesV fs[j].del).length := by omega
          obtain ⟨ads, rfl, -, cs0⟩ := (hrS.mov hbr).2 i hlt2
          have c51 := (HE5.out.mov (bl_then hx3 hbr)).cell 1
          have HM := Lib.hid hrel.mine
          have hge := HM.out.ge
          have htk := take_at (fun x => wrap64 (x + (ext.length : Int))) hlt2
          have HTK := Lib.hid htk
          generalize (sizesV fs[j].del)[i] = z at *
          have hwn : IntKind.i64.wrap (z + (ext.length : Int)) = wrap64 (z + (ext.length : Int)) := IntWalk.i64_left _
          have hbs := hbr.size
          have HLT := Lib.hid hlt2
          clear hrel htk hlt2 q2 q3
          go_wp2_with (at_builtin; refine append_int rfl _ _ rfl w3.heap.size u11 (((sizesV fs[j].del).take i).map fun x => wrap64 (x + (ext.length : Int))) (wrap64 (z + (ext.length : Int))) rfl rfl (by simp) HM.out ?bb ?ll ?_
                       case bb => exact hbs
                       case ll => (simp only [List.length_map, List.length_take]; unfold limI; omega)
                       intro v1 w1 hv1 hg1 _
                       have hx5 := bl_grown hbr hg1 (fun k hk => hge k hk)
                       clear hg1)
          exact ⟨⟨i + 1, by go_num, by rw [hsl]; exact hlt, hx5, by rw [HTK.out] at hv1; exact hv1⟩, by simp [intOf]; omega⟩
        · obtain rfl : i = fs[j].del.length := by have := hrel.le; rw [hsl] at this; omega
          have hm := hrel.mine
          rw [← hsl, List.take_length] at hm
          obtain ⟨N, dn, e11, hdn, hN⟩ := hm.reads (by simp [hsl]; unfold limI; omega)
          have hnl : ((sizesV fs[j].del).map fun n => wrap64 (n + (ext.length : Int))).length = fs[j].del.length := by simp [hsl]
          rw [hnl] at e11
          subst e11
          have hwr := bl_then (bl_then hw hb3) hbr
          have hx5 := bl_then hx3 hbr
          have hT2 : ∀ q, q < w.heap.size → ¬ S q → ¬ (S q ∨ q = w.heap.size + 1) := fun q hq hn h => h.elim hn (fun h => by omega)
          have hS2 : ∀ (W : World), Below wr.heap.size wr W → ∀ q, (S q ∨ q = w.heap.size + 1) → q < W.heap.size := fun W hb2 q h => by
            have h1 := hb2.size
            have h2 := hwr.size
            have h3 := HE8.out.lt
            have h4 := hx5.size
            rcases h with h | h
            · have := hS q h; omega
            · omega
          have b0 : 0 ≤ b := by have := hrm.low; omega
          have btop : b + stepB * 4000 ≤ 1152921504606846976 := by have := hrm.top2; unfold stepU at this; omega
          have hwt : ∀ (W : World), Below wr.heap.size wr W → ∀ q, q < w.heap.size → ¬ S q → W.heap[q]? = w.heap[q]? := fun W hb2 q hq _ => (bl_then hwr hb2).block q hq
          have HAL := Lib.hid (fun (W : World) (hb2 : Below wr.heap.size wr W) => (by have h := All_calls (fun q => S q ∨ q = w.heap.size + 1) xth rho ((sizesV fs[j].del).map fun n => wrap64 (n + (ext.length : Int))) B bb R cr N dn W hcr b b0 btop (hS2 W hb2) (hrt.step hT2 (hwt W hb2)) (hR.step hT2 (bl_then hwr hb2)) (hN.mov hb2) (fun t ht => ⟨fun hm => ((hx.th t ht).1 hm).mono hrm.low, (hx.th t ht).2⟩) (hrho.fill (Int.le_refl _)); rw [hnl] at h; exact h : Calls Tryz.prog 22 #[.slice B xth.length bb, .slice R rho.length cr, .slice N fs[j].del.length dn] W (RetQL (fun q => S q ∨ q = w.heap.size + 1) (AllV xth rho ((sizesV fs[j].del).map fun n => wrap64 (n + (ext.length : Int)))) W)))
          have HFI := Lib.hid (fun (W : World) (hb2 : Below wr.heap.size wr W) (n : Int) => Fill_callsE (fun q => S q ∨ q = w.heap.size + 1) rho R cr hcr b b0 btop arg C c n W (hS2 W hb2) (hra.step hT2 (hwt W hb2)) hc (hR.step hT2 (bl_then hwr hb2)) (fun hm => (hx.arg.1 hm).mono hrm.low) (by have := hx.arg.2; dsimp only at this; omega) (hrho.fill (Int.le_refl _)))
          have HFB2 := Lib.hid (fun (n : Int) (u : Tm) (q : FillV rho arg n = .ok u) => fillV_bnd (B := b) b0 (hrho.fill (Int.le_refl _)) (fun hm => (hx.arg.1 hm).mono hrm.low) hx.arg.2 btop q)
          have HEV := Lib.hid (fun (W : World) (hb2 : Below wr.heap.size wr W) (theta : List Tm) (m : Tm) (T : Option Addr) (ct : Nat) (M : Option Addr) (cm : Nat) (h1 : theta.length ≤ ct) (h2 : Reads (fun q => S q ∨ q = w.heap.size + 1) W T theta) (h3 : m.a.length ≤ cm) (h4 : Reads (fun q => S q ∨ q = w.heap.size + 1) W M m.a) (h5 : mayB m = true → hB (b + fillU) m) (h6 : cnt m ≤ 1048576) =>
            hev (fun q => S q ∨ q = w.heap.size + 1) (some ad) cf gv fuel j theta m T ct M cm s b W hk hf1 hf2 (.inl hSg) (hS2 W hb2) hrm (HV.out.mov (bl_then hwr hb2)) (hF.step lasts_F (by decide) hT2 (hwt W hb2)) h1 h2 h3 h4 h5 h6)
          have HP5 := Lib.hid (fun (W : World) (hb2 : Below wr.heap.size wr W) => HE5.out.mov (bl_then hx5 hb2))
          have HP8 := Lib.hid (fun (W : World) (hb2 : Below wr.heap.size wr W) => HE8.out.mov (bl_then hx5 hb2))
          have HPF := Lib.hid (fun (W : World) (hb2 : Below wr.heap.size wr W) => HFB.out.mov (bl_then (bl_then hb3 hbr) hb2))
          have HPV := Lib.hid (fun (W : World) (hb2 : Below wr.heap.size wr W) => HV.out.mov (bl_then hwr hb2))
          have HWR := Lib.hid hwr
          have c50 := (HP5.out _ (Below.refl _ _)).cell 0
          have c52 := (HP5.out _ (Below.refl _ _)).cell 2
          have l50 := (HP5.out _ (Below.refl _ _)).lt
          cases hav : AllV xth rho ((sizesV fs[j].del).map fun n => wrap64 (n + (ext.length : Int)))
          case error y =>
            rw [hav] at HAL
            have hcv := HC2.out
            rw [hav] at hcv
            have HCV := Lib.hid hcv
            clear hrel hm hN hT2 hS2 hwt hx5 q2 q3 hcv hav HC2 hnl hsl hdn
            go_upto_region 11 with (go_at_call 22; refine (HAL.out _ (Below.refl _ _)).mono ?_; clear HAL; rintro e6 w6 ⟨hb6, (⟨y2, hy, hy0, rfl⟩ | ⟨us, _, _, hy, _⟩)⟩; rotate_left; (cases hy))
            obtain rfl := Except.error.inj hy
            have hy' : (y != 0) = true := by simp [hy0]
            have E8 := HP8.out _ hb6
            have z0 := E8.cell 0
            have z1 := E8.cell 1
            have z2 := E8.cell 2
            have y0 := E8.frozen 0
            have y1 := E8.frozen 1
            have y2 := E8.frozen 2
            have HY := Lib.hid hy0
            have HE8' := Lib.hid E8
            clear hy hy0 E8
            go_wp2_with fail
            refine bodyPost_ret (res_tm rfl _ _ _ _ _ _ rfl (HE8'.out.set3 (.int .i64 0) (.int .i64 0) (.slice none 0 0))) rfl ?_
            exact ev_bad HV.out (bl_then HWR.out hb6) (Nat.le_succ _) HCV.out HY.out
          case ok theta =>
            rw [hav] at HAL
            have hcv := HC2.out
            rw [hav] at hcv
            have HCV := Lib.hid hcv
            clear hrel hm hN hT2 hS2 hwt hx5 q2 q3 hcv hav HC2 hnl hsl hdn
            go_upto_region 13 with (go_at_call 22; refine (HAL.out _ (Below.refl _ _)).mono ?_; clear HAL; rintro e6 w6 ⟨hb6, (⟨y2, hy, hy0, rfl⟩ | ⟨us, B6, c6, hy, rfl, hc6, hr6⟩)⟩; (cases hy))
            obtain rfl := Except.ok.inj hy
            clear hy
            have hp6 := HP5.out _ hb6
            have v0 := hp6.cell 0
            have v1 := hp6.cell 1
            have v3 := hp6.cell 3
            have v4 := hp6.cell 4
            have v5 := hp6.cell 5
            have hl6 := hp6.lt
            have u3 := ((HPF.out _ hb6).cell 3).trans HQ3.out
            have lu := (HPF.out _ hb6).lt
            have hext := hx.ext
            have hpsi := hfo.psi
            dsimp only at hext
            have hwq : IntKind.i64.wrap ((ext.length : Int) + (fs[j].psi.length : Int)) = (ext.length : Int) + (fs[j].psi.length : Int) := IntWalk.i64_in _ (by omega)
            have hcv := HCV.out
            rw [show wrap64 ((ext.length : Int) + (fs[j].psi.length : Int)) = (ext.length : Int) + (fs[j].psi.length : Int) from (IntWalk.i64_left _).symm.trans hwq] at hcv
            have HCV2 := Lib.hid hcv
            have HR6 := Lib.hid hr6
            have HB6 := Lib.hid hb6
            clear hp6 hcv HCV hr6
            cases hfv : FillV rho arg ((ext.length : Int) + (fs[j].psi.length : Int))
            case error y =>
              have hcv := HCV2.out
              rw [hfv] at hcv
              have HFV := Lib.hid hfv
              have HCV := Lib.hid hcv
              clear hfv hcv HCV2
              go_upto_region 14 with (go_at_call 25; refine (HFI.out _ hb6 _).mono ?_; clear HFI; rintro e7 w7 ⟨hb7, (⟨y2, hyf, hy0, rfl⟩ | ⟨us, _, _, hyf, _⟩)⟩; rotate_left; (rw [HFV.out] at hyf; cases hyf); (rw [HFV.out] at hyf; obtain rfl := Except.error.inj hyf; clear hyf))
              have hy' : (y != 0) = true := by simp [hy0]
              have hb67 := bl_then HB6.out hb7
              have E8 := HP8.out _ hb67
              have z0 := E8.cell 0
              have z1 := E8.cell 1
              have z2 := E8.cell 2
              have y0 := E8.frozen 0
              have y1 := E8.frozen 1
              have y2 := E8.frozen 2
              have l8 := E8.lt
              have HY := Lib.hid hy0
              have HE8' := Lib.hid E8
              clear hy0 E8
              go_wp2_with fail
              refine bodyPost_ret (res_tm rfl _ _ _ _ _ _ rfl ((HE8'.out.set3 (.int .i64 0) (.int .i64 0) (.slice none 0 0)).al _)) rfl ?_
              exact (ev_bad HV.out (bl_then HWR.out hb67) (Nat.le_succ _) HCV.out HY.out).mov (bl_alloc (Below.refl _ _) _)
            case ok u =>
              have hcv := HCV2.out
              rw [hfv] at hcv
              have HFV := Lib.hid hfv
              have HCV := Lib.hid hcv
              obtain ⟨hu1, hu2, hu3⟩ := HFB2.out _ _ hfv
              clear hfv hcv HCV2
              go_upto_region 16 with (go_at_call 25; refine (HFI.out _ hb6 _).mono ?_; clear HFI; rintro e7 w7 ⟨hb7, (⟨y2, hyf, hy0, rfl⟩ | ⟨u2, B7, c7, hyf, rfl, hc7, hr7⟩)⟩; (rw [HFV.out] at hyf; cases hyf); (rw [HFV.out] at hyf; obtain rfl := Except.ok.inj hyf; clear hyf))
              have hb67 := bl_then HB6.out hb7
              have hwx : Below w7.heap.size w7 (w7.alloc (.cells #[.int .i64 u.k, .int .i64 u.h, .slice B7 u.a.length c7] 25)) := bl_alloc (Below.refl _ _) _
              have hb8 := bl_then hb67 hwx
              have HX := Lib.hid (HEV.out _ hb8 theta u B6 c6 B7 c7 hc6 (HR6.out.mov (bl_then hb7 hwx)) hc7 (hr7.mov hwx) (fun _ => by rw [fillU_eq]; exact hu1) (by omega))
              have E8 := HP8.out _ hb8
              have w0 := (HP5.out _ hb67).cell 0
              have l5' := (HP5.out _ hb67).lt
              have HE8' := Lib.hid E8
              clear E8 v0 v1 v3 v4 v5 u3 lu hl6 hr7
              have hgv : gv < w.heap.size := HV.out.lt
              have hne : some (w.heap.size + 1) ≠ some gv := fun e => by have := Option.some.inj e; omega
              go_wp2_with (go_at_call 35; refine HX.out.mono ?_; clear HX; rintro e9 w9 q; obtain ⟨hg9, hv9, k9, h9, B9, l9, c9, x9, rfl, hrc⟩ := q.open; have Z := HE8'.out.grown hg9 hne; have z0 := Z.cell 0; have z1 := Z.cell 1; have z2 := Z.cell 2; have y0 := Z.frozen 0; have y1 := Z.frozen 1; have y2 := Z.frozen 2; have HZ := Lib.hid Z; clear Z q)
              refine bodyPost_ret (res_tm rfl _ _ _ _ _ _ rfl (HZ.out.set3 (.int .i64 k9) (.int .i64 h9) (.slice B9 l9 c9))) rfl ?_
              have hcv := HCV.out
              rw [hcv]
              refine RetEv.close (gb_new3 (World.grownBy.trans (grown_but (bl_grownBy (bl_then HWR.out hb8)) _) hg9) (Nat.le_succ _) _ _ _) ?_ ((hrc.set3 (.inr rfl) _ _ _).less (fun q h => .inl h))
              exact ((hv9.far (p := ⟨w.heap.size + 1, 0, none⟩) (by show gv ≠ w.heap.size + 1; omega) _).far (p := ⟨w.heap.size + 1, 1, none⟩) (by show gv ≠ w.heap.size + 1; omega) _).far (p := ⟨w.heap.size + 1, 2, none⟩) (by show gv ≠ w.heap.size + 1; omega) _
end Go.Proofs.YtbmmdfehhhgkcaaGreat
namespace Go.Proofs.YtbmmdfehhhgkcaaGreat
open Go.RowKit Go.Shelf
set_option linter.unusedVariables false
set_option linter.unusedSimpArgs false

theorem FindC.ten {S : Nat → Prop} {r : Except Int (Cs × List Tm)} {v : Array Value} {x : Int} {W : World} (h : FindC S r v x W) : ∃ A1 n1 c1 A2 n2 c2 i1 i2 A3 n3 c3 A4 n4 c4 i3 i4 A5 n5 c5 A6 n6 c6, v = #[.slice A1 n1 c1, .slice A2 n2 c2, .int .i64 i1, .int .i64 i2, .slice A3 n3 c3, .slice A4 n4 c4, .int .i64 i3, .int .i64 i4, .slice A5 n5 c5, .slice A6 n6 c6] := by
  rcases h with ⟨-, -, rfl⟩ | ⟨X, -, -, rfl, -⟩
  · exact ⟨_, _, _, _, _, _, _, _, _, _, _, _, _, _, _, _, _, _, _, _, _, _, rfl⟩
  · exact ⟨_, _, _, _, _, _, _, _, _, _, _, _, _, _, _, _, _, _, _, _, _, _, rfl⟩
theorem FindC.step {S S' : Nat → Prop} {r : Except Int (Cs × List Tm)} {v : Array Value} {x : Int} {A B : World} (hS : ∀ k, k < A.heap.size → ¬ S k → ¬ S' k) (hb : ∀ k, k < A.heap.size → ¬ S k → B.heap[k]? = A.heap[k]?) (h : FindC S r v x A) : FindC S' r v x B := by
  rcases h with h | ⟨X, h1, h2, h3, h4⟩
  · exact .inl h
  · exact .inr ⟨X, h1, h2, h3, HasF.step hS hb h4⟩
theorem HasF.rest {S : Nat → Prop} {G : Cs × List Tm × Int → Prop} {x : Ft} {W : World} (h : HasF S G x W) : (x.c.cs.length ≤ x.d ∧ Row eC 6 S W x.D x.c.cs) ∧ (x.c.r.a.length ≤ x.l ∧ Reads S W x.E x.c.r.a) := by
  obtain ⟨-, ⟨A, a, B, b, C, c, D, d, E, e, h0, -, h2, h3, h4, h5⟩, -⟩ := h
  simp only [List.cons.injEq, Value.slice.injEq] at h0
  obtain ⟨-, -, -, -, -, ⟨rfl, -, rfl⟩, -, -, ⟨rfl, -, rfl⟩, -⟩ := h0
  exact ⟨h4, h5⟩

theorem set_away {W : World} {p a : Addr} {u v : Value} (h : W.cell? a = some v) (hne : a.block ≠ p.block) : (W.setCell p u).cell? a = some v := by
  rw [World.cell?_of_block (w := W) (w' := W.setCell p u) (a := a) (Below.heap_setCell W p u a.block hne)]
  exact h
theorem Room.topB {b s : Int} (h : Room b s) : b + stepB * 4000 ≤ 1152921504606846976 := by have := h.top2; unfold stepU stepB at *; omega
theorem Room.pos {b s : Int} (h : Room b s) : 0 ≤ b := by have := h.low; omega
theorem bndU1 {b s0 s2 sc : Int} (h : s2 ≤ sc) : b + (s2 - s0) * stepU ≤ b + (sc - s0) * stepU := by
  have e1 : (s2 - s0) * stepU = s2 * stepU - s0 * stepU := Int.sub_mul _ _ _
  have e3 : (sc - s0) * stepU = sc * stepU - s0 * stepU := Int.sub_mul _ _ _
  unfold stepU at *
  omega
theorem bndU2 {b s0 s2 sc : Int} : b + (s2 - s0) * stepU + (sc - s2) * stepU ≤ b + (sc - s0) * stepU := by
  have e1 : (s2 - s0) * stepU = s2 * stepU - s0 * stepU := Int.sub_mul _ _ _
  have e2 : (sc - s2) * stepU = sc * stepU - s2 * stepU := Int.sub_mul _ _ _
  have e3 : (sc - s0) * stepU = sc * stepU - s0 * stepU := Int.sub_mul _ _ _
  omega
theorem wrap_nat {i n : Nat} (h : i < n) (hn : n ≤ 1048576) : wrap64 ((i : Int) + 1) = ((i + 1 : Nat) : Int) := by unfold wrap64; omega
theorem meas_nat {i n : Nat} (h : i < n) : n - (intOf (.int .i64 ((i + 1 : Nat) : Int))).toNat < n - (intOf (.int .i64 (i : Int))).toNat := by
  simp only [intOf, Int.toNat_natCast]
  omega
theorem len_nat {rho rho0 : List Tm} {u : Tm} {i : Nat} (h : rho.length = rho0.length + i) : (rho ++ [u]).length = rho0.length + (i + 1) := by rw [List.length_append, h]; rfl

/-- What the loop over a clause's calls keeps. -/
structure LoRel (fs : List Fu) (k : Nat) (cs : List Cl) (rho0 : List Tm) (b s0 : Int) (S : Nat → Prop) (gv : Nat) (F : Option Addr) (cf : Nat) (wx : World) (i : Nat) (v : Value) (wr : World) : Prop where
  le : i ≤ cs.length
  grown : wx.grownBy wr (some gv)
  out : ∃ (rho : List Tm) (s : Int) (O : Nat → Prop), Blk wr gv #[.slice F fs.length cf, .int .i64 s] 72 ∧ RhoV wx.heap.size S O wr v rho ∧ callsV fs (evalV fs k) (cs.drop i) rho s = callsV fs (evalV fs k) cs rho0 s0 ∧ s0 ≤ s ∧ s ≤ 2000 ∧ RhoOk (b + (s - s0) * stepU) rho ∧ rho.length = rho0.length + i

theorem ev_bad2 {S : Nat → Prop} {gv : Nat} {F : Option Addr} {n cf : Nat} {r : Except Int Tm × Int} {s : Int} {w W : World} {g : Nat} {x : Int} (hg : w.grownBy W (some gv)) (hv : Blk W gv #[.slice F n cf, .int .i64 s] 72) (hn : w.heap.size ≤ g) (hne : gv ≠ g) (hr : r = (.error x, s)) (hx : x ≠ 0) :
    RetEv S gv F n cf r w (.returned (.tuple #[zeroTm, .int .i64 x])) (((W.setCell ⟨g, 0, none⟩ (.int .i64 0)).setCell ⟨g, 1, none⟩ (.int .i64 0)).setCell ⟨g, 2, none⟩ (.slice none 0 0)) := by
  subst hr
  exact ⟨gb_new3 hg hn _ _ _, ((hv.far (p := ⟨g, 0, none⟩) hne _).far (p := ⟨g, 1, none⟩) hne _).far (p := ⟨g, 2, none⟩) hne _, .inl ⟨x, rfl, hx, rfl⟩⟩

theorem fit_below {w W : World} (h : Below w.heap.size w W) {g : Nat} (hg : w.heap.size ≤ g) (a0 a1 a2 a3 a4 a5 a6 a7 a8 a9 : Value) :
    Below w.heap.size w ((((((((((W.setCell ⟨g, 0, none⟩ a0).setCell ⟨g, 1, none⟩ a1).setCell ⟨g, 2, none⟩ a2).setCell ⟨g, 3, none⟩ a3).setCell ⟨g, 4, none⟩ a4).setCell ⟨g, 5, none⟩ a5).setCell ⟨g, 6, none⟩ a6).setCell ⟨g, 7, none⟩ a7).setCell ⟨g, 8, none⟩ a8).setCell ⟨g, 9, none⟩ a9) :=
  far10 (P := Below w.heap.size w) (fun V hv j u => bl_set hv (p := ⟨g, j, none⟩) hg u) h _ _ _ _ _ _ _ _ _ _

/-- A fit is stored into a block that is known. -/
theorem wp_store_fit {o : Oper} {a : Act} {K : Act → World → Prop} {Q : Exit → Act → World → Prop} (p v : Operand) (ho : o.op = .store 95 p v) {W : World} {g : Nat} {b0 b1 b2 b3 b4 b5 b6 b7 b8 b9 : Value} (hb : Blk W g #[b0, b1, b2, b3, b4, b5, b6, b7, b8, b9] 95)
    {A1 : Option Addr} {n1 c1 : Nat} {A2 : Option Addr} {n2 c2 : Nat} {i1 i2 : Int} {A3 : Option Addr} {n3 c3 : Nat} {A4 : Option Addr} {n4 c4 : Nat} {i3 i4 : Int} {A5 : Option Addr} {n5 c5 : Nat} {A6 : Option Addr} {n6 c6 : Nat}
    (hp : a.eval p = .pointer (some ⟨g, 0, none⟩)) (hv : a.eval v = .agg #[.slice A1 n1 c1, .slice A2 n2 c2, .int .i64 i1, .int .i64 i2, .slice A3 n3 c3, .slice A4 n4 c4, .int .i64 i3, .int .i64 i4, .slice A5 n5 c5, .slice A6 n6 c6])
    (h : K (a.put o.dst undef) ((((((((((W.setCell ⟨g, 0, none⟩ (.slice A1 n1 c1)).setCell ⟨g, 1, none⟩ (.slice A2 n2 c2)).setCell ⟨g, 2, none⟩ (.int .i64 i1)).setCell ⟨g, 3, none⟩ (.int .i64 i2)).setCell ⟨g, 4, none⟩ (.slice A3 n3 c3)).setCell ⟨g, 5, none⟩ (.slice A4 n4 c4)).setCell ⟨g, 6, none⟩ (.int .i64 i3)).setCell ⟨g, 7, none⟩ (.int .i64 i4)).setCell ⟨g, 8, none⟩ (.slice A5 n5 c5)).setCell ⟨g, 9, none⟩ (.slice A6 n6 c6))) : o.wp Tryz.prog a W K Q := by
  have z0 := hb.cell 0
  have z1 := hb.cell 1
  have z2 := hb.cell 2
  have z3 := hb.cell 3
  have z4 := hb.cell 4
  have z5 := hb.cell 5
  have z6 := hb.cell 6
  have z7 := hb.cell 7
  have z8 := hb.cell 8
  have z9 := hb.cell 9
  have f0 := hb.frozen 0
  have f1 := hb.frozen 1
  have f2 := hb.frozen 2
  have f3 := hb.frozen 3
  have f4 := hb.frozen 4
  have f5 := hb.frozen 5
  have f6 := hb.frozen 6
  have f7 := hb.frozen 7
  have f8 := hb.frozen 8
  have f9 := hb.frozen 9
  have hl := hb.lt
  unfold Oper.wp execOp
  simp only [ho, hp, hv]
  go_simp
  exact h

set_option maxRecDepth 100000 in
set_option maxHeartbeats 16000000 in
theorem eval_step (fs : List Fu) (hfs : FusOk fs) (hfl : fs.length ≤ 1048576) (k : Nat) (hev : ∀ j, k = j + 1 → EvalAt fs j) : EvalAt fs k := by
  intro S F cf gv fuel no theta m T ct M cm s b w hk hf1 hf2 hSg hS hrm hv hF hct hT hcm hM hm hmc
  have e8 : Blk ((w.alloc (.cells #[.int .i64 m.k, .int .i64 m.h, .slice M m.a.length cm] 25)).alloc (.cells #[.int .i64 0, .int .i64 0, .slice none 0 0] 25)) w.heap.size #[.int .i64 m.k, .int .i64 m.h, .slice M m.a.length cm] 25 := (Blk.nw _ _ _ _ rfl).al _
  have e10 : Blk ((w.alloc (.cells #[.int .i64 m.k, .int .i64 m.h, .slice M m.a.length cm] 25)).alloc (.cells #[.int .i64 0, .int .i64 0, .slice none 0 0] 25)) (w.heap.size + 1) #[.int .i64 0, .int .i64 0, .slice none 0 0] 25 := Blk.nw _ _ _ _ (by simp)
  have hb : Below w.heap.size w ((w.alloc (.cells #[.int .i64 m.k, .int .i64 m.h, .slice M m.a.length cm] 25)).alloc (.cells #[.int .i64 0, .int .i64 0, .slice none 0 0] 25)) := bl_alloc (bl_alloc (Below.refl _ _) _) _
  obtain ⟨W0, hW0⟩ : ∃ W0, ((w.alloc (.cells #[.int .i64 m.k, .int .i64 m.h, .slice M m.a.length cm] 25)).alloc (.cells #[.int .i64 0, .int .i64 0, .slice none 0 0] 25)) = W0 := ⟨_, rfl⟩
  rw [hW0] at e8 e10 hb
  have hv0 := hv.mov hb
  have g0 := hv0.cell 0
  have g1 := hv0.cell 1
  have lg := hv0.lt
  have HE8 := Lib.hid e8
  have HE10 := Lib.hid e10
  have HV := Lib.hid hv
  have HV0 := Lib.hid hv0
  have HB := Lib.hid hb
  have hs0 := hrm.s0
  have hs1 := hrm.s1
  have HC : Hid (evalV fs k no theta m s = evalV fs k no theta m s) := Lib.hid rfl
  obtain ⟨rv, hrv⟩ : ∃ rv, evalV fs k no theta m s = rv := ⟨_, rfl⟩
  rw [hrv]
  have HRV := Lib.hid hrv
  clear hv hv0 e8 e10 hrv
  by_cases hneg : no < 0
  · have e : rv = (.error 2, s) := by
      rw [← HRV.out]
      cases k <;> (rw [evalV]; simp [hneg])
    have HX := Lib.hid e
    clear e
    have z0 := HE10.out.cell 0
    have z1 := HE10.out.cell 1
    have z2 := HE10.out.cell 2
    have y0 := HE10.out.frozen 0
    have y1 := HE10.out.frozen 1
    have y2 := HE10.out.frozen 2
    have l10 := HE10.out.lt
    clear hb
    go_enter Tryz.func35, Tryz.ntmps35
    go_wp2_with fail
    clear hW0
    refine bodyPost_ret (res_tm rfl _ _ _ _ _ _ rfl (HE10.out.set3 (.int .i64 0) (.int .i64 0) (.slice none 0 0))) rfl ?_
    exact ev_bad HV.out HB.out (Nat.le_succ _) HX.out (by decide)
  by_cases hge : (fs.length : Int) ≤ no
  · have e : rv = (.error 2, s) := by
      rw [← HRV.out]
      cases k <;> (rw [evalV]; simp [hge])
    have HX := Lib.hid e
    clear e
    have z0 := HE10.out.cell 0
    have z1 := HE10.out.cell 1
    have z2 := HE10.out.cell 2
    have y0 := HE10.out.frozen 0
    have y1 := HE10.out.frozen 1
    have y2 := HE10.out.frozen 2
    have l10 := HE10.out.lt
    clear hb
    go_enter Tryz.func35, Tryz.ntmps35
    go_wp2_with fail
    clear hW0
    refine bodyPost_ret (res_tm rfl _ _ _ _ _ _ rfl (HE10.out.set3 (.int .i64 0) (.int .i64 0) (.slice none 0 0))) rfl ?_
    exact ev_bad HV.out HB.out (Nat.le_succ _) HX.out (by decide)
  have hnr : ¬ (no < 0 ∨ (fs.length : Int) ≤ no) := by omega
  by_cases hfu : fuel < 1
  · have hk0 : k = 0 := by omega
    subst hk0
    have e : rv = (.error 12, s) := by
      rw [← HRV.out, evalV, if_neg hnr]
    have HX := Lib.hid e
    clear e
    have z0 := HE10.out.cell 0
    have z1 := HE10.out.cell 1
    have z2 := HE10.out.cell 2
    have y0 := HE10.out.frozen 0
    have y1 := HE10.out.frozen 1
    have y2 := HE10.out.frozen 2
    have l10 := HE10.out.lt
    clear hb hnr
    go_enter Tryz.func35, Tryz.ntmps35
    go_wp2_with fail
    clear hW0
    refine bodyPost_ret (res_tm rfl _ _ _ _ _ _ rfl (HE10.out.set3 (.int .i64 0) (.int .i64 0) (.slice none 0 0))) rfl ?_
    exact ev_bad HV.out HB.out (Nat.le_succ _) HX.out (by decide)
  obtain ⟨k', rfl⟩ : ∃ k', k = k' + 1 := ⟨k - 1, by omega⟩
  have hev' := hev k' rfl
  have f1 := HV0.out.frozen 1
  have hsw : IntKind.i64.wrap (s + 1) = s + 1 := IntWalk.i64_in _ (by omega)
  have hgw : gv < w.heap.size := HV.out.lt
  have b10 : Blk (W0.setCell ⟨gv, 1, none⟩ (.int .i64 (s + 1))) (w.heap.size + 1) #[.int .i64 0, .int .i64 0, .slice none 0 0] 25 := HE10.out.far (p := ⟨gv, 1, none⟩) (by show w.heap.size + 1 ≠ gv; omega) _
  have b8 : Blk (W0.setCell ⟨gv, 1, none⟩ (.int .i64 (s + 1))) w.heap.size #[.int .i64 m.k, .int .i64 m.h, .slice M m.a.length cm] 25 := HE8.out.far (p := ⟨gv, 1, none⟩) (by show w.heap.size ≠ gv; omega) _
  have bv : Blk (W0.setCell ⟨gv, 1, none⟩ (.int .i64 (s + 1))) gv #[.slice F fs.length cf, .int .i64 (s + 1)] 72 := HV0.out.set 1 _
  have hgr : w.grownBy (W0.setCell ⟨gv, 1, none⟩ (.int .i64 (s + 1))) (some gv) := gb_set (grown_but (bl_grownBy HB.out) _) 1 _
  have hw1s : (W0.setCell ⟨gv, 1, none⟩ (.int .i64 (s + 1))).heap.size = w.heap.size + 2 := by rw [← hW0]; simp [World.setCell]
  by_cases h2k : 2000 < s + 1
  · have e : rv = (.error 4, s + 1) := by
      rw [← HRV.out, evalV, if_neg hnr, if_pos h2k]
    have HX := Lib.hid e
    have H1 := Lib.hid (And.intro b10 (And.intro bv hgr))
    clear e b10 b8 bv hgr hw1s
    have z0 := HE10.out.cell 0
    have z1 := HE10.out.cell 1
    have z2 := HE10.out.cell 2
    have y0 := HE10.out.frozen 0
    have y1 := HE10.out.frozen 1
    have y2 := HE10.out.frozen 2
    have l10 := HE10.out.lt
    clear hb hnr
    go_enter Tryz.func35, Tryz.ntmps35
    go_wp2_with fail
    clear hW0
    refine bodyPost_ret (res_tm rfl _ _ _ _ _ _ rfl (H1.out.1.set3 (.int .i64 0) (.int .i64 0) (.slice none 0 0))) rfl ?_
    exact ev_bad2 H1.out.2.2 H1.out.2.1 (Nat.le_succ _) (by omega) HX.out (by decide)
  obtain ⟨j, rfl⟩ := Int.eq_ofNat_of_zero_le (Int.not_lt.1 hneg)
  have hj : j < fs.length := by omega
  obtain ⟨ad, fA, fa, fB, fb, fC, fc, fD, fd, fE, fe, fG, fk, fH, fg, rfl, hSad, hcf, hsp, hdel, hfcl⟩ := fun_at hF hj
  have hfo := hfs fs[j] (List.getElem_mem hj)
  have HSP := Lib.hid hsp
  have hjN : ((j : Int) < (fs.length : Int)) := by omega
  have hj0 : (0 : Int) ≤ (j : Int) := by omega
  have e : rv = (match findV fs[j] theta m with
      | .error e => (.error e, s + 1)
      | .ok (c, rho) => match callsV fs (evalV fs k') c.cs rho (s + 1) with
        | (.error e, s') => (.error e, s')
        | (.ok all, s') => (FillV all c.r (fs[j].phi.length : Int), s')) := by
    rw [← HRV.out, evalV, if_neg hnr, if_neg h2k]
    simp only [Int.toNat_natCast, List.getElem?_eq_getElem hj]
    cases findV fs[j] theta m with
    | error e => rfl
    | ok cr => obtain ⟨c, rho⟩ := cr; rfl
  have HX := Lib.hid e
  clear e hnr HRV HC
  have hwS : ∀ q, q < w.heap.size → ¬ S q → (W0.setCell ⟨gv, 1, none⟩ (.int .i64 (s + 1))).heap[q]? = w.heap[q]? := fun q hq hn => hgr.block q hq (fun h => hn (by cases h; exact hSg))
  obtain ⟨W1, hW1⟩ : ∃ W1, W0.setCell ⟨gv, 1, none⟩ (.int .i64 (s + 1)) = W1 := ⟨_, rfl⟩
  rw [hW1] at b10 b8 bv hgr hw1s hwS
  have hTW : ∀ (W : World), Below W1.heap.size W1 W → ∀ q, q < w.heap.size → ¬ S q → W.heap[q]? = w.heap[q]? := fun W hb2 q hq hn => (hb2.block q (by omega)).trans (hwS q hq hn)
  have HCE : Hid (∀ W, Below W1.heap.size W1 W → (Below W1.heap.size W1 W ∧ W.cell? ⟨gv, 0, none⟩ = some (.slice (some ad) fs.length cf) ∧ W.cell? ⟨w.heap.size, 0, none⟩ = some (.int .i64 m.k) ∧ W.cell? ⟨w.heap.size, 1, none⟩ = some (.int .i64 m.h) ∧ W.cell? ⟨w.heap.size, 2, none⟩ = some (.slice M m.a.length cm) ∧
      W.cell? (ad.add (j * 13)) = some (.string fs[j].nm) ∧ W.cell? ⟨(ad.add (j * 13)).block, (ad.add (j * 13)).off + 1, none⟩ = some (.slice fA fs[j].sch.length fa) ∧ W.cell? ⟨(ad.add (j * 13)).block, (ad.add (j * 13)).off + 2, none⟩ = some (.slice fB fs[j].del.length fb) ∧
      W.cell? ⟨(ad.add (j * 13)).block, (ad.add (j * 13)).off + 3, none⟩ = some (.slice fC fs[j].psi.length fc) ∧ W.cell? ⟨(ad.add (j * 13)).block, (ad.add (j * 13)).off + 4, none⟩ = some (.int .i64 fs[j].a.k) ∧ W.cell? ⟨(ad.add (j * 13)).block, (ad.add (j * 13)).off + 5, none⟩ = some (.int .i64 fs[j].a.h) ∧
      W.cell? ⟨(ad.add (j * 13)).block, (ad.add (j * 13)).off + 6, none⟩ = some (.slice fD fs[j].a.a.length fd) ∧ W.cell? ⟨(ad.add (j * 13)).block, (ad.add (j * 13)).off + 7, none⟩ = some (.slice fE fs[j].phi.length fe) ∧ W.cell? ⟨(ad.add (j * 13)).block, (ad.add (j * 13)).off + 8, none⟩ = some (.int .i64 fs[j].b.k) ∧
      W.cell? ⟨(ad.add (j * 13)).block, (ad.add (j * 13)).off + 9, none⟩ = some (.int .i64 fs[j].b.h) ∧ W.cell? ⟨(ad.add (j * 13)).block, (ad.add (j * 13)).off + 10, none⟩ = some (.slice fG fs[j].b.a.length fk) ∧ W.cell? ⟨(ad.add (j * 13)).block, (ad.add (j * 13)).off + 11, none⟩ = some (.bool fs[j].tot) ∧
      W.cell? ⟨(ad.add (j * 13)).block, (ad.add (j * 13)).off + 12, none⟩ = some (.slice fH fs[j].cl.length fg))) := Lib.hid (fun W hb2 => by
    have mv : ∀ i u, (cellsF fs[j] fA fa fB fb fC fc fD fd fE fe fG fk fH fg)[i]? = some u → W.cell? ⟨(ad.add (j * 13)).block, (ad.add (j * 13)).off + i, none⟩ = some u := fun i u hu => by
      have hc := hcf i u hu
      have hlt : (ad.add (j * 13)).block < w.heap.size := World.block_lt_of_cell? w ⟨(ad.add (j * 13)).block, _, none⟩ hc
      rw [World.cell?_of_block (w := w) (w' := W) (a := ⟨(ad.add (j * 13)).block, (ad.add (j * 13)).off + i, none⟩) (hTW W hb2 _ hlt (by rw [add_block]; exact hSad))]
      exact hc
    refine ⟨hb2, (bv.mov hb2).cell 0, (b8.mov hb2).cell 0, (b8.mov hb2).cell 1, (b8.mov hb2).cell 2, ?_, mv 1 _ rfl, mv 2 _ rfl, mv 3 _ rfl, mv 4 _ rfl, mv 5 _ rfl, mv 6 _ rfl, mv 7 _ rfl, mv 8 _ rfl, mv 9 _ rfl, mv 10 _ rfl, mv 11 _ rfl, mv 12 _ rfl⟩
    have q := mv 0 _ rfl
    have e : (⟨(ad.add (j * 13)).block, (ad.add (j * 13)).off + 0, none⟩ : Addr) = ad.add (j * 13) := by rw [Nat.add_zero, ← HSP.out]
    rw [e] at q
    exact q)
  have hfok : FindOk (b + fillU + 1000) fs[j] m := by
    have hl := hrm.le
    have hlow := hrm.low
    refine ⟨by unfold fillU; omega, by unfold fillU stepB; unfold stepU at hl; omega, hfo.psi, ⟨fun c hc => ⟨fun hp hmm => ⟨⟨((hfo.cl c hc).1.1 hp).mono (by decide), (hfo.cl c hc).1.2.1, may_cnt hp (by have := (hfo.cl c hc).1.2.2; omega)⟩, (hm hmm).mono (by unfold fillU; unfold stepU at hl; omega), may_cnt hmm (by omega)⟩, (hfo.cl c hc).2⟩⟩, fun c hc t ht => ⟨fun hmt => ((hfo.th c hc t ht).1 hmt).mono (by unfold fillU; omega), (hfo.th c hc t ht).2⟩, fun c hc r hr t ht => ?_⟩
    obtain ⟨q1, q2⟩ := fit_bnd (B := b + fillU) (by unfold fillU; unfold stepU at hl; omega) hm hmc hr t ht
    exact ⟨fun _ => q1, by omega⟩
  have HFD := Lib.hid (fun (W : World) (hb2 : Below W1.heap.size W1 W) => find_calls (fun q => S q ∨ q = w.heap.size + 1 ∨ (W1.heap.size ≤ q ∧ q < W.heap.size)) (b + fillU + 1000) fs[j] theta m fA fa fB fb fC fc fD fd fE fe fG fk fH fg T ct M cm W
    (fun q h => by have := hb2.size; rcases h with h | h | h; (have := hS q h; omega); omega; omega) hfok
    ((hdel.2.step lasts_M (by decide) (fun _ _ _ q => q.elim) (hTW W hb2))) (hfcl.2.step lasts_K (by decide) (fun q hq hn h => by rcases h with h | h | h; exact hn h; omega; omega) (hTW W hb2))
    (hT.step (fun _ _ _ q => q.elim) (hTW W hb2)) hct (hM.step (fun _ _ _ q => q.elim) (hTW W hb2)) hcm)
  have HF1 := Lib.hid (fun (W : World) (O : Nat → Prop) (hO : ∀ q, O q → S q ∨ w.heap.size ≤ q) (hW : ∀ q, q < w.heap.size → ¬ S q → W.heap[q]? = w.heap[q]?) => hF.step lasts_F (by decide) (S' := O) (fun q hq hn h => by rcases hO q h with h | h; exact hn h; omega) hW)
  have HTW := Lib.hid hTW
  have HB1 := Lib.hid (And.intro b10 (And.intro bv hgr))
  have HW1 := Lib.hid hw1s
  have HBV := Lib.hid bv
  have g1' := bv.cell 1
  have lg' := bv.lt
  clear hcf hdel hfcl hTW hwS b10 b8 bv hgr hw1s hb hsp hT hM
  go_enter Tryz.func35, Tryz.ntmps35
  go_upto_region 8 with fail
  clear hW0 hW1 g0 g1 g1' f1
  obtain ⟨fdv, hfd⟩ : ∃ fdv, findV fs[j] theta m = fdv := ⟨_, rfl⟩
  rw [hfd] at HFD HX
  have HFDE := Lib.hid hfd
  clear hfd
  go_cut [12, 13] (fun s12 s13 wx => ∃ g A1 n1 c1 A2 n2 c2 i1 i2 A3 n3 c3 A4 n4 c4 i3 i4 A5 n5 c5 A6 n6 c6 x, s12 = .pointer (some ⟨g, 0, none⟩) ∧ s13 = .int .i64 x ∧ W1.heap.size ≤ g ∧ Below W1.heap.size W1 wx ∧ Blk wx g #[.slice A1 n1 c1, .slice A2 n2 c2, .int .i64 i1, .int .i64 i2, .slice A3 n3 c3, .slice A4 n4 c4, .int .i64 i3, .int .i64 i4, .slice A5 n5 c5, .slice A6 n6 c6] 95 ∧ FindC (fun q => S q ∨ q = w.heap.size + 1 ∨ q = g) fdv #[.slice A1 n1 c1, .slice A2 n2 c2, .int .i64 i1, .int .i64 i2, .slice A3 n3 c3, .slice A4 n4 c4, .int .i64 i3, .int .i64 i4, .slice A5 n5 c5, .slice A6 n6 c6] x wx)
  case first =>
    clear lg lg'
    refine wp_region_held_drew (S := fun W => (Below W1.heap.size W1 W ∧ W.cell? ⟨gv, 0, none⟩ = some (.slice (some ad) fs.length cf) ∧ W.cell? ⟨w.heap.size, 0, none⟩ = some (.int .i64 m.k) ∧ W.cell? ⟨w.heap.size, 1, none⟩ = some (.int .i64 m.h) ∧ W.cell? ⟨w.heap.size, 2, none⟩ = some (.slice M m.a.length cm) ∧
      W.cell? (ad.add (j * 13)) = some (.string fs[j].nm) ∧ W.cell? ⟨(ad.add (j * 13)).block, (ad.add (j * 13)).off + 1, none⟩ = some (.slice fA fs[j].sch.length fa) ∧ W.cell? ⟨(ad.add (j * 13)).block, (ad.add (j * 13)).off + 2, none⟩ = some (.slice fB fs[j].del.length fb) ∧
      W.cell? ⟨(ad.add (j * 13)).block, (ad.add (j * 13)).off + 3, none⟩ = some (.slice fC fs[j].psi.length fc) ∧ W.cell? ⟨(ad.add (j * 13)).block, (ad.add (j * 13)).off + 4, none⟩ = some (.int .i64 fs[j].a.k) ∧ W.cell? ⟨(ad.add (j * 13)).block, (ad.add (j * 13)).off + 5, none⟩ = some (.int .i64 fs[j].a.h) ∧
      W.cell? ⟨(ad.add (j * 13)).block, (ad.add (j * 13)).off + 6, none⟩ = some (.slice fD fs[j].a.a.length fd) ∧ W.cell? ⟨(ad.add (j * 13)).block, (ad.add (j * 13)).off + 7, none⟩ = some (.slice fE fs[j].phi.length fe) ∧ W.cell? ⟨(ad.add (j * 13)).block, (ad.add (j * 13)).off + 8, none⟩ = some (.int .i64 fs[j].b.k) ∧
      W.cell? ⟨(ad.add (j * 13)).block, (ad.add (j * 13)).off + 9, none⟩ = some (.int .i64 fs[j].b.h) ∧ W.cell? ⟨(ad.add (j * 13)).block, (ad.add (j * 13)).off + 10, none⟩ = some (.slice fG fs[j].b.a.length fk) ∧ W.cell? ⟨(ad.add (j * 13)).block, (ad.add (j * 13)).off + 11, none⟩ = some (.bool fs[j].tot) ∧
      W.cell? ⟨(ad.add (j * 13)).block, (ad.add (j * 13)).off + 12, none⟩ = some (.slice fH fs[j].cl.length fg))) (by kernel_rfl) (HCE.out _ (Below.refl _ _).drew) (fun hHeld => ?_)
    refine wpAnyH_take (i := 0) (v := ?_) rfl (by kernel_rfl) (by kernel_rfl) (by kernel_rfl) (fun _ _ _ h => h) (Or.inl ⟨by rfl, ?_⟩) (by assumption) ?_
    rotate_left
    · intro w hSw
      obtain ⟨-, s0, sm0, sm1, sm2, d0, d1, d2, d3, d4, d5, d6, d7, d8, d9, d10, d11, d12⟩ := hSw
      go_simp
      try with_reducible rfl
    (try simp only [Act.put, List.getElem_toArray, List.getElem_cons_succ, List.getElem_cons_zero, List.setIfInBounds_toArray, List.set_cons_zero, List.set_cons_succ])
    refine wpAnyH_take (i := 1) (v := ?_) rfl (by kernel_rfl) (by kernel_rfl) (by kernel_rfl) (fun _ _ _ h => h) (Or.inl ⟨by rfl, ?_⟩) (by assumption) ?_
    rotate_left
    · intro w hSw
      obtain ⟨-, s0, sm0, sm1, sm2, d0, d1, d2, d3, d4, d5, d6, d7, d8, d9, d10, d11, d12⟩ := hSw
      go_simp
      try with_reducible rfl
    (try simp only [Act.put, List.getElem_toArray, List.getElem_cons_succ, List.getElem_cons_zero, List.setIfInBounds_toArray, List.set_cons_zero, List.set_cons_succ])
    refine wpAnyH_take (i := 2) (v := ?_) rfl (by kernel_rfl) (by kernel_rfl) (by kernel_rfl) (fun _ _ _ h => h) (Or.inl ⟨by rfl, ?_⟩) (by assumption) ?_
    rotate_left
    · intro w hSw
      obtain ⟨-, s0, sm0, sm1, sm2, d0, d1, d2, d3, d4, d5, d6, d7, d8, d9, d10, d11, d12⟩ := hSw
      go_simp
      try with_reducible rfl
    (try simp only [Act.put, List.getElem_toArray, List.getElem_cons_succ, List.getElem_cons_zero, List.setIfInBounds_toArray, List.set_cons_zero, List.set_cons_succ])
    refine wpAnyH_take (i := 3) (v := ?_) rfl (by kernel_rfl) (by kernel_rfl) (by kernel_rfl) (fun _ _ _ h => h) (Or.inl ⟨by rfl, ?_⟩) (by assumption) ?_
    rotate_left
    · intro w hSw
      obtain ⟨-, s0, sm0, sm1, sm2, d0, d1, d2, d3, d4, d5, d6, d7, d8, d9, d10, d11, d12⟩ := hSw
      go_simp
      try with_reducible rfl
    (try simp only [Act.put, List.getElem_toArray, List.getElem_cons_succ, List.getElem_cons_zero, List.setIfInBounds_toArray, List.set_cons_zero, List.set_cons_succ])
    refine wpAnyH_take (i := 4) (v := ?_) rfl (by kernel_rfl) (by kernel_rfl) (by kernel_rfl) (fun _ _ _ h => h) (Or.inl ⟨by rfl, ?_⟩) (by assumption) ?_
    rotate_left
    · intro w hSw
      obtain ⟨-, s0, sm0, sm1, sm2, d0, d1, d2, d3, d4, d5, d6, d7, d8, d9, d10, d11, d12⟩ := hSw
      go_simp
      try with_reducible rfl
    (try simp only [Act.put, List.getElem_toArray, List.getElem_cons_succ, List.getElem_cons_zero, List.setIfInBounds_toArray, List.set_cons_zero, List.set_cons_succ])
    refine wpAnyH_take (i := 5) (v := ?_) rfl (by kernel_rfl) (by kernel_rfl) (by kernel_rfl) (fun _ _ _ h => h) (Or.inl ⟨by rfl, ?_⟩) (by assumption) ?_
    rotate_left
    · intro w hSw
      obtain ⟨-, s0, sm0, sm1, sm2, d0, d1, d2, d3, d4, d5, d6, d7, d8, d9, d10, d11, d12⟩ := hSw
      go_simp
      try with_reducible rfl
    (try simp only [Act.put, List.getElem_toArray, List.getElem_cons_succ, List.getElem_cons_zero, List.setIfInBounds_toArray, List.set_cons_zero, List.set_cons_succ])
    refine wpAnyH_take (i := 6) (v := ?_) rfl (by kernel_rfl) (by kernel_rfl) (by kernel_rfl) (fun _ _ _ h => h) (Or.inl ⟨by rfl, ?_⟩) (by assumption) ?_
    rotate_left
    · intro w hSw
      obtain ⟨-, s0, sm0, sm1, sm2, d0, d1, d2, d3, d4, d5, d6, d7, d8, d9, d10, d11, d12⟩ := hSw
      go_simp
      try with_reducible rfl
    (try simp only [Act.put, List.getElem_toArray, List.getElem_cons_succ, List.getElem_cons_zero, List.setIfInBounds_toArray, List.set_cons_zero, List.set_cons_succ])
    refine wpAnyH_take (i := 7) (v := ?_) rfl (by kernel_rfl) (by kernel_rfl) (by kernel_rfl) (fun _ _ _ h => h) (Or.inl ⟨by rfl, ?_⟩) (by assumption) ?_
    rotate_left
    · intro w hSw
      obtain ⟨-, s0, sm0, sm1, sm2, d0, d1, d2, d3, d4, d5, d6, d7, d8, d9, d10, d11, d12⟩ := hSw
      go_simp
      try with_reducible rfl
    (try simp only [Act.put, List.getElem_toArray, List.getElem_cons_succ, List.getElem_cons_zero, List.setIfInBounds_toArray, List.set_cons_zero, List.set_cons_succ])
    refine wpAnyH_take (i := 8) (v := ?_) rfl (by kernel_rfl) (by kernel_rfl) (by kernel_rfl) (fun _ _ _ h => h) (Or.inl ⟨by rfl, ?_⟩) (by assumption) ?_
    rotate_left
    · intro w hSw
      obtain ⟨-, s0, sm0, sm1, sm2, d0, d1, d2, d3, d4, d5, d6, d7, d8, d9, d10, d11, d12⟩ := hSw
      go_simp
      try with_reducible rfl
    (try simp only [Act.put, List.getElem_toArray, List.getElem_cons_succ, List.getElem_cons_zero, List.setIfInBounds_toArray, List.set_cons_zero, List.set_cons_succ])
    refine wpAnyH_ready (rs := [9, 13]) (by kernel_rfl) (by simp) (AllReadyH.cons rfl (fun K hK => ?_) (AllReadyH.cons rfl (fun K hK => ?_) AllReadyH.nil))
    · rw [if_pos (by rfl)]
      go_simp
      go_at_call 52
      refine (HFD.out _ (Below.refl _ _).drew).mono ?_
      rintro e3 w3 ⟨hb3, v, x, rfl, hfc⟩
      obtain ⟨A1, n1, c1, A2, n2, c2, i1, i2, A3, n3, c3, A4, n4, c4, i3, i4, A5, n5, c5, A6, n6, c6, rfl⟩ := hfc.ten
      have hx3 : Below W1.heap.size W1 w3 := bl_undrew hb3
      clear HFD
      refine hK.out _ _ (HCE.out _ hx3) (fun hHeld => ?_)
      clear hK K
      (try simp only [Act.put, List.getElem_toArray, List.getElem_cons_succ, List.getElem_cons_zero, List.setIfInBounds_toArray, List.set_cons_zero, List.set_cons_succ])
      refine wpAnyH_take (i := 10) (v := ?_) rfl (by kernel_rfl) (by kernel_rfl) (by kernel_rfl) (fun _ _ _ h => h) (Or.inl ⟨by rfl, ?_⟩) (by assumption) ?_
      rotate_left
      · intro w hSw
        obtain ⟨-, s0, sm0, sm1, sm2, d0, d1, d2, d3, d4, d5, d6, d7, d8, d9, d10, d11, d12⟩ := hSw
        go_simp
        try with_reducible rfl
      (try simp only [Act.put, List.getElem_toArray, List.getElem_cons_succ, List.getElem_cons_zero, List.setIfInBounds_toArray, List.set_cons_zero, List.set_cons_succ])
      refine wpAnyH_take (i := 11) (v := ?_) rfl (by kernel_rfl) (by kernel_rfl) (by kernel_rfl) (fun _ _ _ h => h) (Or.inl ⟨by rfl, ?_⟩) (by assumption) ?_
      rotate_left
      · intro w hSw
        obtain ⟨-, s0, sm0, sm1, sm2, d0, d1, d2, d3, d4, d5, d6, d7, d8, d9, d10, d11, d12⟩ := hSw
        go_simp
        try with_reducible rfl
      (try simp only [Act.put, List.getElem_toArray, List.getElem_cons_succ, List.getElem_cons_zero, List.setIfInBounds_toArray, List.set_cons_zero, List.set_cons_succ])
      refine wpAnyH_take (i := 12) (v := ?_) rfl (by kernel_rfl) (by kernel_rfl) (by kernel_rfl) (fun _ _ _ h => h) (Or.inl ⟨by rfl, ?_⟩) (by assumption) ?_
      rotate_left
      · intro w hSw
        obtain ⟨-, s0, sm0, sm1, sm2, d0, d1, d2, d3, d4, d5, d6, d7, d8, d9, d10, d11, d12⟩ := hSw
        go_simp
        try with_reducible rfl
      (try simp only [Act.put, List.getElem_toArray, List.getElem_cons_succ, List.getElem_cons_zero, List.setIfInBounds_toArray, List.set_cons_zero, List.set_cons_succ])
      refine wpAnyH_ready (rs := [13]) (by kernel_rfl) (by simp) (AllReadyH.cons rfl (fun K hK => ?_) AllReadyH.nil)
      rw [if_pos (by rfl)]
      go_simp
      refine hK.out _ _ (HCE.out _ (bl_alloc hx3 _)) (fun hHeld => ?_)
      clear hK K
      (try simp only [Act.put, List.getElem_toArray, List.getElem_cons_succ, List.getElem_cons_zero, List.setIfInBounds_toArray, List.set_cons_zero, List.set_cons_succ])
      refine wpAnyH_ready (rs := [14]) (by kernel_rfl) (by simp) (AllReadyH.cons rfl (fun K hK => ?_) AllReadyH.nil)
      rw [if_pos (by rfl)]
      refine wp_store_fit _ _ rfl (Blk.nw w3 zeroFt 95 w3.heap.size rfl) rfl rfl ?_
      have hbz := fit_below (bl_alloc (o := .cells zeroFt 95) hx3) hx3.size (.slice A1 n1 c1) (.slice A2 n2 c2) (.int .i64 i1) (.int .i64 i2) (.slice A3 n3 c3) (.slice A4 n4 c4) (.int .i64 i3) (.int .i64 i4) (.slice A5 n5 c5) (.slice A6 n6 c6)
      refine hK.out _ _ (HCE.out _ hbz) (fun hHeld => ?_)
      clear hK K
      (try simp only [Act.put, List.getElem_toArray, List.getElem_cons_succ, List.getElem_cons_zero, List.setIfInBounds_toArray, List.set_cons_zero, List.set_cons_succ])
      refine wpAnyH_take (i := 15) (v := ?_) rfl (by kernel_rfl) (by kernel_rfl) (by kernel_rfl) (fun _ _ _ h => h) (Or.inl ⟨by rfl, ?_⟩) (by assumption) ?_
      rotate_left
      · intro w hSw
        obtain ⟨-, s0, sm0, sm1, sm2, d0, d1, d2, d3, d4, d5, d6, d7, d8, d9, d10, d11, d12⟩ := hSw
        go_simp
        try with_reducible rfl
      (try simp only [Act.put, List.getElem_toArray, List.getElem_cons_succ, List.getElem_cons_zero, List.setIfInBounds_toArray, List.set_cons_zero, List.set_cons_succ])
      refine wpAnyH_done (by kernel_rfl) ?_ _
      simp only [Exit.then, Act.put, List.getElem_toArray, List.getElem_cons_succ, List.getElem_cons_zero, List.setIfInBounds_toArray, List.set_cons_zero, List.set_cons_succ]
      go_step
      go_meet
      refine ⟨w3.heap.size, _, _, _, _, _, _, _, _, _, _, _, _, _, _, _, _, _, _, _, _, _, _, x, rfl, rfl, hx3.size, hbz, (Blk.nw w3 zeroFt 95 w3.heap.size rfl).set10 _ _ _ _ _ _ _ _ _ _, hfc.step (fun q hq hn h => hn ?_) (fun q hq hn => ?_)⟩
      · rcases h with h | h | h
        · exact .inl h
        · exact .inr (.inl h)
        · omega
      · have hne : q ≠ w3.heap.size := by omega
        exact far10 (P := fun V => V.heap[q]? = w3.heap[q]?) (fun V hv jj u => (Below.heap_setCell V ⟨w3.heap.size, jj, none⟩ u q hne).trans hv) (Below.heap_alloc _ _ _ hq) _ _ _ _ _ _ _ _ _ _
    · rw [if_pos (by rfl)]
      go_simp
      refine hK.out _ _ (HCE.out _ (bl_alloc (Below.refl _ _) _).drew) (fun hHeld => ?_)
      clear hK K
      (try simp only [Act.put, List.getElem_toArray, List.getElem_cons_succ, List.getElem_cons_zero, List.setIfInBounds_toArray, List.set_cons_zero, List.set_cons_succ])
      refine wpAnyH_ready (rs := [9]) (by kernel_rfl) (by simp) (AllReadyH.cons rfl (fun K hK => ?_) AllReadyH.nil)
      rw [if_pos (by rfl)]
      go_simp
      go_at_call 52
      refine (HFD.out _ (bl_alloc (Below.refl _ _) _).drew).mono ?_
      rintro e3 w3 ⟨hb3, v, x, rfl, hfc⟩
      obtain ⟨A1, n1, c1, A2, n2, c2, i1, i2, A3, n3, c3, A4, n4, c4, i3, i4, A5, n5, c5, A6, n6, c6, rfl⟩ := hfc.ten
      have hx3 : Below W1.heap.size W1 w3 := bl_then (bl_alloc (Below.refl _ _) _) (bl_undrew hb3)
      have hp : Blk w3 W1.heap.size zeroFt 95 := (Blk.nw W1 zeroFt 95 W1.heap.size rfl).mov (bl_undrew hb3)
      clear HFD
      refine hK.out _ _ (HCE.out _ hx3) (fun hHeld => ?_)
      clear hK K
      (try simp only [Act.put, List.getElem_toArray, List.getElem_cons_succ, List.getElem_cons_zero, List.setIfInBounds_toArray, List.set_cons_zero, List.set_cons_succ])
      refine wpAnyH_take (i := 10) (v := ?_) rfl (by kernel_rfl) (by kernel_rfl) (by kernel_rfl) (fun _ _ _ h => h) (Or.inl ⟨by rfl, ?_⟩) (by assumption) ?_
      rotate_left
      · intro w hSw
        obtain ⟨-, s0, sm0, sm1, sm2, d0, d1, d2, d3, d4, d5, d6, d7, d8, d9, d10, d11, d12⟩ := hSw
        go_simp
        try with_reducible rfl
      (try simp only [Act.put, List.getElem_toArray, List.getElem_cons_succ, List.getElem_cons_zero, List.setIfInBounds_toArray, List.set_cons_zero, List.set_cons_succ])
      refine wpAnyH_take (i := 11) (v := ?_) rfl (by kernel_rfl) (by kernel_rfl) (by kernel_rfl) (fun _ _ _ h => h) (Or.inl ⟨by rfl, ?_⟩) (by assumption) ?_
      rotate_left
      · intro w hSw
        obtain ⟨-, s0, sm0, sm1, sm2, d0, d1, d2, d3, d4, d5, d6, d7, d8, d9, d10, d11, d12⟩ := hSw
        go_simp
        try with_reducible rfl
      (try simp only [Act.put, List.getElem_toArray, List.getElem_cons_succ, List.getElem_cons_zero, List.setIfInBounds_toArray, List.set_cons_zero, List.set_cons_succ])
      refine wpAnyH_take (i := 12) (v := ?_) rfl (by kernel_rfl) (by kernel_rfl) (by kernel_rfl) (fun _ _ _ h => h) (Or.inl ⟨by rfl, ?_⟩) (by assumption) ?_
      rotate_left
      · intro w hSw
        obtain ⟨-, s0, sm0, sm1, sm2, d0, d1, d2, d3, d4, d5, d6, d7, d8, d9, d10, d11, d12⟩ := hSw
        go_simp
        try with_reducible rfl
      (try simp only [Act.put, List.getElem_toArray, List.getElem_cons_succ, List.getElem_cons_zero, List.setIfInBounds_toArray, List.set_cons_zero, List.set_cons_succ])
      refine wpAnyH_ready (rs := [14]) (by kernel_rfl) (by simp) (AllReadyH.cons rfl (fun K hK => ?_) AllReadyH.nil)
      rw [if_pos (by rfl)]
      refine wp_store_fit _ _ rfl hp rfl rfl ?_
      have hbz := fit_below hx3 (Nat.le_refl _) (.slice A1 n1 c1) (.slice A2 n2 c2) (.int .i64 i1) (.int .i64 i2) (.slice A3 n3 c3) (.slice A4 n4 c4) (.int .i64 i3) (.int .i64 i4) (.slice A5 n5 c5) (.slice A6 n6 c6)
      refine hK.out _ _ (HCE.out _ hbz) (fun hHeld => ?_)
      clear hK K
      (try simp only [Act.put, List.getElem_toArray, List.getElem_cons_succ, List.getElem_cons_zero, List.setIfInBounds_toArray, List.set_cons_zero, List.set_cons_succ])
      refine wpAnyH_take (i := 15) (v := ?_) rfl (by kernel_rfl) (by kernel_rfl) (by kernel_rfl) (fun _ _ _ h => h) (Or.inl ⟨by rfl, ?_⟩) (by assumption) ?_
      rotate_left
      · intro w hSw
        obtain ⟨-, s0, sm0, sm1, sm2, d0, d1, d2, d3, d4, d5, d6, d7, d8, d9, d10, d11, d12⟩ := hSw
        go_simp
        try with_reducible rfl
      (try simp only [Act.put, List.getElem_toArray, List.getElem_cons_succ, List.getElem_cons_zero, List.setIfInBounds_toArray, List.set_cons_zero, List.set_cons_succ])
      refine wpAnyH_done (by kernel_rfl) ?_ _
      simp only [Exit.then, Act.put, List.getElem_toArray, List.getElem_cons_succ, List.getElem_cons_zero, List.setIfInBounds_toArray, List.set_cons_zero, List.set_cons_succ]
      go_step
      go_meet
      refine ⟨W1.heap.size, _, _, _, _, _, _, _, _, _, _, _, _, _, _, _, _, _, _, _, _, _, _, x, rfl, rfl, Nat.le_refl _, hbz, hp.set10 _ _ _ _ _ _ _ _ _ _, hfc.step (fun q hq hn h => hn ?_) (fun q hq hn => ?_)⟩
      · rcases h with h | h | h
        · exact .inl h
        · exact .inr (.inl h)
        · exact .inr (.inr ⟨by omega, by rw [h]; simp [World.drew]⟩)
      · have hne : q ≠ W1.heap.size := fun h => hn (.inr (.inr ⟨by omega, by rw [h]; simp [World.drew]⟩))
        exact far10 (P := fun V => V.heap[q]? = w3.heap[q]?) (fun V hv jj u => (Below.heap_setCell V ⟨W1.heap.size, jj, none⟩ u q hne).trans hv) rfl _ _ _ _ _ _ _ _ _ _
  case rest =>
    obtain ⟨g12, A1, n1, c1, A2, n2, c2, i1, i2, A3, n3, c3, A4, n4, c4, i3, i4, A5, n5, c5, A6, n6, c6, x, rfl, rfl, hg12, hwx, hfb, hfc⟩ := hcut
    have hgc := gb_then HB1.out.2.2 hwx
    have b10 := HB1.out.1.mov hwx
    have bvc := HBV.out.mov hwx
    clear HFD HCE lg lg'
    rcases hfc with ⟨rfl, hx0, hlit⟩ | ⟨X, rfl, rfl, hlit, hhas⟩
    · have hx' : (x != 0) = true := by simp [hx0]
      have z0 := b10.cell 0
      have z1 := b10.cell 1
      have z2 := b10.cell 2
      have y0 := b10.frozen 0
      have y1 := b10.frozen 1
      have y2 := b10.frozen 2
      have l10 := b10.lt
      have H := Lib.hid (And.intro b10 (And.intro hgc bvc))
      have HX0 := Lib.hid hx0
      clear b10 hgc bvc hx0 hlit hfb
      go_wp2_with fail
      refine bodyPost_ret (res_tm rfl _ _ _ _ _ _ rfl (H.out.1.set3 (.int .i64 0) (.int .i64 0) (.slice none 0 0))) rfl ?_
      exact ev_bad2 H.out.2.1 H.out.2.2 (Nat.le_succ _) (by omega) HX.out HX0.out
    · simp only [aggFt, Array.mk.injEq, List.cons.injEq, Value.slice.injEq, Value.int.injEq, true_and, and_true] at hlit
      obtain ⟨⟨rfl, rfl, rfl⟩, ⟨rfl, rfl, rfl⟩, rfl, rfl, ⟨rfl, rfl, rfl⟩, ⟨rfl, rfl, rfl⟩, rfl, rfl, ⟨rfl, rfl, rfl⟩, ⟨rfl, rfl, rfl⟩⟩ := hlit
      have hlx := hrm.le
      obtain ⟨hXm, hXr⟩ := find_rho (B := b + fillU) (by unfold fillU; unfold stepU at hlx; omega) hm hmc HFDE.out
      have hXl := find_len HFDE.out
      have hms := (hfo.cl _ hXm).2
      obtain ⟨hcsr, hrr⟩ := HasF.rest hhas
      obtain ⟨-, -, hrho, hrn⟩ := hhas
      have hncs := hfo.ncs _ hXm
      have r9 := hfb.cell 9
      have r5 := hfb.cell 5
      have l12 := hfb.lt
      have hxe : ((0 : Int) != 0) = false := rfl
      have HB10 := Lib.hid b10
      have HFB := Lib.hid hfb
      have HGC := Lib.hid hgc
      have HBVC := Lib.hid bvc
      clear b10 hfb hgc bvc
      have hr1 : Room (b + fillU + 1000) (s + 1) := by
        obtain ⟨q0, q1, q2, q3⟩ := hrm
        exact ⟨by unfold fillU; omega, by omega, by omega, by unfold stepU fillU at *; omega⟩
      obtain ⟨Sg, hSg2⟩ : ∃ Sg : Nat → Prop, Sg = fun q => S q ∨ q = w.heap.size + 1 ∨ q = g12 := ⟨_, rfl⟩
      have hSgi : ∀ q, Sg q ↔ (S q ∨ q = w.heap.size + 1 ∨ q = g12) := fun q => by rw [hSg2]
      rw [← hSg2] at hcsr hrr hrho
      have hSgg : Sg gv := (hSgi gv).2 (.inl hSg)
      have hSgl : ∀ q, Sg q → q < wc.heap.size := fun q h => by
        have h1 := hwx.size
        have h2 := HW1.out
        rcases (hSgi q).1 h with h | h | h
        · have := hS q h; omega
        · omega
        · omega
      have hfw : IntKind.i64.wrap (fuel - 1) = fuel - 1 := IntWalk.i64_in _ (by omega)
      have hlo : LoRel fs k' X.c.cs X.rho (b + fillU + 1000) (s + 1) Sg gv (some ad) cf wc 0 (.slice X.R X.rho.length X.rho.length) wc := ⟨Nat.zero_le _, gb_refl _ _, X.rho, s + 1, Sg, HBVC.out, .inr ⟨⟨X.R, rfl, hrho⟩, fun q => Iff.rfl⟩, rfl, Int.le_refl _, by omega, by rw [Int.sub_self, Int.zero_mul, Int.add_zero]; exact hXr, rfl⟩
      have HLO := Lib.hid hlo
      have HXR := Lib.hid hXr
      clear hlo hrho hXr hSg2 HBV HB1 HFDE
      go_wp2_with fail
      go_loopw [79, 14] (fun jv v wr => ∃ i : Nat, jv = .int .i64 i ∧ LoRel fs k' X.c.cs X.rho (b + fillU + 1000) (s + 1) Sg gv (some ad) cf wc i v wr) (fun jv _ _ => X.c.cs.length - (intOf jv).toNat)
      case atStart => exact ⟨0, rfl, HLO.out⟩
      case round =>
        clear HLO r9 r5
        obtain ⟨i, rfl, hrel⟩ := hrel
        have hgx := hrel.grown
        have hxs : ∀ q, q < wc.heap.size → ¬ Sg q → wr.heap[q]? = wc.heap[q]? := fun q hq hn => hgx.block q hq (fun h => hn (by cases h; exact hSgg))
        obtain ⟨rho, s2, O, hbv, hrv, hcalls, hs21, hs22, hro, hlen⟩ := hrel.out
        obtain ⟨RA, rc, rfl, hrc, hre⟩ := hrv.slice
        have hgw2 : w.grownBy wr (some gv) := World.grownBy.trans HGC.out hgx
        by_cases hlt : i < X.c.cs.length
        · obtain ⟨ad2, cs, e2, -, hcl6, k0, kj, EA, ea, EB, eb, EC, ec, hcs, he1, hre1, he2, hre2, he3, hre3⟩ := (hcsr.2.step lasts_C (by decide) (S' := O) (fun q hq hn h => by rcases hrv.own q h with h | h; exact hn h; omega) hxs).at hlt
          rw [hcs] at k0 kj
          have q0 := k0 _ rfl
          have q1 := kj 1 _ rfl
          have q2 := kj 2 _ rfl
          have q3 := kj 3 _ rfl
          have q4 := kj 4 _ rfl
          have q5 := kj 5 _ rfl
          clear k0 kj hcs hcl6
          have hx2 : Room (b + fillU + 1000 + (s2 - (s + 1)) * stepU) s2 := hr1.step hs21 hs22
          have hxo := hfo.cs _ hXm _ (List.getElem_mem hlt)
          have hwl := HW1.out
          have hwcs := hwx.size
          have hOl : ∀ q, O q → q < wr.heap.size := fun q h => by
            rcases hrv.own q h with h | h
            · have := hSgl q h; have := hgx.size; omega
            · exact h.2
          have hOw : ∀ q, O q → S q ∨ w.heap.size ≤ q := fun q h => by
            rcases hrv.own q h with h | h
            · rcases (hSgi q).1 h with h | h | h
              · exact .inl h
              · right; omega
              · right; omega
            · right; omega
          have HCA := Lib.hid (fun (W : World) (hb2 : Below wr.heap.size wr W) => call_calls fs hfs k' hev' O (some ad) cf gv (fuel - 1) X.c.cs[i] rho RA rc EA ea EB eb EC ec s2 (b + fillU + 1000 + (s2 - (s + 1)) * stepU) W
            (by omega) (by omega) (by omega) (hrv.sub _ hSgg) (fun q h => Nat.lt_of_lt_of_le (hOl q h) hb2.size) hx2 (hbv.mov hb2) (HF1.out W O hOw (fun q hq hn => (gb_then hgw2 hb2).block q hq (fun h => hn (by cases h; exact hSg)))) hrc (ReadsE.mov hb2 hre) hro he1 he2 (hre2.mov hb2) he3 (hre3.mov hb2) ⟨hxo.1.1, hxo.1.2, hxo.2.1, hxo.2.2⟩)
          have hcb := callV_bnd (fs := fs) (evalV_bnd hfs k') hxo.1.2 hx2 hro
          rw [List.drop_eq_getElem_cons hlt, callsV] at hcalls
          obtain ⟨cv, sc, hcv⟩ : ∃ cv sc, callV fs (evalV fs k') X.c.cs[i] rho s2 = (cv, sc) := ⟨_, _, rfl⟩
          rw [hcv] at HCA hcb hcalls
          have hb10 := HB10.out.grown hgx (fun h => by have := Option.some.inj h; omega)
          have l10 := hb10.lt
          have HR := Lib.hid hb10
          have HCALLS := Lib.hid hcalls
          have HRV := Lib.hid hrv
          have HCB := Lib.hid hcb
          have HRO := Lib.hid hro
          have hbx : Below wr.heap.size wr (wr.alloc (.cells #[.int .i64 X.c.cs[i].f, .slice EA X.c.cs[i].ext.length ea, .slice EB X.c.cs[i].th.length eb, .int .i64 X.c.cs[i].arg.k, .int .i64 X.c.cs[i].arg.h, .slice EC X.c.cs[i].arg.a.length ec] 63)) := bl_alloc (Below.refl _ _) _
          have HBX := Lib.hid hbx
          have HCX := Lib.hid (HCA.out _ hbx)
          clear HCA hcv hcb hcalls hrv hre hb10 hbx hro hOl hOw
          cases cv
          case error y =>
            have HKEEP := Lib.hid (And.intro hlen (And.intro hs21 (And.intro hs22 (And.intro hgx (And.intro hncs (And.intro hXl (And.intro hms (And.intro hSgl hSgg))))))))
            clear hrel hlen hs21 hs22 hncs hXl hms hxo hx2 hcsr hrr hXm hr1 hlx hrm hSgi hSgg hSgl hxs hgw2 hre1 hre2 hre3 hF hS hSad hwx hgx hbv hrn hwcs hwl hfo hfs hev hev' he1 he2 he3
            go_upto_region 15 with fail
            clear q0 q1 q2 q3 q4 q5
            go_upto_region 16 with (go_at_call 53; refine HCX.out.mono ?_; clear HCX; rintro e5 w5 q; obtain ⟨hg5, hv5, k5, h5, B5, l5, c5, x5, rfl, hrc5⟩ := q.open; clear q)
            rcases hrc5 with ⟨hbad, hx5, rfl, rfl, rfl, rfl, rfl⟩ | ⟨u', hu', -⟩
            rotate_left
            · cases hu'
            obtain rfl := Except.error.inj hbad
            have hx5' : (y != 0) = true := by simp [hx5]
            have hgw5 : wr.grownBy w5 (some gv) := World.grownBy.trans (grown_but (bl_grownBy HBX.out) _) hg5
            have hb5 := (HR.out.mov HBX.out).grown hg5 (fun h => by have := Option.some.inj h; omega)
            have z0 := hb5.cell 0
            have z1 := hb5.cell 1
            have z2 := hb5.cell 2
            have y0 := hb5.frozen 0
            have y1 := hb5.frozen 1
            have y2 := hb5.frozen 2
            have l5 := hb5.lt
            have H5 := Lib.hid (And.intro hb5 (And.intro hv5 hgw5))
            have HX5 := Lib.hid hx5
            clear hb5 hbad hv5 hgw5 hg5 hx5
            go_wp2_with fail
            obtain ⟨hlen, hs21, hs22, hgx, hncs, hXl, hms, hSgl, hSgg⟩ := HKEEP.out
            refine bodyPost_ret (res_tm rfl _ _ _ _ _ _ rfl ((H5.out.1.set3 (.int .i64 0) (.int .i64 0) (.slice none 0 0)).al _)) rfl ?_
            have hrv : rv = (.error y, sc) := by
              have h1 := HX.out
              have h2 := HCALLS.out
              rw [← h2] at h1
              exact h1
            exact (ev_bad2 (World.grownBy.trans HGC.out (World.grownBy.trans hgx H5.out.2.2)) H5.out.2.1 (Nat.le_succ _) (by omega) hrv HX5.out).mov (bl_alloc (Below.refl _ _) _)
          case ok u =>
            have HKEEP := Lib.hid (And.intro hlen (And.intro hs21 (And.intro hs22 (And.intro hgx (And.intro hncs (And.intro hXl (And.intro hms (And.intro hSgl hSgg))))))))
            clear hrel hlen hs21 hs22 hncs hXl hms hxo hx2 hcsr hrr hXm hr1 hlx hrm hSgi hSgg hSgl hxs hgw2 hre1 hre2 hre3 hF hS hSad hwx hgx hbv hrn hwcs hwl hfo hfs hev hev' he1 he2 he3
            go_upto_region 15 with fail
            clear q0 q1 q2 q3 q4 q5
            go_upto_region 16 with (go_at_call 53; refine HCX.out.mono ?_; clear HCX; rintro e5 w5 q; obtain ⟨hg5, hv5, k5, h5, B5, l5, c5, x5, rfl, hrc5⟩ := q.open; clear q)
            rcases hrc5 with ⟨hbad, -⟩ | ⟨u', hu', rfl, rfl, rfl, rfl, hc5, hr5⟩
            · cases hbad
            obtain rfl := Except.ok.inj hu'
            clear hu'
            obtain ⟨hlen, hs21, hs22, hgx, hncs, hXl, hms, hSgl, hSgg⟩ := HKEEP.out
            have hgw5 : wr.grownBy w5 (some gv) := World.grownBy.trans (grown_but (bl_grownBy HBX.out) _) hg5
            obtain ⟨hb1', hb2'⟩ := HCB.out
            obtain ⟨hsc, hub, huc, hum⟩ := hb2' u rfl
            dsimp only at hb1' hsc hub
            have HRV5 := Lib.hid (RhoV.grown HRV.out hSgg (gb_alloc hgw5 (.cells #[.int .i64 u.k, .int .i64 u.h, .slice B5 u.a.length c5] 25)))
            have HR5 := Lib.hid (hr5.mov (bl_alloc (Below.refl w5.heap.size w5) (.cells #[.int .i64 u.k, .int .i64 u.h, .slice B5 u.a.length c5] 25)))
            have HV5 := Lib.hid (hv5.al (.cells #[.int .i64 u.k, .int .i64 u.h, .slice B5 u.a.length c5] 25))
            have HG5 := Lib.hid (World.grownBy.trans hgx (gb_alloc hgw5 (.cells #[.int .i64 u.k, .int .i64 u.h, .slice B5 u.a.length c5] 25)))
            have hz5 := hgw5.size
            have hzx := hgx.size
            have hsl : rho.length + 1 ≤ lim := by unfold lim; omega
            have HSL := Lib.hid hsl
            have HS5 : Hid (∀ q, Sg q → q < (w5.alloc (.cells #[.int .i64 u.k, .int .i64 u.h, .slice B5 u.a.length c5] 25)).heap.size) := Lib.hid (fun q h => by have := hSgl q h; simp; omega)
            clear hg5 hr5 hv5 hsl hlen hs21 hs22 hgx hncs hXl hms hSgl hSgg
            go_wp2_with (at_builtin; refine append_rho rfl _ _ rfl wc.heap.size Sg O (.slice RA rho.length rc) rho u B5 c5 rfl rfl (by simp) HRV5.out HR5.out hc5 HS5.out ?bb HSL.out ?_
                         case bb => (simp; omega)
                         intro v1 w1 O1 row hrv1 hg1 hrow)
            obtain ⟨hlen, hs21, hs22, hgx, hncs, hXl, hms, hSgl, hSgg⟩ := HKEEP.out
            have hne : some gv ≠ row := fun h => (hrow gv h.symm).2 hSgg
            rw [wrap_nat hlt hncs]
            refine ⟨⟨_, _, _, _, _, _, ⟨i + 1, rfl, hlt, gb_own HG5.out hg1 (fun k hk => (hrow k hk).1), rho ++ [u], sc, O1, HV5.out.grown hg1 hne, hrv1, HCALLS.out, Int.le_trans hs21 hb1', hsc, ⟨fun y hy => ?_⟩, len_nat hlen⟩, rfl, rfl, rfl, rfl, rfl, rfl⟩, meas_nat hlt⟩
            rcases List.mem_append.1 hy with hy | hy
            · exact ⟨(HRO.out.each y hy).1.mono (bndU1 hb1'), (HRO.out.each y hy).2⟩
            · rw [List.mem_singleton.1 hy]
              exact ⟨hub.mono bndU2, huc⟩
        · have hdr : X.c.cs.drop i = [] := List.drop_eq_nil_of_le (by omega)
          rw [hdr, callsV] at hcalls
          have hrv2 : rv = (FillV rho X.c.r (fs[j].phi.length : Int), s2) := by
            have h1 := HX.out
            rw [← hcalls] at h1
            exact h1
          have hOl : ∀ q, O q → q < wr.heap.size := fun q h => by
            rcases hrv.own q h with h | h
            · have := hSgl q h; have := hgx.size; omega
            · exact h.2
          have hSl : ∀ q, Sg q → q < wr.heap.size := fun q h => hOl q (hrv.sub q h)
          have hx2 : Room (b + fillU + 1000 + (s2 - (s + 1)) * stepU) s2 := hr1.step hs21 hs22
          obtain ⟨ad2, fA', fa', fB', fb', fC', fc', fD', fd', fE', fe', fG', fk', fH', fg', ead, hSad2, hcf', hsp', -, -⟩ := fun_at (HF1.out wr (fun q => S q ∨ q = w.heap.size + 1) (fun q h => by rcases h with h | h; exact .inl h; right; omega) (fun q hq hn => hgw2.block q hq (fun h => hn (by cases h; exact hSg)))) hj
          obtain rfl := Option.some.inj ead
          have c7 := hcf' 7 _ rfl
          have hb10 := HB10.out.grown hgx (fun h => by have := Option.some.inj h; omega)
          have hb12 := HFB.out.grown hgx (fun h => by have := Option.some.inj h; have := HW1.out; omega)
          have x6 := hb12.cell 6
          have x7 := hb12.cell 7
          have x8 := hb12.cell 8
          have l12' := hb12.lt
          have v0 := hbv.cell 0
          have lv := hbv.lt
          have HBV2 := Lib.hid hbv
          have HB10' := Lib.hid hb10
          have HRV2 := Lib.hid hrv2
          have HGW2 := Lib.hid hgw2
          have HFI := Lib.hid (fun (W : World) (hb2 : Below wr.heap.size wr W) => Fill_callsE Sg rho RA rc hrc (b + fillU + 1000 + (s2 - (s + 1)) * stepU) hx2.pos hx2.topB X.c.r X.E X.l (fs[j].phi.length : Int) W
            (fun q h => Nat.lt_of_lt_of_le (hSl q h) hb2.size) ((hrr.2.step (fun _ _ h => h) hxs).mov hb2) hrr.1 (ReadsE.less (fun q h => hrv.sub q h) (ReadsE.mov hb2 hre)) (fun hmb => ((hfo.r _ hXm).1 hmb).mono hx2.low) (by have := (hfo.r _ hXm).2; omega) (hro.fill (Int.le_refl _)))
          have hsg1 : Sg (w.heap.size + 1) := (hSgi _).2 (.inr (.inl rfl))
          have HSG := Lib.hid (And.intro hsg1 (fun q (h : S q) => (hSgi q).2 (.inl h)))
          clear hlen hrel hdr hcalls hrv2 hOl hSl hx2 hcf' hsp' hb10 hb12 hbv hgw2 hsg1 hro hre hrv hxs hgx hSgi hSgg hSgl hr1 hcsr hrr hF hS hSad hXm hrm hfo hfs hev hev' hwx hXl hms hrn hncs
          go_upto_region 20 with fail
          have hne12 : g12 ≠ w.heap.size + 1 := by have := HW1.out; omega
          have hneg1 : gv ≠ w.heap.size + 1 := by omega
          have hnead : (ad.add (j * 13)).block ≠ w.heap.size + 1 := fun h => hSad2 (.inr (by rw [← h, add_block]))
          have HCF : Hid (∀ W, Below wr.heap.size wr W → (W.cell? ⟨g12, 6, none⟩ = some (.int .i64 X.c.r.k) ∧ W.cell? ⟨g12, 7, none⟩ = some (.int .i64 X.c.r.h) ∧ W.cell? ⟨g12, 8, none⟩ = some (.slice X.E X.c.r.a.length X.l) ∧ W.cell? ⟨gv, 0, none⟩ = some (.slice (some ad) fs.length cf) ∧ W.cell? ⟨(ad.add (j * 13)).block, (ad.add (j * 13)).off + 7, none⟩ = some (.slice fE' fs[j].phi.length fe'))) := Lib.hid (fun W hb2 => ⟨cell_mov x6 hb2, cell_mov x7 hb2, cell_mov x8 hb2, cell_mov v0 hb2, cell_mov c7 hb2⟩)
          have HCG : Hid (∀ (W : World) (jj : Nat) (u : Value), (W.cell? ⟨g12, 6, none⟩ = some (.int .i64 X.c.r.k) ∧ W.cell? ⟨g12, 7, none⟩ = some (.int .i64 X.c.r.h) ∧ W.cell? ⟨g12, 8, none⟩ = some (.slice X.E X.c.r.a.length X.l) ∧ W.cell? ⟨gv, 0, none⟩ = some (.slice (some ad) fs.length cf) ∧ W.cell? ⟨(ad.add (j * 13)).block, (ad.add (j * 13)).off + 7, none⟩ = some (.slice fE' fs[j].phi.length fe')) → ((W.setCell ⟨w.heap.size + 1, jj, none⟩ u).cell? ⟨g12, 6, none⟩ = some (.int .i64 X.c.r.k) ∧ (W.setCell ⟨w.heap.size + 1, jj, none⟩ u).cell? ⟨g12, 7, none⟩ = some (.int .i64 X.c.r.h) ∧ (W.setCell ⟨w.heap.size + 1, jj, none⟩ u).cell? ⟨g12, 8, none⟩ = some (.slice X.E X.c.r.a.length X.l) ∧ (W.setCell ⟨w.heap.size + 1, jj, none⟩ u).cell? ⟨gv, 0, none⟩ = some (.slice (some ad) fs.length cf) ∧ (W.setCell ⟨w.heap.size + 1, jj, none⟩ u).cell? ⟨(ad.add (j * 13)).block, (ad.add (j * 13)).off + 7, none⟩ = some (.slice fE' fs[j].phi.length fe'))) := Lib.hid (fun W jj u h => ⟨set_away h.1 hne12, set_away h.2.1 hne12, set_away h.2.2.1 hne12, set_away h.2.2.2.1 hneg1, set_away h.2.2.2.2 hnead⟩)
          clear x6 x7 x8 v0 c7 hne12 hnead hSad2
          refine wp_region_held_drew (S := fun W => (W.cell? ⟨g12, 6, none⟩ = some (.int .i64 X.c.r.k) ∧ W.cell? ⟨g12, 7, none⟩ = some (.int .i64 X.c.r.h) ∧ W.cell? ⟨g12, 8, none⟩ = some (.slice X.E X.c.r.a.length X.l) ∧ W.cell? ⟨gv, 0, none⟩ = some (.slice (some ad) fs.length cf) ∧ W.cell? ⟨(ad.add (j * 13)).block, (ad.add (j * 13)).off + 7, none⟩ = some (.slice fE' fs[j].phi.length fe'))) (by kernel_rfl) (HCF.out _ (Below.refl _ _).drew) (fun hHeld => ?_)
          refine wpAnyH_take (i := 0) (v := ?_) rfl (by kernel_rfl) (by kernel_rfl) (by kernel_rfl) (fun _ _ _ h => h) (Or.inl ⟨by rfl, ?_⟩) (by assumption) ?_
          rotate_left
          · intro w hSw
            obtain ⟨s6, s7, s8, s0, s1⟩ := hSw
            go_simp
            try with_reducible rfl
          (try simp only [Act.put, List.getElem_toArray, List.getElem_cons_succ, List.getElem_cons_zero, List.setIfInBounds_toArray, List.set_cons_zero, List.set_cons_succ])
          refine wpAnyH_take (i := 1) (v := ?_) rfl (by kernel_rfl) (by kernel_rfl) (by kernel_rfl) (fun _ _ _ h => h) (Or.inl ⟨by rfl, ?_⟩) (by assumption) ?_
          rotate_left
          · intro w hSw
            obtain ⟨s6, s7, s8, s0, s1⟩ := hSw
            go_simp
            try with_reducible rfl
          (try simp only [Act.put, List.getElem_toArray, List.getElem_cons_succ, List.getElem_cons_zero, List.setIfInBounds_toArray, List.set_cons_zero, List.set_cons_succ])
          refine wpAnyH_take (i := 2) (v := ?_) rfl (by kernel_rfl) (by kernel_rfl) (by kernel_rfl) (fun _ _ _ h => h) (Or.inl ⟨by rfl, ?_⟩) (by assumption) ?_
          rotate_left
          · intro w hSw
            obtain ⟨s6, s7, s8, s0, s1⟩ := hSw
            go_simp
            try with_reducible rfl
          (try simp only [Act.put, List.getElem_toArray, List.getElem_cons_succ, List.getElem_cons_zero, List.setIfInBounds_toArray, List.set_cons_zero, List.set_cons_succ])
          refine wpAnyH_take (i := 3) (v := ?_) rfl (by kernel_rfl) (by kernel_rfl) (by kernel_rfl) (fun _ _ _ h => h) (Or.inl ⟨by rfl, ?_⟩) (by assumption) ?_
          rotate_left
          · intro w hSw
            obtain ⟨s6, s7, s8, s0, s1⟩ := hSw
            go_simp
            try with_reducible rfl
          (try simp only [Act.put, List.getElem_toArray, List.getElem_cons_succ, List.getElem_cons_zero, List.setIfInBounds_toArray, List.set_cons_zero, List.set_cons_succ])
          refine wpAnyH_take (i := 4) (v := ?_) rfl (by kernel_rfl) (by kernel_rfl) (by kernel_rfl) (fun _ _ _ h => h) (Or.inl ⟨by rfl, ?_⟩) (by assumption) ?_
          rotate_left
          · intro w hSw
            obtain ⟨s6, s7, s8, s0, s1⟩ := hSw
            go_simp
            try with_reducible rfl
          (try simp only [Act.put, List.getElem_toArray, List.getElem_cons_succ, List.getElem_cons_zero, List.setIfInBounds_toArray, List.set_cons_zero, List.set_cons_succ])
          refine wpAnyH_take (i := 5) (v := ?_) rfl (by kernel_rfl) (by kernel_rfl) (by kernel_rfl) (fun _ _ _ h => h) (Or.inl ⟨by rfl, ?_⟩) (by assumption) ?_
          rotate_left
          · intro w hSw
            obtain ⟨s6, s7, s8, s0, s1⟩ := hSw
            go_simp
            try with_reducible rfl
          (try simp only [Act.put, List.getElem_toArray, List.getElem_cons_succ, List.getElem_cons_zero, List.setIfInBounds_toArray, List.set_cons_zero, List.set_cons_succ])
          refine wpAnyH_take (i := 6) (v := ?_) rfl (by kernel_rfl) (by kernel_rfl) (by kernel_rfl) (fun _ _ _ h => h) (Or.inl ⟨by rfl, ?_⟩) (by assumption) ?_
          rotate_left
          · intro w hSw
            obtain ⟨s6, s7, s8, s0, s1⟩ := hSw
            go_simp
            try with_reducible rfl
          (try simp only [Act.put, List.getElem_toArray, List.getElem_cons_succ, List.getElem_cons_zero, List.setIfInBounds_toArray, List.set_cons_zero, List.set_cons_succ])
          refine wpAnyH_take (i := 7) (v := ?_) rfl (by kernel_rfl) (by kernel_rfl) (by kernel_rfl) (fun _ _ _ h => h) (Or.inl ⟨by rfl, ?_⟩) (by assumption) ?_
          rotate_left
          · intro w hSw
            obtain ⟨s6, s7, s8, s0, s1⟩ := hSw
            go_simp
            try with_reducible rfl
          (try simp only [Act.put, List.getElem_toArray, List.getElem_cons_succ, List.getElem_cons_zero, List.setIfInBounds_toArray, List.set_cons_zero, List.set_cons_succ])
          refine wpAnyH_take (i := 8) (v := ?_) rfl (by kernel_rfl) (by kernel_rfl) (by kernel_rfl) (fun _ _ _ h => h) (Or.inl ⟨by rfl, ?_⟩) (by assumption) ?_
          rotate_left
          · intro w hSw
            obtain ⟨s6, s7, s8, s0, s1⟩ := hSw
            go_simp
            try with_reducible rfl
          (try simp only [Act.put, List.getElem_toArray, List.getElem_cons_succ, List.getElem_cons_zero, List.setIfInBounds_toArray, List.set_cons_zero, List.set_cons_succ])
          refine wpAnyH_take (i := 9) (v := ?_) rfl (by kernel_rfl) (by kernel_rfl) (by kernel_rfl) (fun _ _ _ h => h) (Or.inl ⟨by rfl, ?_⟩) (by assumption) ?_
          rotate_left
          · intro w hSw
            obtain ⟨s6, s7, s8, s0, s1⟩ := hSw
            go_simp
            try with_reducible rfl
          (try simp only [Act.put, List.getElem_toArray, List.getElem_cons_succ, List.getElem_cons_zero, List.setIfInBounds_toArray, List.set_cons_zero, List.set_cons_succ])
          refine wpAnyH_take (i := 10) (v := ?_) rfl (by kernel_rfl) (by kernel_rfl) (by kernel_rfl) (fun _ _ _ h => h) (Or.inl ⟨by rfl, ?_⟩) (by assumption) ?_
          rotate_left
          · intro w hSw
            obtain ⟨s6, s7, s8, s0, s1⟩ := hSw
            go_simp
            try with_reducible rfl
          (try simp only [Act.put, List.getElem_toArray, List.getElem_cons_succ, List.getElem_cons_zero, List.setIfInBounds_toArray, List.set_cons_zero, List.set_cons_succ])
          refine wpAnyH_take (i := 11) (v := ?_) rfl (by kernel_rfl) (by kernel_rfl) (by kernel_rfl) (fun _ _ _ h => h) (Or.inl ⟨by rfl, ?_⟩) (by assumption) ?_
          rotate_left
          · intro w hSw
            obtain ⟨s6, s7, s8, s0, s1⟩ := hSw
            go_simp
            try with_reducible rfl
          (try simp only [Act.put, List.getElem_toArray, List.getElem_cons_succ, List.getElem_cons_zero, List.setIfInBounds_toArray, List.set_cons_zero, List.set_cons_succ])
          refine wpAnyH_take (i := 12) (v := ?_) rfl (by kernel_rfl) (by kernel_rfl) (by kernel_rfl) (fun _ _ _ h => h) (Or.inl ⟨by rfl, ?_⟩) (by assumption) ?_
          rotate_left
          · intro w hSw
            obtain ⟨s6, s7, s8, s0, s1⟩ := hSw
            go_simp
            try with_reducible rfl
          (try simp only [Act.put, List.getElem_toArray, List.getElem_cons_succ, List.getElem_cons_zero, List.setIfInBounds_toArray, List.set_cons_zero, List.set_cons_succ])
          refine wpAnyH_ready (rs := [13]) (by kernel_rfl) (by simp) (AllReadyH.cons rfl (fun K hK => ?_) AllReadyH.nil)
          rw [if_pos (by rfl)]
          go_simp
          go_at_call 25
          refine (HFI.out _ (Below.refl _ _).drew).mono ?_
          clear HFI
          rintro e w3 hq
          obtain ⟨hb3, k3, h3, B3, n3, c3, x3, rfl, hrc2⟩ := hq.open
          clear hq
          have hx3 := bl_undrew hb3
          refine hK.out _ _ (HCF.out _ hx3) (fun hHeld => ?_)
          clear hK K
          (try simp only [Act.put, List.getElem_toArray, List.getElem_cons_succ, List.getElem_cons_zero, List.setIfInBounds_toArray, List.set_cons_zero, List.set_cons_succ])
          refine wpAnyH_take (i := 14) (v := ?_) rfl (by kernel_rfl) (by kernel_rfl) (by kernel_rfl) (fun _ _ _ h => h) (Or.inl ⟨by rfl, ?_⟩) (by assumption) ?_
          rotate_left
          · intro w hSw
            obtain ⟨s6, s7, s8, s0, s1⟩ := hSw
            go_simp
            try with_reducible rfl
          (try simp only [Act.put, List.getElem_toArray, List.getElem_cons_succ, List.getElem_cons_zero, List.setIfInBounds_toArray, List.set_cons_zero, List.set_cons_succ])
          refine wpAnyH_take (i := 15) (v := ?_) rfl (by kernel_rfl) (by kernel_rfl) (by kernel_rfl) (fun _ _ _ h => h) (Or.inl ⟨by rfl, ?_⟩) (by assumption) ?_
          rotate_left
          · intro w hSw
            obtain ⟨s6, s7, s8, s0, s1⟩ := hSw
            go_simp
            try with_reducible rfl
          (try simp only [Act.put, List.getElem_toArray, List.getElem_cons_succ, List.getElem_cons_zero, List.setIfInBounds_toArray, List.set_cons_zero, List.set_cons_succ])
          have z := HB10'.out.mov hx3
          have z0 := z.cell 0
          have z1 := z.cell 1
          have z2 := z.cell 2
          have y0 := z.frozen 0
          have y1 := z.frozen 1
          have y2 := z.frozen 2
          have lz := z.lt
          have HZ := Lib.hid z
          clear z
          refine wpAnyH_ready (rs := [16]) (by kernel_rfl) (by simp) (AllReadyH.cons rfl (fun K hK => ?_) AllReadyH.nil)
          rw [if_pos (by rfl)]
          go_simp
          refine hK.out _ _ (HCG.out _ _ _ (HCG.out _ _ _ (HCG.out _ _ _ (HCF.out _ hx3)))) (fun hHeld => ?_)
          clear hK K
          (try simp only [Act.put, List.getElem_toArray, List.getElem_cons_succ, List.getElem_cons_zero, List.setIfInBounds_toArray, List.set_cons_zero, List.set_cons_succ])
          refine wpAnyH_take (i := 17) (v := ?_) rfl (by kernel_rfl) (by kernel_rfl) (by kernel_rfl) (fun _ _ _ h => h) (Or.inl ⟨by rfl, ?_⟩) (by assumption) ?_
          rotate_left
          · intro w hSw
            obtain ⟨s6, s7, s8, s0, s1⟩ := hSw
            go_simp
            try with_reducible rfl
          (try simp only [Act.put, List.getElem_toArray, List.getElem_cons_succ, List.getElem_cons_zero, List.setIfInBounds_toArray, List.set_cons_zero, List.set_cons_succ])
          refine wpAnyH_done (by kernel_rfl) ?_ _
          simp only [Exit.then, Act.put, List.getElem_toArray, List.getElem_cons_succ, List.getElem_cons_zero, List.setIfInBounds_toArray, List.set_cons_zero, List.set_cons_succ]
          go_wp2_with fail
          refine bodyPost_ret (res_tm rfl _ _ _ _ _ _ rfl (HZ.out.set3 (.int .i64 k3) (.int .i64 h3) (.slice B3 n3 c3))) rfl ?_
          rw [HRV2.out]
          refine RetEv.close (gb_new3 (gb_then HGW2.out hx3) (Nat.le_succ _) _ _ _) ?_ ((hrc2.set3 HSG.out.1 _ _ _).less (fun q h => HSG.out.2 q h))
          exact (((HBV2.out.mov hx3).far (p := ⟨w.heap.size + 1, 0, none⟩) hneg1 _).far (p := ⟨w.heap.size + 1, 1, none⟩) hneg1 _).far (p := ⟨w.heap.size + 1, 2, none⟩) hneg1 _
end Go.Proofs.YtbmmdfehhhgkcaaGreat
