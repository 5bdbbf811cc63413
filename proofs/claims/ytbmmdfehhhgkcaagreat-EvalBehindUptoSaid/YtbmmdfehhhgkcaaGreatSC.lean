/- Substitution, step by step: how great what it comes to can be. -/
import Derived.Test.YtbmmdfehhhgkcaaGreatSB
import Derived.Test.YtbmmdfehhhgkcaaGreatF3
namespace Go.Proofs.YtbmmdfehhhgkcaaGreat
open Go.RowKit Go.Shelf
set_option linter.unusedVariables false
set_option linter.unusedSimpArgs false

mutual
/-- Each node may be, and no head is greater. -/
def hB (b : Int) : Tm → Prop
  | ⟨k, h, a⟩ => mayN k h a.length = true ∧ h ≤ b ∧ hBL b a
def hBL (b : Int) : List Tm → Prop
  | [] => True
  | t :: l => hB b t ∧ hBL b l
end
mutual
theorem hB.mono {b c : Int} (hbc : b ≤ c) : ∀ {t : Tm}, hB b t → hB c t
  | ⟨k, h, a⟩, q => by rw [hB] at q ⊢; exact ⟨q.1, by omega, hBL.mono hbc q.2.2⟩
theorem hBL.mono {b c : Int} (hbc : b ≤ c) : ∀ {l : List Tm}, hBL b l → hBL c l
  | [], _ => trivial
  | t :: l, q => by rw [hBL] at q ⊢; exact ⟨hB.mono hbc q.1, hBL.mono hbc q.2⟩
end
theorem hBL_iff {b : Int} : ∀ {l : List Tm}, hBL b l ↔ ∀ t ∈ l, hB b t
  | [] => by simp [hBL]
  | t :: l => by rw [hBL, hBL_iff]; simp
theorem mayN_head {k h : Int} {n : Nat} (q : mayN k h n = true) : 0 ≤ h := by
  unfold mayN at q
  split at q
  · simp at q; omega
  · split at q
    · simp at q; omega
    · split at q
      · simp at q; omega
      · simp at q; omega
theorem hB.head {b : Int} {t : Tm} (q : hB b t) : 0 ≤ t.h ∧ t.h ≤ b := by
  obtain ⟨k, h, a⟩ := t
  rw [hB] at q
  exact ⟨mayN_head q.1, q.2.1⟩
theorem hB.lam {b h : Int} {a : List Tm} (q : hB b ⟨3, h, a⟩) : a.length = 1 := by
  rw [hB] at q
  have := q.1
  unfold mayN at this
  simp at this
  exact this.2
theorem mayN_var {h : Int} {n : Nat} (q : 0 ≤ h) : mayN 4 h n = true := by unfold mayN; simp [q]

mutual
theorem up_hB {b : Int} (hb : b ≤ 4611686018427387904) : ∀ {t : Tm} {n : Int}, hB b t → hB (b + 1) (upW 1 0 t n)
  | ⟨k, h, a⟩, n, q => by
    rw [hB] at q
    have h0 := mayN_head q.1
    obtain ⟨q1, q2⟩ := upL_hB hb (x := isB k) (n := n) q.2.2
    rw [upW, hB, q2]
    by_cases hk : k = 4
    · subst hk
      rw [if_pos rfl]
      have hw : wrap64 (h + 1) = h + 1 := by unfold wrap64; omega
      unfold upH
      rw [hw]
      split
      · exact ⟨mayN_var (by omega), by omega, q1⟩
      · exact ⟨mayN_var (by omega), by omega, q1⟩
    · rw [if_neg hk]
      exact ⟨q.1, by omega, q1⟩
theorem upL_hB {b : Int} (hb : b ≤ 4611686018427387904) : ∀ {x : Bool} {l : List Tm} {n : Int}, hBL b l → hBL (b + 1) (upL 1 0 x l n) ∧ (upL 1 0 x l n).length = l.length
  | x, [], n, q => by rw [upL]; exact ⟨trivial, rfl⟩
  | x, t :: l, n, q => by
    rw [hBL] at q
    obtain ⟨q1, q2⟩ := upL_hB hb (x := x) (n := n) q.2
    rw [upL, hBL, List.length_cons, List.length_cons, q2]
    exact ⟨⟨up_hB hb q.1, q1⟩, rfl⟩
end
mutual
theorem up_cnt (b fr : Int) : ∀ (t : Tm) (n : Int), cnt (upW b fr t n) = cnt t
  | ⟨k, h, a⟩, n => by rw [upW, cnt, cnt, upL_cnt b fr (isB k) a n]
theorem upL_cnt (b fr : Int) : ∀ (x : Bool) (l : List Tm) (n : Int), cntL (upL b fr x l n) = cntL l
  | x, [], n => by rw [upL]
  | x, t :: l, n => by rw [upL, cntL, cntL, up_cnt b fr t, upL_cnt b fr x l n]
end
theorem upT_hB {b : Int} (hb : b ≤ 4611686018427387904) {t : Tm} (q : hB b t) : hB (b + 1) (upT t 1 0) := by
  unfold upT
  split
  · exact up_hB hb q
  · exact q.mono (by omega)
theorem upT_cnt (t : Tm) (b fr : Int) : cnt (upT t b fr) = cnt t := by
  unfold upT
  split
  · exact up_cnt b fr t 0
  · rfl
theorem cntL_app (a b : List Tm) : cntL (a ++ b) = cntL a + cntL b := by
  induction a with
  | nil => simp [cntL]
  | cons t l ih => rw [List.cons_append, cntL, cntL, ih, Nat.add_assoc]
theorem may_cnt {t : Tm} (hm : mayB t = true) (hc : cnt t ≤ 4611686018427387904) : cnt t ≤ 4000 := by
  rw [mayB] at hm
  simp only [Bool.and_eq_true, decide_eq_true_eq] at hm
  have h1 := hm.2.1
  rw [sizeW, nodesW_len] at h1
  unfold wrap64 at h1
  omega

/-- The heads so far. -/
def bndG (B : Int) (n : Nat) : Int := B + 2097152 * (n : Int)
structure FitSG (B : Int) (k n : Nat) (x : Su) : Prop where
  len : x.l.length + k ≤ 200 + n
  s0 : 0 ≤ x.s
  s1 : x.s + (k : Int) ≤ 1048576 + (n : Int)
  each : ∀ e ∈ x.l, hB (bndG B n - (k : Int)) e ∧ cnt e ≤ 4000
theorem FitSG.next {B : Int} {n : Nat} {x : Su} (h : FitSG B 0 n x) : FitSG B 1 (n + 1) x :=
  ⟨by have := h.len; omega, h.s0, by have := h.s1; omega, fun e he => ⟨(h.each e he).1.mono (by unfold bndG; omega), (h.each e he).2⟩⟩
theorem FitSG.less {B : Int} {n m : Nat} {x : Su} (h : FitSG B 1 n x) (hm : n ≤ m) : FitSG B 1 m x :=
  ⟨by have := h.len; omega, h.s0, by have := h.s1; omega, fun e he => ⟨(h.each e he).1.mono (by unfold bndG; omega), (h.each e he).2⟩⟩
theorem FitSG.plain {B : Int} {n : Nat} {x : Su} (h : FitSG B 1 n x) : FitSG B 0 n x :=
  ⟨by have := h.len; omega, h.s0, by have := h.s1; omega, fun e he => ⟨(h.each e he).1.mono (by omega), (h.each e he).2⟩⟩
theorem bnd_le {B : Int} (hB0 : 0 ≤ B ∧ B ≤ 1152921504606846976) {n : Nat} (hn : n ≤ 40000) : bndG B n ≤ 2305843009213693952 := by unfold bndG; omega
theorem FitSG.under {B : Int} (hB0 : 0 ≤ B ∧ B ≤ 1152921504606846976) {n : Nat} {x : Su} (hn : n ≤ 40000) (h : FitSG B 1 n x) : FitSG B 0 n (underS x) := by
  have hb := bnd_le hB0 hn
  have hs0 := h.s0
  have hs1 := h.s1
  have hw : wrap64 (x.s + 1) = x.s + 1 := by unfold wrap64; omega
  refine ⟨?_, ?_, ?_, fun e he => ?_⟩
  · have := h.len
    simp [underS]
    omega
  · show 0 ≤ wrap64 (x.s + 1)
    omega
  · show wrap64 (x.s + 1) + _ ≤ _
    rw [hw]
    omega
  · simp only [underS, List.mem_append, List.mem_map, List.mem_singleton] at he
    rcases he with ⟨d, hd, rfl⟩ | rfl
    · obtain ⟨h1, h2⟩ := h.each d hd
      refine ⟨(upT_hB (by omega) h1).mono (by omega), ?_⟩
      rw [upT_cnt]
      exact h2
    · refine ⟨?_, by simp [cnt, cntL]⟩
      rw [hB]
      exact ⟨mayN_var (by omega), by unfold bndG; omega, trivial⟩
theorem FitSG.at {B : Int} (hB0 : 0 ≤ B ∧ B ≤ 1152921504606846976) {n : Nat} {x : Su} (b : Bool) (hn : n ≤ 40000) (h : FitSG B 1 n x) : FitSG B 0 n (if b = true then underS x else x) := by
  cases b
  · exact h.plain
  · exact h.under hB0 hn
theorem FitSG.of {B : Int} (hB0 : 0 ≤ B ∧ B ≤ 1152921504606846976) {n : Nat} {x : Su} (h : FitSG B 0 n x) {i : Int} (h0 : 0 ≤ i) (h1 : i ≤ bndG B n) (hn : n ≤ 40000) : hB (bndG B (n + 1)) (ofS x i) ∧ cnt (ofS x i) ≤ 4000 := by
  have hb := bnd_le hB0 hn
  have hs0 := h.s0
  have hs1 := h.s1
  have hl := h.len
  unfold ofS
  split
  · cases hg : x.l[((x.l.length : Int) - 1 - i).toNat]? with
    | none =>
      rw [Option.getD_none, hB]
      exact ⟨⟨mayN_var (by omega), by unfold bndG; omega, trivial⟩, by simp [cnt, cntL]⟩
    | some e =>
      obtain ⟨q1, q2⟩ := h.each e (List.mem_of_getElem? hg)
      exact ⟨q1.mono (by unfold bndG; omega), q2⟩
  · rename_i hlt
    have e1 : wrap64 (i - (x.l.length : Int)) = i - (x.l.length : Int) := by unfold wrap64; omega
    have e2 : wrap64 (i - (x.l.length : Int) + x.s) = i - (x.l.length : Int) + x.s := by unfold wrap64; omega
    rw [e1, e2, hB]
    refine ⟨⟨mayN_var (by omega), by unfold bndG at *; omega, trivial⟩, by simp [cnt, cntL]⟩

def FitG (B : Int) : Cfg → Prop
  | .app n t x => n ≤ 40000 ∧ hB (bndG B n) t ∧ FitSG B 0 n x
  | .apps _ n l x => n ≤ 40000 ∧ hBL (bndG B n) l ∧ FitSG B 1 n x
  | .spi n t l => n ≤ 40000 ∧ hB (bndG B n) t ∧ hBL (bndG B n) l ∧ cnt t + cntL l ≤ 1099511627776 + 4001 * n
def FitRG (B : Int) : Cfg → Res → Prop
  | .app n _ _, .one u m => n < m ∧ m ≤ 40000 ∧ hB (bndG B m) u ∧ cnt u ≤ 4001 * (m - n)
  | .apps _ n l _, .many us m => n ≤ m ∧ m ≤ 40000 ∧ hBL (bndG B m) us ∧ cntL us ≤ 4001 * (m - n) ∧ us.length = l.length
  | .spi n t l, .one u m => n ≤ m ∧ m ≤ 40000 ∧ hB (bndG B m) u ∧ cnt u ≤ cnt t + cntL l + 4001 * (m - n)
  | _, _ => True
theorem bnd_mono {B : Int} {n m : Nat} (h : n ≤ m) : bndG B n ≤ bndG B m := by unfold bndG; omega

theorem FitG.args {B : Int} {n : Nat} {k h : Int} {a : List Tm} {x : Su} {b : Bool} (hf : FitG B (.app n ⟨k, h, a⟩ x)) (hn : n + 1 ≤ 40000) : FitG B (.apps b (n + 1) a x) := by
  obtain ⟨h1, h2, h3⟩ := hf
  rw [hB] at h2
  exact ⟨hn, h2.2.2.mono (bnd_mono (by omega)), h3.next⟩
theorem FitG.first {B : Int} (hB0 : 0 ≤ B ∧ B ≤ 1152921504606846976) {b : Bool} {n : Nat} {t : Tm} {l : List Tm} {x : Su} (hf : FitG B (.apps b n (t :: l) x)) (c : Bool) : FitG B (.app n t (if c = true then underS x else x)) := by
  obtain ⟨h1, h2, h3⟩ := hf
  rw [hBL] at h2
  exact ⟨h1, h2.1, h3.at hB0 c h1⟩
theorem FitG.rest {B : Int} {b : Bool} {n m : Nat} {t : Tm} {l : List Tm} {x : Su} (hf : FitG B (.apps b n (t :: l) x)) (hm : n ≤ m) (hm2 : m ≤ 40000) : FitG B (.apps b m l x) := by
  obtain ⟨h1, h2, h3⟩ := hf
  rw [hBL] at h2
  exact ⟨hm2, h2.2.mono (bnd_mono hm), h3.less hm⟩
theorem FitG.spine {B : Int} (hB0 : 0 ≤ B ∧ B ≤ 1152921504606846976) {n m : Nat} {h : Int} {a l : List Tm} {x : Su} (hf : FitG B (.app n ⟨4, h, a⟩ x)) (hm : n + 1 ≤ m) (hm2 : m ≤ 40000) (hl : hBL (bndG B m) l) (hc : cntL l ≤ 4001 * (m - (n + 1))) : FitG B (.spi m (ofS x h) l) := by
  obtain ⟨h1, h2, h3⟩ := hf
  rw [hB] at h2
  obtain ⟨q1, q2⟩ := h3.of hB0 (mayN_head h2.1) h2.2.1 h1
  exact ⟨hm2, q1.mono (bnd_mono hm), hl, by omega⟩
theorem FitG.body {B : Int} {n : Nat} {h : Int} {b : Tm} {p : List Tm} {a : Tm} {l : List Tm} (hf : FitG B (.spi n ⟨3, h, b :: p⟩ (a :: l))) (hm : mayB a = true) : FitG B (.app n b ⟨[a], 0⟩) := by
  obtain ⟨h1, h2, h3, h4⟩ := hf
  rw [hB, hBL] at h2
  rw [hBL] at h3
  rw [cntL] at h4
  refine ⟨h1, h2.2.2.1, ?_, Int.le_refl _, ?_, fun e he => ?_⟩
  · simp; omega
  · simp; omega
  · simp at he
    subst he
    exact ⟨h3.1.mono (by simp), may_cnt hm (by omega)⟩
theorem FitG.tail {B : Int} {n m : Nat} {h : Int} {p : List Tm} {a u : Tm} {l : List Tm} (hf : FitG B (.spi n ⟨3, h, p⟩ (a :: l))) (hm : n ≤ m) (hm2 : m ≤ 40000) (hu : hB (bndG B m) u) (hc : cnt u ≤ 4001 * (m - n)) : FitG B (.spi m u l) := by
  obtain ⟨h1, h2, h3, h4⟩ := hf
  rw [hBL] at h3
  rw [cntL, cnt] at h4
  exact ⟨hm2, hu, h3.2.mono (bnd_mono hm), by omega⟩

theorem Ev.fitG {B : Int} (hB0 : 0 ≤ B ∧ B ≤ 1152921504606846976) {c : Cfg} {r : Res} (h : Ev c r) : FitG B c → FitRG B c r := by
  induction h with
  | lim h => exact fun _ => trivial
  | argsE hn h1 ih => exact fun _ => trivial
  | node hn h1 hk ih =>
    intro hf
    obtain ⟨q1, q2, q3, q4, q5⟩ := ih (hf.args hn)
    obtain ⟨_, h2, _⟩ := hf
    rw [hB] at h2
    refine ⟨by omega, q2, ?_, ?_⟩
    · rw [hB, q5]
      exact ⟨h2.1, Int.le_trans h2.2.1 (bnd_mono (by omega)), q3⟩
    · rw [cnt]
      omega
  | var hn h1 h2 ih1 ih2 =>
    rename_i n h a x l m r
    intro hf
    obtain ⟨q1, q2, q3, q4, q5⟩ := ih1 (hf.args hn)
    have hs := hf.spine hB0 q1 q2 q3 q4
    have h3 := ih2 hs
    have hcn : cnt (ofS x h) ≤ 4000 := by
      obtain ⟨h1', h2', h3'⟩ := hf
      rw [hB] at h2'
      exact (h3'.of hB0 (mayN_head h2'.1) h2'.2.1 h1').2
    cases r with
    | err e => trivial
    | many _ _ => trivial
    | one u m' =>
      obtain ⟨p1, p2, p3, p4⟩ := h3
      exact ⟨by omega, p2, p3, by omega⟩
  | nil => exact fun hf => ⟨Nat.le_refl _, hf.1, trivial, by simp [cntL], rfl⟩
  | consE h1 ih => exact fun _ => trivial
  | consF h1 h2 ih1 ih2 => exact fun _ => trivial
  | cons h1 h2 ih1 ih2 =>
    intro hf
    obtain ⟨p1, p2, p3, p4⟩ := ih1 (hf.first hB0 _)
    obtain ⟨q1, q2, q3, q4, q5⟩ := ih2 (hf.rest (Nat.le_of_lt p1) p2)
    refine ⟨by omega, q2, ?_, ?_, by simp [q5]⟩
    · rw [hBL]
      exact ⟨p3.mono (bnd_mono q1), q3⟩
    · rw [cntL]
      omega
  | done => exact fun hf => ⟨Nat.le_refl _, hf.1, hf.2.1, by omega⟩
  | lamL hm => exact fun _ => trivial
  | lamE hm h1 ih => exact fun _ => trivial
  | lam hm h1 h2 ih1 ih2 =>
    rename_i n h b p a l u m r
    intro hf
    obtain ⟨p1, p2, p3, p4⟩ := ih1 (hf.body hm)
    have h3 := ih2 (hf.tail (Nat.le_of_lt p1) p2 p3 p4)
    cases r with
    | err e => trivial
    | many _ _ => trivial
    | one v m' =>
      obtain ⟨q1, q2, q3, q4⟩ := h3
      refine ⟨by omega, q2, q3, ?_⟩
      rw [cntL]
      omega
  | head hk =>
    rename_i n t a l
    intro hf
    obtain ⟨h1, h2, h3, h4⟩ := hf
    obtain ⟨k, h, p⟩ := t
    rw [hB] at h2
    refine ⟨Nat.le_refl _, h1, ?_, ?_⟩
    · rw [hB]
      refine ⟨?_, h2.2.1, hBL_iff.2 fun e he => ?_⟩
      · have h0 := mayN_head h2.1
        dsimp only at hk ⊢
        unfold mayN
        rcases hk with rfl | rfl | rfl <;> simp [h0]
      · rcases List.mem_append.1 he with he | he
        · exact hBL_iff.1 h2.2.2 e he
        · exact hBL_iff.1 h3 e he
    · show cnt ⟨k, h, p ++ a :: l⟩ ≤ cnt ⟨k, h, p⟩ + cntL (a :: l) + _
      rw [cnt, cnt, cntL_app]
      omega
  | type hk => exact fun _ => trivial

/-- At the base that the walks take. -/
def baseB : Int := 1152921504606846976
abbrev bnd (n : Nat) : Int := bndG baseB n
abbrev FitS (k n : Nat) (x : Su) : Prop := FitSG baseB k n x
abbrev Fit (c : Cfg) : Prop := FitG baseB c
abbrev FitR (c : Cfg) (r : Res) : Prop := FitRG baseB c r
theorem base_le : 0 ≤ baseB ∧ baseB ≤ 1152921504606846976 := by decide
theorem Fit.first {b : Bool} {n : Nat} {t : Tm} {l : List Tm} {x : Su} (hf : Fit (.apps b n (t :: l) x)) (c : Bool) : Fit (.app n t (if c = true then underS x else x)) := FitG.first base_le hf c
theorem Fit.spine {n m : Nat} {h : Int} {a l : List Tm} {x : Su} (hf : Fit (.app n ⟨4, h, a⟩ x)) (hm : n + 1 ≤ m) (hm2 : m ≤ 40000) (hl : hBL (bnd m) l) (hc : cntL l ≤ 4001 * (m - (n + 1))) : Fit (.spi m (ofS x h) l) := FitG.spine base_le hf hm hm2 hl hc
theorem Ev.fit {c : Cfg} {r : Res} (h : Ev c r) (hf : Fit c) : FitR c r := h.fitG base_le hf
end Go.Proofs.YtbmmdfehhhgkcaaGreat
