/- Filling: what it comes to, as a function; how great its terms can be. The contract of meta.each at terms. -/
import Derived.Test.YtbmmdfehhhgkcaaGreatSC
import Derived.Test.YtbmmdfehhhgkcaaGreatU9
namespace Go.Proofs.YtbmmdfehhhgkcaaGreat
open Go.RowKit Go.Shelf
set_option linter.unusedVariables false
set_option linter.unusedSimpArgs false

theorem Ev.err_ne {c : Cfg} {r : Res} (h : Ev c r) : ∀ e, r = .err e → e ≠ 0 := by
  induction h with
  | lim h => intro e q; cases q; decide
  | argsE hn h1 ih => intro e q; cases q; exact ih _ rfl
  | node hn h1 hk ih => intro e q; cases q
  | var hn h1 h2 ih1 ih2 => intro e q; exact ih2 _ q
  | nil => intro e q; cases q
  | consE h1 ih => intro e q; cases q; exact ih _ rfl
  | consF h1 h2 ih1 ih2 => intro e q; cases q; exact ih2 _ rfl
  | cons h1 h2 ih1 ih2 => intro e q; cases q
  | done => intro e q; cases q
  | lamL hm => intro e q; cases q; decide
  | lamE hm h1 ih => intro e q; cases q; exact ih _ rfl
  | lam hm h1 h2 ih1 ih2 => intro e q; exact ih2 _ q
  | head hk => intro e q; cases q
  | type hk => intro e q; cases q; decide

/-- What Apply comes to: a relation, which tells one thing alone. -/
inductive ApR (t : Tm) (x : Su) : Except Int Tm → Prop
  | bad (h : (mayB t && maySu x) = false) : ApR t x (.error 1)
  | ok {u : Tm} {m : Nat} (h : (mayB t && maySu x) = true) (h1 : Ev (.app 0 t x) (.one u m)) (h2 : mayB u = true) : ApR t x (.ok u)
  | err {e : Int} (h : (mayB t && maySu x) = true) (h1 : Ev (.app 0 t x) (.err e)) : ApR t x (.error e)
  | lim {u : Tm} {m : Nat} (h : (mayB t && maySu x) = true) (h1 : Ev (.app 0 t x) (.one u m)) (h2 : mayB u = false) : ApR t x (.error 4)
theorem ApR.one_only {t : Tm} {x : Su} {r s : Except Int Tm} (h : ApR t x r) (k : ApR t x s) : r = s := by
  cases h with
  | bad h => cases k with
    | bad _ => rfl
    | ok q _ _ => rw [h] at q; cases q
    | err q _ => rw [h] at q; cases q
    | lim q _ _ => rw [h] at q; cases q
  | ok h h1 h2 => cases k with
    | bad q => rw [h] at q; cases q
    | ok _ q1 q2 => have := h1.one_only q1; cases this; rfl
    | err _ q1 => have := h1.one_only q1; cases this
    | lim _ q1 q2 => have := h1.one_only q1; cases this; rw [h2] at q2; cases q2
  | err h h1 => cases k with
    | bad q => rw [h] at q; cases q
    | ok _ q1 q2 => have := h1.one_only q1; cases this
    | err _ q1 => have := h1.one_only q1; cases this; rfl
    | lim _ q1 q2 => have := h1.one_only q1; cases this
  | lim h h1 h2 => cases k with
    | bad q => rw [h] at q; cases q
    | ok _ q1 q2 => have := h1.one_only q1; cases this; rw [h2] at q2; cases q2
    | err _ q1 => have := h1.one_only q1; cases this
    | lim _ q1 q2 => rfl
theorem ApR.ne {t : Tm} {x : Su} {e : Int} (h : ApR t x (.error e)) : e ≠ 0 := by
  cases h with
  | bad _ => decide
  | err _ h1 => exact h1.err_ne _ rfl
  | lim _ _ _ => decide
open Classical in
/-- What Apply comes to. -/
noncomputable def apF (t : Tm) (x : Su) : Except Int Tm := if h : ∃ r, ApR t x r then h.choose else .error 1
theorem apF_of {t : Tm} {x : Su} {r : Except Int Tm} (h : ApR t x r) : apF t x = r := by
  have hh : ∃ r, ApR t x r := ⟨r, h⟩
  unfold apF
  rw [dif_pos hh]
  exact hh.choose_spec.one_only h
theorem apF_ne {t : Tm} {x : Su} {e : Int} (h : apF t x = .error e) : e ≠ 0 := by
  unfold apF at h
  split at h
  · rename_i hh
    have := hh.choose_spec
    rw [h] at this
    exact this.ne
  · cases h; decide
theorem apF_r {t : Tm} {x : Su} {u : Tm} (h : apF t x = .ok u) : ApR t x (.ok u) := by
  unfold apF at h
  split at h
  · rename_i hh
    rw [← h]
    exact hh.choose_spec
  · cases h

mutual
/-- A node whose metas are these. -/
noncomputable def fillF (th : List Tm) : Tm → Int → Except Int Tm
  | ⟨k, h, a⟩, n => match fillL th (isB k) a n with
    | .error e => .error e
    | .ok l => if k = 6 then (if (th.length : Int) ≤ h then .error 2 else if (l.any fun t => !mayB t) = true then .error 4 else apF ((th[h.toNat]?).getD ⟨0, 0, []⟩) ⟨l, n⟩) else .ok ⟨k, h, l⟩
noncomputable def fillL (th : List Tm) : Bool → List Tm → Int → Except Int (List Tm)
  | _, [], _ => .ok []
  | b, t :: l, n => match fillF th t (lastN b l n) with
    | .error e => .error e
    | .ok u => match fillL th b l n with
      | .error e => .error e
      | .ok us => .ok (u :: us)
end
mutual
theorem fillF_ne {th : List Tm} : ∀ {t : Tm} {n : Int} {e : Int}, fillF th t n = .error e → e ≠ 0
  | ⟨k, h, a⟩, n, e, q => by
    rw [fillF] at q
    split at q
    · rename_i x hx
      cases q
      exact fillL_ne hx
    · split at q
      · split at q
        · cases q; decide
        · split at q
          · cases q; decide
          · exact apF_ne q
      · cases q
theorem fillL_ne {th : List Tm} : ∀ {b : Bool} {l : List Tm} {n : Int} {e : Int}, fillL th b l n = .error e → e ≠ 0
  | b, [], n, e, q => by rw [fillL] at q; cases q
  | b, t :: l, n, e, q => by
    rw [fillL] at q
    split at q
    · rename_i x hx
      cases q
      exact fillF_ne hx
    · split at q
      · rename_i x hx
        cases q
        exact fillL_ne hx
      · cases q
end
/-- Fill. -/
noncomputable def FillV (th : List Tm) (t : Tm) (n : Int) : Except Int Tm :=
  if (mayB t && (!decide (n < 0) && (!decide (1000 < n) && (!decide (200 < (th.length : Int)) && !(th.any fun t => !mayB t))))) = true then
    match fillF th t n with
    | .error e => .error e
    | .ok u => if mayB u = true then .ok u else .error 4
  else .error 1

/-- What comes back: a term and no error, or the nought and one. -/
def RetQ (S : Nat → Prop) (r : Except Int Tm) (w : World) (e : Ending) (w' : World) : Prop :=
  Below w.heap.size w w' ∧ ((∃ x, r = .error x ∧ x ≠ 0 ∧ e = .returned (.tuple #[zeroTm, .int .i64 x])) ∨
    ∃ u B c, r = .ok u ∧ e = .returned (.tuple #[.agg #[.int .i64 u.k, .int .i64 u.h, .slice B u.a.length c], .int .i64 0]) ∧ u.a.length ≤ c ∧ Reads S w' B u.a)
theorem RetAp.toQ {S : Nat → Prop} {t : Tm} {x : Su} {w : World} {e : Ending} {w' : World} (h : RetAp S t x w e w') : RetQ S (apF t x) w e w' := by
  obtain ⟨hb, h⟩ := h
  refine ⟨hb, ?_⟩
  rcases h with ⟨h1, rfl⟩ | ⟨h1, -, h2⟩
  · exact .inl ⟨1, apF_of (.bad h1), by decide, rfl⟩
  · rcases h2 with ⟨u, m, B, d, hev, hm, rfl, hd, hr⟩ | ⟨xe, rfl, h3⟩
    · exact .inr ⟨u, B, d, apF_of (.ok h1 hev hm), rfl, hd, hr⟩
    · rcases h3 with h3 | ⟨rfl, u, m, hev, hm⟩
      · exact .inl ⟨xe, apF_of (.err h1 h3), h3.err_ne _ rfl, rfl⟩
      · exact .inl ⟨4, apF_of (.lim h1 hev hm), by decide, rfl⟩

/-- How far heads may go up in one substitution. -/
def stepB : Int := 83886080000
/-- A substitution whose terms are small fits. -/
theorem fit_app {B : Int} {t : Tm} {x : Su} (h1 : hB B t) (h2 : ∀ e ∈ x.l, hB B e ∧ cnt e ≤ 4000) (hm : maySu x = true) : FitG B (.app 0 t x) := by
  obtain ⟨q1, q2, q3, q4⟩ := maySu_of hm
  exact ⟨by omega, h1.mono (by unfold bndG; omega), by omega, q2, by simpa using q3, fun e he => ⟨(h2 e he).1.mono (by unfold bndG; omega), (h2 e he).2⟩⟩
theorem FitG.up {B C : Int} (h : B ≤ C) {t : Tm} {x : Su} {n : Nat} (q : FitG B (.app n t x)) : FitG C (.app n t x) := by
  obtain ⟨q1, q2, q3⟩ := q
  exact ⟨q1, q2.mono (by unfold bndG; omega), q3.len, q3.s0, q3.s1, fun e he => ⟨(q3.each e he).1.mono (by unfold bndG; omega), (q3.each e he).2⟩⟩
theorem ap_bnd {B : Int} (hB0 : 0 ≤ B ∧ B ≤ 1152921504606846976) {t : Tm} {x : Su} {u : Tm} (h1 : hB B t) (h2 : ∀ e ∈ x.l, hB B e ∧ cnt e ≤ 4000) (h : apF t x = .ok u) : hB (B + stepB) u ∧ cnt u ≤ 4000 ∧ mayB u = true := by
  have q := apF_r h
  cases q with
  | ok hm hev hu =>
    rw [Bool.and_eq_true] at hm
    obtain ⟨p1, p2, p3, p4⟩ := hev.fitG hB0 (fit_app h1 h2 hm.2)
    exact ⟨p3.mono (by unfold bndG stepB; omega), may_cnt hu (by omega), hu⟩

/-- What filling asks for. -/
structure FilOk (B : Int) (th : List Tm) (c : Nat) (n : Int) : Prop where
  n0 : 0 ≤ n
  n1 : n + (c : Int) ≤ 1048576
  each : ∀ x ∈ th, hB B x ∧ cnt x ≤ 4000
  top : B + stepB * (c : Int) ≤ 1152921504606846976
theorem FilOk.less {B : Int} {th : List Tm} {c d : Nat} {n : Int} (h : FilOk B th c n) (hd : d ≤ c) : FilOk B th d n :=
  ⟨h.n0, by have := h.n1; omega, h.each, by have := h.top; unfold stepB at *; omega⟩
theorem FilOk.last {B : Int} {th : List Tm} {c d : Nat} {n : Int} (h : FilOk B th c n) (hd : d + 1 ≤ c) (b : Bool) (l : List Tm) : FilOk B th d (lastN b l n) := by
  have h1 := h.n1
  have h0 := h.n0
  have h2 := h.top
  have hw : wrap64 (n + 1) = n + 1 := by unfold wrap64; omega
  unfold lastN
  split
  · rw [hw]
    exact ⟨by omega, by omega, h.each, by unfold stepB at *; omega⟩
  · exact h.less (by omega)
theorem FilOk.at {B : Int} {th : List Tm} {c : Nat} {n : Int} (h : FilOk B th c n) (hB0 : 0 ≤ B) (i : Nat) : hB B ((th[i]?).getD ⟨0, 0, []⟩) := by
  cases hi : th[i]? with
  | none => rw [Option.getD_none, hB]; exact ⟨by unfold mayN; simp, hB0, trivial⟩
  | some x => exact (h.each x (List.mem_of_getElem? hi)).1
theorem cnt_pos (t : Tm) : 1 ≤ cnt t := by obtain ⟨k, h, a⟩ := t; rw [cnt]; omega
mutual
theorem fillF_bnd {B : Int} (hB0 : 0 ≤ B) {th : List Tm} : ∀ {t : Tm} {n : Int} {u : Tm}, FilOk B th (cnt t) n → cnt t ≤ 1048576 → hB B t → fillF th t n = .ok u → hB (B + stepB * (cnt t : Int)) u ∧ cnt u ≤ 4000 * cnt t
  | ⟨k, h, a⟩, n, u, hf, hc, hb, q => by
    rw [hB] at hb
    rw [cnt] at hf hc
    rw [fillF] at q
    split at q
    · cases q
    · rename_i l hl
      obtain ⟨p1, p2, p3⟩ := fillL_bnd hB0 (hf.less (by omega)) (Nat.le_refl _) (by omega) hb.2.2 hl
      have htop := hf.top
      split at q
      · split at q
        · cases q
        · split at q
          · cases q
          · rename_i hk hsc hany
            have hl2 : ∀ e ∈ l, hB (B + stepB * (cntL a : Int)) e ∧ cnt e ≤ 4000 := fun e he => by
              refine ⟨hBL_iff.1 p1 e he, ?_⟩
              have hme : mayB e = true := by
                cases hm : mayB e with
                | true => rfl
                | false => exact absurd (List.any_eq_true.2 ⟨e, he, by simp [hm]⟩) hany
              have hce : ∀ l' : List Tm, e ∈ l' → cnt e ≤ cntL l' := by
                intro l'
                induction l' with
                | nil => intro h; cases h
                | cons y l' ih =>
                  intro h
                  rw [cntL]
                  rcases List.mem_cons.1 h with rfl | h
                  · omega
                  · have := ih h; omega
              exact may_cnt hme (by have := hce l he; omega)
            obtain ⟨r1, r2, r3⟩ := ap_bnd (B := B + stepB * (cntL a : Int)) (by unfold stepB at *; omega) ((hf.at hB0 _).mono (by unfold stepB; omega)) hl2 q
            refine ⟨r1.mono (by rw [cnt]; unfold stepB; omega), by rw [cnt]; omega⟩
      · cases q
        rw [hB, cnt, cnt, p3]
        exact ⟨⟨hb.1, by unfold stepB; omega, p1.mono (by unfold stepB; omega)⟩, by omega⟩
theorem fillL_bnd {B : Int} (hB0 : 0 ≤ B) {th : List Tm} : ∀ {b : Bool} {l : List Tm} {n : Int} {us : List Tm} {c : Nat}, FilOk B th (c + 1) n → cntL l ≤ c → c ≤ 1048576 → hBL B l → fillL th b l n = .ok us → hBL (B + stepB * (cntL l : Int)) us ∧ cntL us ≤ 4000 * cntL l ∧ us.length = l.length
  | b, [], n, us, c, hf, hc, hc2, hb, q => by
    rw [fillL] at q
    cases q
    exact ⟨trivial, by simp [cntL], rfl⟩
  | b, t :: l, n, us, c, hf, hc, hc2, hb, q => by
    rw [fillL] at q
    rw [hBL] at hb
    rw [cntL] at hc
    split at q
    · cases q
    · rename_i u hu
      split at q
      · cases q
      · rename_i us' hus
        cases q
        obtain ⟨p1, p2⟩ := fillF_bnd hB0 (hf.last (by omega) b l) (by omega) hb.1 hu
        obtain ⟨r1, r2, r3⟩ := fillL_bnd (c := c) hB0 hf (by omega) hc2 hb.2 hus
        rw [hBL, cntL, cntL, List.length_cons, List.length_cons, r3]
        exact ⟨⟨p1.mono (by unfold stepB; omega), r1.mono (by unfold stepB; omega)⟩, by omega, rfl⟩
end
end Go.Proofs.YtbmmdfehhhgkcaaGreat
namespace Go.Proofs.YtbmmdfehhhgkcaaGreat
open Go.RowKit Go.Shelf
set_option linter.unusedVariables false
set_option linter.unusedSimpArgs false

/-- What comes back: a row of terms and no error, or nil and one. -/
def RetQL (S : Nat → Prop) (r : Except Int (List Tm)) (w : World) (e : Ending) (w' : World) : Prop :=
  Below w.heap.size w w' ∧ ((∃ x, r = .error x ∧ x ≠ 0 ∧ e = .returned (.tuple #[.slice none 0 0, .int .i64 x])) ∨
    ∃ us B c, r = .ok us ∧ e = .returned (.tuple #[.slice B us.length c, .int .i64 0]) ∧ us.length ≤ c ∧ Reads S w' B us)

def eachX (F : Nat → Tm → Except Int Tm) : Nat → List Tm → Except Int (List Tm)
  | _, [] => .ok []
  | i, t :: l => match F i t with
    | .error e => .error e
    | .ok u => match eachX F (i + 1) l with
      | .error e => .error e
      | .ok us => .ok (u :: us)
def xapp (ys : List Tm) : Except Int (List Tm) → Except Int (List Tm)
  | .error e => .error e
  | .ok l => .ok (ys ++ l)
theorem eachX_err {F : Nat → Tm → Except Int Tm} {ts : List Tm} {i : Nat} (hlt : i < ts.length) {e : Int} (h : F i ts[i] = .error e) : eachX F i (ts.drop i) = .error e := by
  rw [List.drop_eq_getElem_cons hlt, eachX, h]
theorem eachX_ok {F : Nat → Tm → Except Int Tm} {ts : List Tm} {i : Nat} (hlt : i < ts.length) {u : Tm} (h : F i ts[i] = .ok u) (ys : List Tm) : xapp ys (eachX F i (ts.drop i)) = xapp (ys ++ [u]) (eachX F (i + 1) (ts.drop (i + 1))) := by
  rw [List.drop_eq_getElem_cons hlt, eachX, h]
  cases eachX F (i + 1) (ts.drop (i + 1)) <;> simp [xapp]

/-- A function value that makes a term of each of these. -/
def DoesX (w : World) (S0 : Nat → Prop) (kr : Nat) (first cap : Array Value) (F : Nat → Tm → Except Int Tm) (ts : List Tm) : Prop :=
  ∀ (i : Nat) (hi : i < ts.length) (S : Nat → Prop) (B : Option Addr) (d : Nat) (W : World), (∀ k, S k → k < W.heap.size) → (∀ k, k < w.heap.size → S k → S0 k) → Below w.heap.size w W → Reads S W B ts[i].a → ts[i].a.length ≤ d →
    Calls Tryz.prog kr (first ++ (#[.int .i64 i, .agg #[.int .i64 ts[i].k, .int .i64 ts[i].h, .slice B ts[i].a.length d]] ++ cap)) W (RetQ S (F i ts[i]) W)

structure EachXRel (S : Nat → Prop) (F : Nat → Tm → Except Int Tm) (ts : List Tm) (w : World) (i : Nat) (v : Value) (wr : World) : Prop where
  le : i ≤ ts.length
  below : Below w.heap.size w wr
  out : ∃ ys, Mine w.heap.size S wr v ys ∧ ys.length = i ∧ eachX F 0 ts = xapp ys (eachX F i (ts.drop i))

set_option maxHeartbeats 4000000 in
theorem eachX_calls (kr : Nat) (eg : ∀ args w, (callFunc kr args).run Tryz.prog w = .ok (.enter kr args) w) (first cap : Array Value) (F : Nat → Tm → Except Int Tm) (S : Nat → Prop) (ts : List Tm) (A : Option Addr) (c : Nat) (w : World)
    (hS : ∀ k, S k → k < w.heap.size) (hd : DoesX w S kr first cap F ts) (hr : Reads S w A ts) :
    Calls Tryz.prog 43 #[.slice A ts.length c, .func (.func kr) first cap] w (RetQL S (eachX F 0 ts) w) := by
  have hlen := hr.len
  unfold lim at hlen
  have HD := Lib.hid hd
  have HSS := Lib.hid hS
  clear hd hS
  go_enter Tryz.func43, Tryz.ntmps43
  go_wp2_with fail
  have hrel0 : EachXRel S F ts w 0 (.slice none 0 0) w := ⟨Nat.zero_le _, Below.refl _ _, [], Mine.nil _ _ _, rfl, by
    rw [List.drop_zero]
    cases eachX F 0 ts <;> simp [xapp]⟩
  have hrel1 := Lib.hid hrel0
  clear hrel0
  go_loopw [6, 13] (fun v j wr => ∃ i : Nat, j = .int .i64 i ∧ EachXRel S F ts w i v wr) (fun _ j _ => ts.length - (intOf j).toNat)
  case atStart => exact ⟨0, rfl, hrel1.out⟩
  case round =>
    clear hrel1
    obtain ⟨i, rfl, hrel⟩ := hrel
    obtain ⟨ys, hmine, hys, hfl⟩ := hrel.out
    have hbw := hrel.below
    by_cases hlt : i < ts.length
    · have hml := hmine.lt
      have hmg := hmine.ge
      have hS' : ∀ k, (S k ∨ u6.ownBlock = some k) → k < wr.heap.size := by
        rintro k (q | q)
        · have := HSS.out k q; have := hbw.size; omega
        · exact hml k q
      have hr' : Reads (fun k => S k ∨ u6.ownBlock = some k) wr A ts := hr.step (by
        rintro k hk hn (q | q)
        · exact hn q
        · have := hmg k q; omega) (fun k hk _ => hbw.block k hk)
      obtain ⟨ad, B, d, rfl, -, c0, c1, c2, hd, hsub⟩ := hr'.at hlt
      have hcall := HD.out i hlt (fun k => S k ∨ u6.ownBlock = some k) B d (wr.alloc (.cells #[.int .i64 ts[i].k, .int .i64 ts[i].h, .slice B ts[i].a.length d] 25)) (fun k q => Nat.lt_of_lt_of_le (hS' k q) (bl_alloc (Below.refl _ _) _).size) (fun k hk q => q.elim id (fun q => by have := hmg k q; omega)) (bl_alloc hbw _) (hsub.mov (bl_alloc (Below.refl _ _) _)) hd
      have HC := Lib.hid hcall
      have HFL := Lib.hid hfl
      have HS' := Lib.hid hS'
      have HYS := Lib.hid hys
      obtain ⟨fv, hfv⟩ : ∃ fv, F i ts[i] = fv := ⟨_, rfl⟩
      rw [hfv] at HC
      have HFV := Lib.hid hfv
      clear hcall hfl hS' hys hrel hfv
      go_wp2_with (first
        | (refine HC.out.mono ?_; clear HC; rintro e w3 ⟨hb3, (⟨x, rfl, hx0, rfl⟩ | ⟨u, B3, c3, rfl, rfl, hc3, hr3⟩)⟩)
        | (at_builtin; refine append_tm rfl _ _ rfl w.heap.size S u6 ys u B3 c3 rfl rfl (by simp) (((hmine.mov (bl_alloc (Below.refl _ _) _)).mov hb3).mov (bl_alloc (Below.refl _ _) _)) (hr3.mov (bl_alloc (Below.refl _ _) _)) hc3 ?ss ?bb ?ll ?_
           case ss => exact fun k q => Nat.lt_of_lt_of_le (HS'.out k (.inl q)) (Nat.le_trans (bl_alloc (Below.refl _ _) _).size (Nat.le_trans hb3.size (bl_alloc (Below.refl _ _) _).size))
           case bb => exact Nat.le_trans hbw.size (Nat.le_trans (bl_alloc (Below.refl _ _) _).size (Nat.le_trans hb3.size (bl_alloc (Below.refl _ _) _).size))
           case ll => (rw [HYS.out]; unfold lim; omega)
           intro v1 w1 hm1 hg1))
      · go_ret2
        refine ⟨bl_alloc (bl_then (bl_alloc hbw _) hb3) _, .inl ⟨x, ?_, hx0, rfl⟩⟩
        rw [HFL.out, eachX_err hlt HFV.out]
        rfl
      · refine ⟨⟨i + 1, by go_num, hlt, bl_grown (bl_alloc (bl_then (bl_alloc hbw _) hb3) _) hg1 (fun k e => hmg k e), ys ++ [u], hm1, by rw [List.length_append, HYS.out]; rfl, ?_⟩, by simp [intOf]; omega⟩
        rw [HFL.out, eachX_ok hlt HFV.out]
    · obtain rfl : i = ts.length := by have := hrel.le; omega
      obtain ⟨B, d, rfl, hd2, hrd⟩ := hmine.reads
      have HFL := Lib.hid hfl
      clear hfl hrel
      go_wp2_with fail
      go_ret2
      refine ⟨hbw, .inr ⟨ys, B, d, ?_, rfl, hd2, hrd⟩⟩
      rw [HFL.out]
      simp [eachX, xapp]
end Go.Proofs.YtbmmdfehhhgkcaaGreat
