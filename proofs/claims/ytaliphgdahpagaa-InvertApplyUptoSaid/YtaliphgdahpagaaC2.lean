/- The contracts of shift.change, (renumber).down, shift.may and shift.Down. -/
import Derived.Test.YtaliphgdahpagaaC1
namespace Go.Proofs.Ytaliphgdahpagaa
open Go.RowKit Go.Shelf

mutual
def chgW (of : Int → Int → Option Int) : Tm → Int → Option Tm
  | ⟨k, h, a⟩, n => (if k = 4 then of h n else some h).bind fun h' => (chgL of (isB k) a n).map fun l => ⟨k, h', l⟩
def chgL (of : Int → Int → Option Int) : Bool → List Tm → Int → Option (List Tm)
  | _, [], _ => some []
  | b, t :: l, n => (chgW of t (lastN b l n)).bind fun t' => (chgL of b l n).map fun l' => t' :: l'
end
theorem chgL_each (of : Int → Int → Option Int) (b : Bool) (ts : List Tm) (n : Int) : ∀ (m i : Nat), i + m = ts.length →
    eachF (fun j t => chgW of t (lastN b (ts.drop (j + 1)) n)) i (ts.drop i) = chgL of b (ts.drop i) n
  | 0, i, h => by
    rw [List.drop_eq_nil_of_le (by omega), eachF, chgL]
  | m + 1, i, h => by
    have hlt : i < ts.length := by omega
    rw [eachF_at hlt, chgL_each of b ts n m (i + 1) (by omega), List.drop_eq_getElem_cons hlt, chgL]

/-- A function value that changes a variable's number. -/
def Chg (w : World) (kr : Nat) (first cap : Array Value) (of : Int → Int → Option Int) : Prop :=
  ∀ (i n : Int) (W : World), Below w.heap.size w W → Calls Try.prog kr (first ++ (#[.int .i64 i, .int .i64 n] ++ cap)) W fun e W' =>
    (∃ j b, e = .returned (.tuple #[.int .i64 j, .bool b]) ∧ of i n = if b = true then some j else none) ∧ Below W.heap.size W W'
theorem Chg.mov {w W : World} {kr : Nat} {first cap : Array Value} {of : Int → Int → Option Int} (h : Chg w kr first cap of) (hb : Below w.heap.size w W) : Chg W kr first cap of :=
  fun i n W2 h2 => h i n W2 (bl_then hb h2)

set_option maxHeartbeats 4000000 in
/-- The closure that change hands to each. -/
theorem change1_calls (kr : Nat) (first cap : Array Value) (S : Nat → Prop) (g0 g1 g2 : Nat) (kk hh n : Int) (X : Option Addr) (len cx : Nat) (i : Nat) (t : Tm) (B : Option Addr) (d : Nat) (rv : Option Tm) (w : World)
    (hS : ∀ k, S k → k < w.heap.size) (h0 : Blk w g0 #[.int .i64 kk, .int .i64 hh, .slice X len cx] 24) (h1 : Boxed w g1 3 (.int .i64 n)) (h2 : Boxed w g2 51 (.func (.func kr) first cap)) (hl : len ≤ lim)
    (hI : ∀ W, Below w.heap.size w W → ∀ S2 : Nat → Prop, (∀ k, S2 k → k < W.heap.size) → Reads S2 W B t.a → Calls Try.prog 32 #[.agg #[.int .i64 t.k, .int .i64 t.h, .slice B t.a.length d], .int .i64 (if ((kk == 1 || kk == 3) && ((i : Int) == (len : Int) - 1)) = true then wrap64 (n + 1) else n), .func (.func kr) first cap] W (RetT S2 rv W))
    (hr : Reads S w B t.a) :
    Calls Try.prog 45 #[.int .i64 i, .agg #[.int .i64 t.k, .int .i64 t.h, .slice B t.a.length d], .pointer (some ⟨g1, 0, none⟩), .pointer (some ⟨g0, 0, none⟩), .pointer (some ⟨g2, 0, none⟩)] w (RetT S rv w) := by
  have hb0 : Below w.heap.size w ((w.alloc (.cells #[.int .i64 t.k, .int .i64 t.h, .slice B t.a.length d] 24)).alloc (.cells #[.int .i64 0, .int .i64 0, .slice none 0 0] 24)) := bl_alloc (bl_alloc (Below.refl _ _) _) _
  have e1 := Blk.new (w.alloc (.cells #[.int .i64 t.k, .int .i64 t.h, .slice B t.a.length d] 24)) #[.int .i64 0, .int .i64 0, .slice none 0 0] 24
  simp only [World.size_alloc] at e1
  have HB0 := Lib.hid hb0
  have E1 := Lib.hid e1
  have c0 := h0.cell 0
  have c2 := h0.cell 2
  have d0 := h1.cell
  have f0 := h2.cell
  have l0 := h0.lt
  have l1 := h1.lt
  have l2 := h2.lt
  unfold lim at hl
  obtain ⟨k1, hk1⟩ : ∃ b, (kk == 1) = b := ⟨_, rfl⟩
  obtain ⟨k3, hk3⟩ : ∃ b, (kk == 3) = b := ⟨_, rfl⟩
  obtain ⟨tst, htst⟩ : ∃ b, ((i : Int) == (len : Int) - 1) = b := ⟨_, rfl⟩
  rw [hk1, hk3, htst] at hI
  have HI := Lib.hid (hI _ hb0 (fun k => S k ∨ k = w.heap.size + 1) (fun k q => by rcases q with q | q; (have := hS k q; simp; omega); (subst q; simp)) (hr.step (fun k hk hn q => by rcases q with q | q; exact hn q; omega) (fun k hk _ => hb0.block k hk)))
  have HS := Lib.hid hS
  clear hb0 e1 hI hS h0 h1 h2 hr
  cases k1 <;> cases k3 <;> cases tst <;> simp only [Bool.or_self, Bool.or_true, Bool.or_false, Bool.and_true, Bool.and_false, Bool.false_eq_true, if_false, if_true] at HI
  all_goals
    first
    | (exfalso; have qa := beq_iff_eq.1 hk1; have qb := beq_iff_eq.1 hk3; omega)
    | skip
  all_goals
    go_enter Try.func45, Try.ntmps45
    go_wp2_with (go_at_call 32; refine HI.out.mono ?_; clear HI; rintro e w3 ⟨hb3, hor⟩; have z := E1.out.mov hb3; have z0 := z.cell 0; have z1 := z.cell 1; have z2 := z.cell 2; have y0 := z.frozen 0; have y1 := z.frozen 1; have y2 := z.frozen 2; have HZ := Lib.hid z; clear z; rcases hor with (⟨rfl, rfl⟩ | ⟨u, B3, c3, rfl, rfl, hc3, hr3⟩))
  all_goals first
    | exact bodyPost_ret (res_tm rfl _ _ _ _ _ _ rfl (HZ.out.set3 (.int .i64 0) (.int .i64 0) (.slice none 0 0))) rfl ⟨bl_set3 (bl_then HB0.out hb3) (Nat.le_succ _), .inl ⟨rfl, rfl⟩⟩
    | exact bodyPost_ret (res_tm rfl _ _ _ _ _ _ rfl (HZ.out.set3 (.int .i64 u.k) (.int .i64 u.h) (.slice B3 u.a.length c3))) rfl ⟨bl_set3 (bl_then HB0.out hb3) (Nat.le_succ _), .inr ⟨u, B3, c3, rfl, rfl, hc3, (hr3.set3 (.inr rfl)).less (fun k q => .inl q)⟩⟩
end Go.Proofs.Ytaliphgdahpagaa
