/- The contract of shift.each at terms. The contracts of shift.change, (renumber).down, shift.may and shift.Down. The contract of shift.change. -/
import Derived.Test.YtbmmdfehhhgkcaaGreatB
namespace Go.Proofs.YtbmmdfehhhgkcaaGreat
open Go.RowKit Go.Shelf

/-- What comes back: a row of terms and true, or nil and false. -/
def RetL (S : Nat → Prop) (r : Option (List Tm)) (w : World) (e : Ending) (w' : World) : Prop :=
  Below w.heap.size w w' ∧ ((r = none ∧ e = .returned (.tuple #[.slice none 0 0, .bool false])) ∨
    ∃ us B c, r = some us ∧ e = .returned (.tuple #[.slice B us.length c, .bool true]) ∧ us.length ≤ c ∧ Reads S w' B us)

def eachF (F : Nat → Tm → Option Tm) : Nat → List Tm → Option (List Tm)
  | _, [] => some []
  | i, t :: l => (F i t).bind fun u => (eachF F (i + 1) l).map fun l' => u :: l'
theorem eachF_at {F : Nat → Tm → Option Tm} {ts : List Tm} {i : Nat} (hlt : i < ts.length) :
    eachF F i (ts.drop i) = (F i ts[i]).bind fun u => (eachF F (i + 1) (ts.drop (i + 1))).map fun l' => u :: l' := by
  rw [List.drop_eq_getElem_cons hlt, eachF]

/-- A function value that makes a term of each of these. -/
def Does (w : World) (kr : Nat) (first cap : Array Value) (F : Nat → Tm → Option Tm) (ts : List Tm) : Prop :=
  ∀ (i : Nat) (hi : i < ts.length) (S : Nat → Prop) (B : Option Addr) (d : Nat) (W : World), (∀ k, S k → k < W.heap.size) → Below w.heap.size w W → Reads S W B ts[i].a → ts[i].a.length ≤ d →
    Calls Tryz.prog kr (first ++ (#[.int .i64 i, .agg #[.int .i64 ts[i].k, .int .i64 ts[i].h, .slice B ts[i].a.length d]] ++ cap)) W (RetT S (F i ts[i]) W)

structure EachRel (S : Nat → Prop) (F : Nat → Tm → Option Tm) (ts : List Tm) (w : World) (i : Nat) (v : Value) (wr : World) : Prop where
  le : i ≤ ts.length
  below : Below w.heap.size w wr
  out : ∃ ys, Mine w.heap.size S wr v ys ∧ ys.length = i ∧ eachF F 0 ts = (eachF F i (ts.drop i)).map fun l => ys ++ l

set_option maxHeartbeats 4000000 in
theorem each_calls (kr : Nat) (eg : ∀ args w, (callFunc kr args).run Tryz.prog w = .ok (.enter kr args) w) (first cap : Array Value) (F : Nat → Tm → Option Tm) (S : Nat → Prop) (ts : List Tm) (A : Option Addr) (c : Nat) (w : World)
    (hS : ∀ k, S k → k < w.heap.size) (hd : Does w kr first cap F ts) (hr : Reads S w A ts) :
    Calls Tryz.prog 138 #[.slice A ts.length c, .func (.func kr) first cap] w (RetL S (eachF F 0 ts) w) := by
  have hlen := hr.len
  unfold lim at hlen
  have HD := Lib.hid hd
  have HSS := Lib.hid hS
  clear hd hS
  go_enter Tryz.func138, Tryz.ntmps138
  go_wp2_with fail
  have hrel0 : EachRel S F ts w 0 (.slice none 0 0) w := ⟨Nat.zero_le _, Below.refl _ _, [], Mine.nil _ _ _, rfl, by simp⟩
  have hrel1 := Lib.hid hrel0
  clear hrel0
  go_loopw [6, 13] (fun v j wr => ∃ i : Nat, j = .int .i64 i ∧ EachRel S F ts w i v wr) (fun _ j _ => ts.length - (intOf j).toNat)
  case atStart => exact ⟨0, rfl, hrel1.out⟩
  case round =>
    clear hrel1
    obtain ⟨i, rfl, hrel⟩ := hrel
    obtain ⟨ys, hmine, hys, hfl⟩ := hrel.out
    have hbw := hrel.below
    by_cases hlt : i < ts.length
    · have hml := hmine.lt
      have hmg := hmine.ge
      have hS' : ∀ k, (S k ∨ u6.ownBlock = some k) → k < wr.heap.size := by
        rintro k (q | q)
        · have := HSS.out k q; have := hbw.size; omega
        · exact hml k q
      have hr' : Reads (fun k => S k ∨ u6.ownBlock = some k) wr A ts := hr.step (by
        rintro k hk hn (q | q)
        · exact hn q
        · have := hmg k q; omega) (fun k hk _ => hbw.block k hk)
      obtain ⟨ad, B, d, rfl, -, c0, c1, c2, hd, hsub⟩ := hr'.at hlt
      rw [eachF_at hlt] at hfl
      have hcall := HD.out i hlt (fun k => S k ∨ u6.ownBlock = some k) B d (wr.alloc (.cells #[.int .i64 ts[i].k, .int .i64 ts[i].h, .slice B ts[i].a.length d] 25)) (fun k q => Nat.lt_of_lt_of_le (hS' k q) (bl_alloc (Below.refl _ _) _).size) (bl_alloc hbw _) (hsub.mov (bl_alloc (Below.refl _ _) _)) hd
      have HC := Lib.hid hcall
      have HFL := Lib.hid hfl
      have HS' := Lib.hid hS'
      have HYS := Lib.hid hys
      generalize F i ts[i] = fv at *
      clear hcall hfl hS' hys hrel
      go_wp2_with (first
        | (refine HC.out.mono ?_; clear HC; rintro e w3 ⟨hb3, (⟨rfl, rfl⟩ | ⟨u, B3, c3, rfl, rfl, hc3, hr3⟩)⟩)
        | (at_builtin; refine append_tm rfl _ _ rfl w.heap.size S u6 ys u B3 c3 rfl rfl (by simp) (((hmine.mov (bl_alloc (Below.refl _ _) _)).mov hb3).mov (bl_alloc (Below.refl _ _) _)) (hr3.mov (bl_alloc (Below.refl _ _) _)) hc3 ?ss ?bb ?ll ?_
           case ss => exact fun k q => Nat.lt_of_lt_of_le (HS'.out k (.inl q)) (Nat.le_trans (bl_alloc (Below.refl _ _) _).size (Nat.le_trans hb3.size (bl_alloc (Below.refl _ _) _).size))
           case bb => exact Nat.le_trans hbw.size (Nat.le_trans (bl_alloc (Below.refl _ _) _).size (Nat.le_trans hb3.size (bl_alloc (Below.refl _ _) _).size))
           case ll => (rw [HYS.out]; unfold lim; omega)
           intro v1 w1 hm1 hg1))
      · go_ret2
        refine ⟨bl_alloc (bl_then (bl_alloc hbw _) hb3) _, .inl ⟨?_, rfl⟩⟩
        rw [HFL.out]
        rfl
      · refine ⟨⟨i + 1, by go_num, hlt, bl_grown (bl_alloc (bl_then (bl_alloc hbw _) hb3) _) hg1 (fun k e => hmg k e), ys ++ [u], hm1, by rw [List.length_append, HYS.out]; rfl, ?_⟩, by simp [intOf]; omega⟩
        rw [HFL.out]
        simp [Function.comp_def]
    · obtain rfl : i = ts.length := by have := hrel.le; omega
      obtain ⟨B, d, rfl, hd2, hrd⟩ := hmine.reads
      have HFL := Lib.hid hfl
      clear hfl hrel
      go_wp2_with fail
      go_ret2
      refine ⟨hbw, .inr ⟨ys, B, d, ?_, rfl, hd2, hrd⟩⟩
      rw [HFL.out]
      simp [eachF]
end Go.Proofs.YtbmmdfehhhgkcaaGreat
namespace Go.Proofs.YtbmmdfehhhgkcaaGreat
open Go.RowKit Go.Shelf

mutual
def chgW (of : Int → Int → Option Int) : Tm → Int → Option Tm
  | ⟨k, h, a⟩, n => (if k = 4 then of h n else some h).bind fun h' => (chgL of (isB k) a n).map fun l => ⟨k, h', l⟩
def chgL (of : Int → Int → Option Int) : Bool → List Tm → Int → Option (List Tm)
  | _, [], _ => some []
  | b, t :: l, n => (chgW of t (lastN b l n)).bind fun t' => (chgL of b l n).map fun l' => t' :: l'
end
theorem chgL_each (of : Int → Int → Option Int) (b : Bool) (ts : List Tm) (n : Int) : ∀ (m i : Nat), i + m = ts.length →
    eachF (fun j t => chgW of t (lastN b (ts.drop (j + 1)) n)) i (ts.drop i) = chgL of b (ts.drop i) n
  | 0, i, h => by
    rw [List.drop_eq_nil_of_le (by omega), eachF, chgL]
  | m + 1, i, h => by
    have hlt : i < ts.length := by omega
    rw [eachF_at hlt, chgL_each of b ts n m (i + 1) (by omega), List.drop_eq_getElem_cons hlt, chgL]

/-- A function value that changes a variable's number. -/
def Chg (w : World) (kr : Nat) (first cap : Array Value) (of : Int → Int → Option Int) : Prop :=
  ∀ (i n : Int) (W : World), Below w.heap.size w W → Calls Tryz.prog kr (first ++ (#[.int .i64 i, .int .i64 n] ++ cap)) W fun e W' =>
    (∃ j b, e = .returned (.tuple #[.int .i64 j, .bool b]) ∧ of i n = if b = true then some j else none) ∧ Below W.heap.size W W'
theorem Chg.mov {w W : World} {kr : Nat} {first cap : Array Value} {of : Int → Int → Option Int} (h : Chg w kr first cap of) (hb : Below w.heap.size w W) : Chg W kr first cap of :=
  fun i n W2 h2 => h i n W2 (bl_then hb h2)

set_option maxHeartbeats 4000000 in
/-- The closure that change hands to each. -/
theorem change1_calls (kr : Nat) (first cap : Array Value) (S : Nat → Prop) (g0 g1 g2 : Nat) (kk hh n : Int) (X : Option Addr) (len cx : Nat) (i : Nat) (t : Tm) (B : Option Addr) (d : Nat) (rv : Option Tm) (w : World)
    (hS : ∀ k, S k → k < w.heap.size) (h0 : Blk w g0 #[.int .i64 kk, .int .i64 hh, .slice X len cx] 25) (h1 : Boxed w g1 3 (.int .i64 n)) (h2 : Boxed w g2 165 (.func (.func kr) first cap)) (hl : len ≤ lim)
    (hI : ∀ W, Below w.heap.size w W → ∀ S2 : Nat → Prop, (∀ k, S2 k → k < W.heap.size) → Reads S2 W B t.a → Calls Tryz.prog 129 #[.agg #[.int .i64 t.k, .int .i64 t.h, .slice B t.a.length d], .int .i64 (if ((kk == 1 || kk == 3) && ((i : Int) == (len : Int) - 1)) = true then wrap64 (n + 1) else n), .func (.func kr) first cap] W (RetT S2 rv W))
    (hr : Reads S w B t.a) :
    Calls Tryz.prog 139 #[.int .i64 i, .agg #[.int .i64 t.k, .int .i64 t.h, .slice B t.a.length d], .pointer (some ⟨g1, 0, none⟩), .pointer (some ⟨g0, 0, none⟩), .pointer (some ⟨g2, 0, none⟩)] w (RetT S rv w) := by
  have hb0 : Below w.heap.size w ((w.alloc (.cells #[.int .i64 t.k, .int .i64 t.h, .slice B t.a.length d] 25)).alloc (.cells #[.int .i64 0, .int .i64 0, .slice none 0 0] 25)) := bl_alloc (bl_alloc (Below.refl _ _) _) _
  have e1 := Blk.new (w.alloc (.cells #[.int .i64 t.k, .int .i64 t.h, .slice B t.a.length d] 25)) #[.int .i64 0, .int .i64 0, .slice none 0 0] 25
  simp only [World.size_alloc] at e1
  have HB0 := Lib.hid hb0
  have E1 := Lib.hid e1
  have c0 := h0.cell 0
  have c2 := h0.cell 2
  have d0 := h1.cell
  have f0 := h2.cell
  have l0 := h0.lt
  have l1 := h1.lt
  have l2 := h2.lt
  unfold lim at hl
  obtain ⟨k1, hk1⟩ : ∃ b, (kk == 1) = b := ⟨_, rfl⟩
  obtain ⟨k3, hk3⟩ : ∃ b, (kk == 3) = b := ⟨_, rfl⟩
  obtain ⟨tst, htst⟩ : ∃ b, ((i : Int) == (len : Int) - 1) = b := ⟨_, rfl⟩
  rw [hk1, hk3, htst] at hI
  have HI := Lib.hid (hI _ hb0 (fun k => S k ∨ k = w.heap.size + 1) (fun k q => by rcases q with q | q; (have := hS k q; simp; omega); (subst q; simp)) (hr.step (fun k hk hn q => by rcases q with q | q; exact hn q; omega) (fun k hk _ => hb0.block k hk)))
  have HS := Lib.hid hS
  clear hb0 e1 hI hS h0 h1 h2 hr
  cases k1 <;> cases k3 <;> cases tst <;> simp only [Bool.or_self, Bool.or_true, Bool.or_false, Bool.and_true, Bool.and_false, Bool.false_eq_true, if_false, if_true] at HI
  all_goals
    first
    | (exfalso; have qa := beq_iff_eq.1 hk1; have qb := beq_iff_eq.1 hk3; omega)
    | skip
  all_goals
    go_enter Tryz.func139, Tryz.ntmps139
    go_wp2_with (go_at_call 129; refine HI.out.mono ?_; clear HI; rintro e w3 ⟨hb3, hor⟩; have z := E1.out.mov hb3; have z0 := z.cell 0; have z1 := z.cell 1; have z2 := z.cell 2; have y0 := z.frozen 0; have y1 := z.frozen 1; have y2 := z.frozen 2; have HZ := Lib.hid z; clear z; rcases hor with (⟨rfl, rfl⟩ | ⟨u, B3, c3, rfl, rfl, hc3, hr3⟩))
  all_goals first
    | exact bodyPost_ret (res_tm rfl _ _ _ _ _ _ rfl (HZ.out.set3 (.int .i64 0) (.int .i64 0) (.slice none 0 0))) rfl ⟨bl_set3 (bl_then HB0.out hb3) (Nat.le_succ _), .inl ⟨rfl, rfl⟩⟩
    | exact bodyPost_ret (res_tm rfl _ _ _ _ _ _ rfl (HZ.out.set3 (.int .i64 u.k) (.int .i64 u.h) (.slice B3 u.a.length c3))) rfl ⟨bl_set3 (bl_then HB0.out hb3) (Nat.le_succ _), .inr ⟨u, B3, c3, rfl, rfl, hc3, (hr3.set3 (.inr rfl)).less (fun k q => .inl q)⟩⟩
end Go.Proofs.YtbmmdfehhhgkcaaGreat
namespace Go.Proofs.YtbmmdfehhhgkcaaGreat
open Go.RowKit Go.Shelf


set_option maxHeartbeats 8000000 in
theorem change_calls (kr : Nat) (eg : ∀ args w, (callFunc kr args).run Tryz.prog w = .ok (.enter kr args) w) (first cap : Array Value) (of : Int → Int → Option Int) (t : Tm) :
    ∀ (S : Nat → Prop) (A : Option Addr) (c : Nat) (n : Int) (w : World), (∀ k, S k → k < w.heap.size) → Chg w kr first cap of → Reads S w A t.a → t.a.length ≤ c →
    Calls Tryz.prog 129 #[.agg #[.int .i64 t.k, .int .i64 t.h, .slice A t.a.length c], .int .i64 n, .func (.func kr) first cap] w (RetT S (chgW of t n) w) := by
  induction t using Tm.ind with
  | h t ih =>
  intro S A c n w hS hof hr hc
  obtain ⟨kk, hh, ts⟩ := t
  dsimp only at hr hc ih ⊢
  have hlen := hr.len
  unfold lim at hlen
  have IH := Lib.hid ih
  have HOF := Lib.hid hof
  have HSS := Lib.hid hS
  clear ih hof hS
  have hb0 : Below w.heap.size w ((((w.alloc (.cells #[.int .i64 kk, .int .i64 hh, .slice A ts.length c] 25)).alloc (.cells #[.int .i64 n] 3)).alloc (.cells #[.func (.func kr) first cap] 165)).alloc (.cells #[.int .i64 0, .int .i64 0, .slice none 0 0] 25)) := bl_alloc (bl_alloc (bl_alloc (bl_alloc (Below.refl _ _) _) _) _) _
  have e0 := (((Blk.new w #[.int .i64 kk, .int .i64 hh, .slice A ts.length c] 25).mov (bl_alloc (Below.refl _ _) (.cells #[.int .i64 n] 3))).mov (bl_alloc (Below.refl _ _) (.cells #[.func (.func kr) first cap] 165))).mov (bl_alloc (Below.refl _ _) (.cells #[.int .i64 0, .int .i64 0, .slice none 0 0] 25))
  have e1 := ((Boxed.new (w.alloc (.cells #[.int .i64 kk, .int .i64 hh, .slice A ts.length c] 25)) 3 (.int .i64 n)).alloc (.cells #[.func (.func kr) first cap] 165)).alloc (.cells #[.int .i64 0, .int .i64 0, .slice none 0 0] 25)
  have e2 := (Boxed.new ((w.alloc (.cells #[.int .i64 kk, .int .i64 hh, .slice A ts.length c] 25)).alloc (.cells #[.int .i64 n] 3)) 165 (.func (.func kr) first cap)).alloc (.cells #[.int .i64 0, .int .i64 0, .slice none 0 0] 25)
  have e3 := Blk.new (((w.alloc (.cells #[.int .i64 kk, .int .i64 hh, .slice A ts.length c] 25)).alloc (.cells #[.int .i64 n] 3)).alloc (.cells #[.func (.func kr) first cap] 165)) #[.int .i64 0, .int .i64 0, .slice none 0 0] 25
  simp only [World.size_alloc] at e1 e2 e3
  have HB0 := Lib.hid hb0
  have E0 := Lib.hid e0
  have E1 := Lib.hid e1
  have E2 := Lib.hid e2
  have E3 := Lib.hid e3
  clear hb0 e0 e1 e2 e3
  cases h4 : (kk == 4)
  · have hhd : (if kk = 4 then of hh n else some hh) = some hh := if_neg (by simpa using h4)
    have HHD := Lib.hid hhd
    have HBB := HB0
    clear hhd HB0
    go_enter Tryz.func129, Tryz.ntmps129
    go_wp2_with (first
      
      | (go_at_call 138
         refine (each_calls 139 (enters_of Tryz.func139 (by kernel_rfl) rfl) #[] #[.pointer (some ⟨w.heap.size + 1, 0, none⟩), .pointer (some ⟨w.heap.size, 0, none⟩), .pointer (some ⟨w.heap.size + 1 + 1, 0, none⟩)]
           (fun j t => chgW of t (lastN (isB kk) (ts.drop (j + 1)) n)) (fun k => S k ∨ (w.heap.size ≤ k ∧ k ≤ w.heap.size + 3)) ts A c _ ?hs ?hd ?hr).mono ?_
         case hs => exact fun k q => by (rcases q with q | q; (have := HSS.out k q; have := HBB.out.size; omega); (have := E3.out.lt; omega))
         case hr => exact hr.step (fun k hk hn q => by (rcases q with q | q; exact hn q; omega)) (fun k hk _ => HBB.out.block k hk)
         case hd =>
           intro i hi S2 B d W2 h1 h2 h3 h4
           have hnn := lastN_tst (kk := kk) (n := n) hi
           refine change1_calls kr first cap S2 w.heap.size (w.heap.size + 1) (w.heap.size + 1 + 1) kk hh n A ts.length c i ts[i] B d _ W2 h1 (E0.out.mov h2) (boxed_mov E1.out h2) (boxed_mov E2.out h2) (by unfold lim; omega) ?_ h3
           intro W3 hb3 S3 h5 h6
           rw [← hnn]
           exact IH.out ts[i] (List.getElem_mem hi) S3 B d _ W3 h5 (HOF.out.mov (bl_then HBB.out (bl_then h2 hb3))) h6 h4
         clear HOF IH
         rintro e w4 ⟨hb4, hor⟩
         have z := E3.out.mov hb4
         have z0 := z.cell 0
         have z1 := z.cell 1
         have z2 := z.cell 2
         have y0 := z.frozen 0
         have y1 := z.frozen 1
         have y2 := z.frozen 2
         have o0 := (E0.out.mov hb4).cell 0
         have HZ := Lib.hid z
         clear z
         have he := chgL_each of (isB kk) ts n ts.length 0 (by omega)
         rw [List.drop_zero] at he
         rw [he] at hor
         clear he
         rcases hor with (⟨hcn, rfl⟩ | ⟨us, B4, c4, hcs, rfl, hc4, hr4⟩)))
    · refine bodyPost_ret (res_tm rfl _ _ _ _ _ _ rfl (HZ.out.set3 (.int .i64 0) (.int .i64 0) (.slice none 0 0))) rfl ⟨bl_set3 (bl_then HBB.out hb4) (by omega), .inl ⟨?_, rfl⟩⟩
      rw [chgW, HHD.out, hcn]
      rfl
    · refine bodyPost_ret (res_tm rfl _ _ _ _ _ _ rfl (HZ.out.set3 (.int .i64 kk) (.int .i64 hh) (.slice B4 us.length c4))) rfl ⟨bl_set3 (bl_then HBB.out hb4) (by omega), .inr ⟨⟨kk, hh, us⟩, B4, c4, ?_, rfl, hc4, (hr4.set3 (.inr ⟨by omega, by omega⟩)).less (fun k q => .inl q)⟩⟩
      rw [chgW, HHD.out, hcs]
      rfl
  · have hhd : (if kk = 4 then of hh n else some hh) = of hh n := if_pos (beq_iff_eq.1 h4)
    have hc0 := HOF.out hh n _ HB0.out
    have HC := Lib.hid hc0
    clear hc0
    go_enter Tryz.func129, Tryz.ntmps129
    have HHE := Lib.hid hhd
    clear hhd
    go_wp2_with (refine HC.out.mono ?_; clear HC; rintro e w1 ⟨⟨j, b, rfl, hj⟩, hb1⟩; have HJ := Lib.hid hj; have HBB := Lib.hid (bl_then HB0.out hb1); have q := E0.out.mov hb1; have q0 := q.cell 0; have q1 := q.cell 1; have q2 := q.cell 2; have ql := q.lt; have z := E3.out.mov hb1; have z0 := z.cell 0; have z1 := z.cell 1; have z2 := z.cell 2; have y0 := z.frozen 0; have y1 := z.frozen 1; have y2 := z.frozen 2; replace E0 := Lib.hid q; replace E1 := Lib.hid (boxed_mov E1.out hb1); replace E2 := Lib.hid (boxed_mov E2.out hb1); replace E3 := Lib.hid z; clear q z hj hb1 HB0; cases b)
    · refine bodyPost_ret (res_tm rfl _ _ _ _ _ _ rfl (E3.out.set3 (.int .i64 0) (.int .i64 0) (.slice none 0 0))) rfl ⟨bl_set3 HBB.out (by omega), .inl ⟨?_, rfl⟩⟩
      rw [chgW, HHE.out, HJ.out]
      rfl
    · have HHD : Hid ((if kk = 4 then of hh n else some hh) = some j) := Lib.hid (HHE.out.trans HJ.out)
      clear HHE HJ z0 z1 z2 y0 y1 y2 q0 q1 q2
      go_wp2_with (first
        
        | (go_at_call 138
           refine (each_calls 139 (enters_of Tryz.func139 (by kernel_rfl) rfl) #[] #[.pointer (some ⟨w.heap.size + 1, 0, none⟩), .pointer (some ⟨w.heap.size, 0, none⟩), .pointer (some ⟨w.heap.size + 1 + 1, 0, none⟩)]
             (fun j t => chgW of t (lastN (isB kk) (ts.drop (j + 1)) n)) (fun k => S k ∨ (w.heap.size ≤ k ∧ k ≤ w.heap.size + 3)) ts A c _ ?hs ?hd ?hr).mono ?_
           case hs => exact fun k q => by (rcases q with q | q; (have := HSS.out k q; have := HBB.out.size; omega); (have := E3.out.lt; omega))
           case hr => exact hr.step (fun k hk hn q => by (rcases q with q | q; exact hn q; omega)) (fun k hk _ => HBB.out.block k hk)
           case hd =>
             intro i hi S2 B d W2 h1 h2 h3 h4
             have hnn := lastN_tst (kk := kk) (n := n) hi
             refine change1_calls kr first cap S2 w.heap.size (w.heap.size + 1) (w.heap.size + 1 + 1) kk hh n A ts.length c i ts[i] B d _ W2 h1 (E0.out.mov h2) (boxed_mov E1.out h2) (boxed_mov E2.out h2) (by unfold lim; omega) ?_ h3
             intro W3 hb3 S3 h5 h6
             rw [← hnn]
             exact IH.out ts[i] (List.getElem_mem hi) S3 B d _ W3 h5 (HOF.out.mov (bl_then HBB.out (bl_then h2 hb3))) h6 h4
           clear HOF IH
           rintro e w4 ⟨hb4, hor⟩
           have z := E3.out.mov hb4
           have z0 := z.cell 0
           have z1 := z.cell 1
           have z2 := z.cell 2
           have y0 := z.frozen 0
           have y1 := z.frozen 1
           have y2 := z.frozen 2
           have o0 := (E0.out.mov hb4).cell 0
           have HZ := Lib.hid z
           clear z
           have he := chgL_each of (isB kk) ts n ts.length 0 (by omega)
           rw [List.drop_zero] at he
           rw [he] at hor
           clear he
           rcases hor with (⟨hcn, rfl⟩ | ⟨us, B4, c4, hcs, rfl, hc4, hr4⟩)))
      · refine bodyPost_ret (res_tm rfl _ _ _ _ _ _ rfl (HZ.out.set3 (.int .i64 0) (.int .i64 0) (.slice none 0 0))) rfl ⟨bl_set3 (bl_then HBB.out hb4) (by omega), .inl ⟨?_, rfl⟩⟩
        rw [chgW, HHD.out, hcn]
        rfl
      · refine bodyPost_ret (res_tm rfl _ _ _ _ _ _ rfl (HZ.out.set3 (.int .i64 kk) (.int .i64 j) (.slice B4 us.length c4))) rfl ⟨bl_set3 (bl_then HBB.out hb4) (by omega), .inr ⟨⟨kk, j, us⟩, B4, c4, ?_, rfl, hc4, (hr4.set3 (.inr ⟨by omega, by omega⟩)).less (fun k q => .inl q)⟩⟩
        rw [chgW, HHD.out, hcs]
        rfl
end Go.Proofs.YtbmmdfehhhgkcaaGreat
