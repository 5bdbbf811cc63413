/- The contracts of Lights, Few, lightCall, LightClause, LightFun, LightFuns. -/
import Derived.Test.YtbmmdfehhhgkcaaGreatDT
import Derived.Test.YtbmmdfehhhgkcaaGreatF3
namespace Go.Proofs.YtbmmdfehhhgkcaaGreat
open Go.RowKit Go.Shelf

/-- An element's cells. -/
theorem Row.at {α : Type} {E : (Nat → Prop) → World → List Value → α → Prop} {sz : Nat} {S : Nat → Prop} {w : World} {A : Option Addr} {xs : List α} (h : Row E sz S w A xs) {i : Nat} (hi : i < xs.length) :
    ∃ (ad : Addr) (cs : List Value), A = some ad ∧ ¬ S ad.block ∧ cs.length = sz ∧ (∀ u, cs[0]? = some u → w.cell? (ad.add (i * sz)) = some u) ∧ (∀ j u, cs[j]? = some u → w.cell? ⟨(ad.add (i * sz)).block, (ad.add (i * sz)).off + j, none⟩ = some u) ∧ E S w cs xs[i] := by
  obtain ⟨⟨b, o, sp⟩, cs, h1, h2, h3, h4, h5, h6⟩ := h.2 i hi
  dsimp only at h2
  subst h2
  refine ⟨⟨b, o, none⟩, cs, h1, h3, h4, fun u hu => ?_, fun j u hu => ?_, h6⟩
  · rw [add_plain]; exact h5 0 u hu
  · rw [add_plain]; rw [Nat.add_assoc]; exact h5 j u hu

/-- What a loop that asks one after the other keeps. -/
structure AllRel {α : Type} (p : α → Bool) (xs : List α) (w : World) (i : Nat) (wr : World) : Prop where
  le : i ≤ xs.length
  below : Below w.heap.size w wr
  rest : xs.all p = (xs.drop i).all p
theorem AllRel.zero {α : Type} (p : α → Bool) (xs : List α) {w wr : World} (h : Below w.heap.size w wr) : AllRel p xs w 0 wr := ⟨Nat.zero_le _, h, rfl⟩
theorem AllRel.next {α : Type} {p : α → Bool} {xs : List α} {w wr w1 : World} {i : Nat} (h : AllRel p xs w i wr) (hi : i < xs.length) (hp : p xs[i] = true) (hb : Below wr.heap.size wr w1) : AllRel p xs w (i + 1) w1 :=
  ⟨hi, bl_then h.below hb, by rw [h.rest, List.drop_eq_getElem_cons hi, List.all_cons, hp, Bool.true_and]⟩
theorem AllRel.no {α : Type} {p : α → Bool} {xs : List α} {w wr : World} {i : Nat} (h : AllRel p xs w i wr) (hi : i < xs.length) (hp : p xs[i] = false) : xs.all p = false := by
  rw [h.rest, List.drop_eq_getElem_cons hi, List.all_cons, hp, Bool.false_and]
theorem AllRel.yes {α : Type} {p : α → Bool} {xs : List α} {w wr : World} {i : Nat} (h : AllRel p xs w i wr) (hi : ¬ i < xs.length) : xs.all p = true := by
  rw [h.rest, List.drop_eq_nil_of_le (by omega)]; rfl

def lightsB (l : List Tm) (s d : Int) : Bool := decide (l.length ≤ 60) && l.all fun t => lightB t s d

set_option maxHeartbeats 2000000 in
theorem Lights_calls (l : List Tm) (A : Option Addr) (c : Nat) (s d : Int) (w : World) (hr : Reads (fun _ => False) w A l) :
    Calls Tryz.prog 12 #[.slice A l.length c, .int .i64 s, .int .i64 d] w fun e w' => e = .returned (.bool (lightsB l s d)) ∧ Below w.heap.size w w' := by
  have hlen := hr.len
  unfold lim at hlen
  rcases Nat.lt_or_ge 60 l.length with h60 | h60
  · have e : lightsB l s d = false := by unfold lightsB; rw [decide_eq_false (by omega)]; rfl
    rw [e]
    clear e
    go_enter Tryz.func12, Tryz.ntmps12
    go_wp2_with fail
    go_ret
    exact ⟨rfl, Below.refl _ _⟩
  · have e : lightsB l s d = l.all fun t => lightB t s d := by unfold lightsB; rw [decide_eq_true h60]; rfl
    rw [e]
    clear e
    go_enter Tryz.func12, Tryz.ntmps12
    go_wp2_with fail
    go_loopw [7, 8] (fun j _ wr => ∃ i : Nat, j = .int .i64 i ∧ AllRel (fun t => lightB t s d) l w i wr) (fun j _ _ => l.length - (intOf j).toNat)
    case atStart => exact ⟨0, rfl, .zero _ _ (Below.refl _ _)⟩
    case round =>
      obtain ⟨i, rfl, hrel⟩ := hrel
      by_cases hlt : i < l.length
      · obtain ⟨ad, B, d', rfl, -, c0, c1, c2, hd, hsub⟩ := (hr.mov hrel.below).at hlt
        have hc := Light_calls l[i] B d' s d wr hsub hd
        cases hv : lightB l[i] s d
        all_goals
          rw [hv] at hc
          have HC := Lib.hid hc
          have HV := Lib.hid hv
          clear hc hv
          go_wp2_with (go_at_call 13; refine HC.out.mono ?_; clear HC; rintro e w1 ⟨rfl, hb⟩)
        · go_ret
          exact ⟨ret_bool (hrel.no hlt HV.out).symm, bl_then hrel.below hb⟩
        · exact ⟨⟨i + 1, by go_num, hrel.next hlt HV.out hb⟩, by simp [intOf]; omega⟩
      · have hy := hrel.yes hlt
        rw [Nat.not_lt] at hlt
        go_wp2_with fail
        go_ret
        exact ⟨ret_bool hy.symm, hrel.below⟩

set_option maxHeartbeats 2000000 in
theorem Few9_calls (w : World) :
    Calls Tryz.prog 86 #[.slice none 0 0] w fun e w' => e = .returned (.bool true) ∧ Below w.heap.size w w' := by
  go_enter Tryz.func86, Tryz.ntmps86
  go_wp2_with fail
  go_loopw [3, 4] (fun j _ wr => j = .int .i64 0 ∧ Below w.heap.size w wr) (fun _ _ _ => 0)
  case atStart => exact ⟨rfl, Below.refl _ _⟩
  case round =>
    obtain ⟨rfl, hb⟩ := hrel
    go_wp2_with fail
    go_ret
    exact ⟨rfl, hb⟩

def metaB (m : Md) : Bool := lightsB m.ctx 500 80 && lightB m.t 500 80
def metasB (l : List Md) : Bool := decide (l.length ≤ 30) && l.all metaB
theorem lights_nil : lightsB [] 500 80 = true := rfl

set_option maxHeartbeats 4000000 in
theorem Few10_calls (l : List Md) (A : Option Addr) (c : Nat) (w : World) (hr : Row eM 5 (fun _ => False) w A l) :
    Calls Tryz.prog 66 #[.slice none 0 0, .slice A l.length c, .slice none 0 0] w fun e w' => e = .returned (.bool (metasB l)) ∧ Below w.heap.size w w' := by
  have hlen := hr.1
  unfold lim at hlen
  have HL := Lib.hid (fun W => lights_nil ▸ Lights_calls [] none 0 500 80 W (.nil _))
  rcases Nat.lt_or_ge 30 l.length with h60 | h60
  · have e : metasB l = false := by unfold metasB; rw [decide_eq_false (by omega)]; rfl
    rw [e]
    clear e
    go_enter Tryz.func66, Tryz.ntmps66
    go_wp2_with (go_at_call 86; refine (Few9_calls _).mono ?_; rintro e w1 ⟨rfl, hb1⟩)
    go_ret
    exact ⟨rfl, hb1⟩
  · have e : metasB l = l.all metaB := by unfold metasB; rw [decide_eq_true h60]; rfl
    rw [e]
    clear e
    go_enter Tryz.func66, Tryz.ntmps66
    go_wp2_with (go_at_call 86; refine (Few9_calls _).mono ?_; rintro e w1 ⟨rfl, hb1⟩)
    go_loopw [8, 9, 10] (fun j _ _ wr => ∃ i : Nat, j = .int .i64 i ∧ AllRel metaB l w i wr) (fun j _ _ _ => l.length - (intOf j).toNat)
    case atStart => exact ⟨0, rfl, .zero _ _ hb1⟩
    case round =>
      obtain ⟨i, rfl, hrel⟩ := hrel
      by_cases hlt : i < l.length
      · obtain ⟨ad, cs, rfl, -, hcl, k0, kj, B1, d1, B2, d2, hcs, hd1, hr1, hd2, hr2⟩ := (hr.mov lasts_M (by decide) hrel.below).at hlt
        rw [hcs] at k0 kj
        have c0 := k0 _ rfl
        have c1 := kj 1 _ rfl
        have c2 := kj 2 _ rfl
        have c3 := kj 3 _ rfl
        clear k0 kj hcs hcl
        have hc1 := Lights_calls l[i].ctx B1 d1 500 80 wr hr1
        have hc2 := fun (W : World) (hb : Below wr.heap.size wr W) => Light_calls l[i].t B2 d2 500 80 W (hr2.mov hb) hd2
        have hp : metaB l[i] = (lightsB l[i].ctx 500 80 && lightB l[i].t 500 80) := rfl
        cases hv : lightsB l[i].ctx 500 80 <;> cases hu : lightB l[i].t 500 80
        all_goals
          rw [hv] at hc1 hp
          rw [hu] at hc2 hp
          have HC1 := Lib.hid hc1
          have HC2 := Lib.hid hc2
          have HP := Lib.hid hp
          clear hc1 hc2 hv hu hp
          go_wp2_with (first
            | (go_at_call 12; refine HC1.out.mono ?_; clear HC1; rintro e w2 ⟨rfl, hb2⟩; replace c1 := cell_mov c1 hb2; replace c2 := cell_mov c2 hb2; replace c3 := cell_mov c3 hb2)
            | (go_at_call 13; refine (HC2.out _ hb2).mono ?_; clear HC2; rintro e w3 ⟨rfl, hb3⟩))
        · go_ret
          exact ⟨ret_bool (hrel.no hlt HP.out).symm, bl_then hrel.below (bl_then hb2 hb3)⟩
        · go_ret
          exact ⟨ret_bool (hrel.no hlt HP.out).symm, bl_then hrel.below (bl_then hb2 hb3)⟩
        · go_ret
          exact ⟨ret_bool (hrel.no hlt HP.out).symm, bl_then hrel.below (bl_then hb2 hb3)⟩
        · exact ⟨⟨i + 1, by go_num, hrel.next hlt HP.out (bl_then hb2 hb3)⟩, by simp [intOf]; omega⟩
      · have hy := hrel.yes hlt
        rw [Nat.not_lt] at hlt
        go_wp2_with (go_at_call 12; refine (HL.out _).mono ?_; clear HL; rintro e w2 ⟨rfl, hb2⟩)
        go_ret
        exact ⟨ret_bool hy.symm, bl_then hrel.below hb2⟩

set_option maxHeartbeats 2000000 in
theorem Few12_calls (l : List Md) (A : Option Addr) (c : Nat) (w : World) (hr : Row eM 5 (fun _ => False) w A l) :
    Calls Tryz.prog 48 #[.slice A l.length c] w fun e w' => e = .returned (.bool (metasB l)) ∧ Below w.heap.size w w' := by
  go_enter Tryz.func48, Tryz.ntmps48
  go_wp2_with (go_at_call 66; refine (Few10_calls l A c _ hr).mono ?_; rintro e w1 ⟨rfl, hb1⟩)
  go_ret
  exact ⟨rfl, hb1⟩

def callB (c : Cl) : Bool := lightsB c.ext 300 60 && (lightsB c.th 300 60 && lightB c.arg 300 60)

set_option maxHeartbeats 4000000 in
theorem lightCall_calls (x : Cl) (cs : List Value) (w : World) (hx : eC (fun _ => False) w cs x) :
    Calls Tryz.prog 49 #[.agg cs.toArray] w fun e w' => e = .returned (.bool (callB x)) ∧ Below w.heap.size w w' := by
  obtain ⟨A, a, B, b, C, c, rfl, ha, hra, hb, hrb, hc, hrc⟩ := hx
  have hb0 : Below w.heap.size w (w.alloc (.cells #[.int .i64 x.f, .slice A x.ext.length a, .slice B x.th.length b, .int .i64 x.arg.k, .int .i64 x.arg.h, .slice C x.arg.a.length c] 63)) := bl_alloc (Below.refl _ _) _
  have e0 := Blk.new w #[.int .i64 x.f, .slice A x.ext.length a, .slice B x.th.length b, .int .i64 x.arg.k, .int .i64 x.arg.h, .slice C x.arg.a.length c] 63
  have HB0 := Lib.hid hb0
  have E0 := Lib.hid e0
  have H1 := Lib.hid (fun (W : World) (h : Below w.heap.size w W) => Lights_calls x.ext A a 300 60 W (hra.mov h))
  have H2 := Lib.hid (fun (W : World) (h : Below w.heap.size w W) => Lights_calls x.th B b 300 60 W (hrb.mov h))
  have H3 := Lib.hid (fun (W : World) (h : Below w.heap.size w W) => Light_calls x.arg C c 300 60 W (hrc.mov h) hc)
  clear hb0 e0
  unfold callB
  generalize lightsB x.ext 300 60 = b1 at *
  generalize lightsB x.th 300 60 = b2 at *
  generalize lightB x.arg 300 60 = b3 at *
  cases b1 <;> cases b2
  all_goals
    go_enter Tryz.func49, Tryz.ntmps49
    go_wp2_with (first
      | (go_at_call 12; (with_reducible refine (H1.out _ HB0.out).mono ?_); clear H1; rintro e w1 ⟨rfl, hb1⟩; have hw1 := bl_then HB0.out hb1; have p := E0.out.mov hb1; have p2 := p.cell 2; have p3 := p.cell 3; have p4 := p.cell 4; have p5 := p.cell 5; clear p)
      | (go_at_call 12; (with_reducible refine (H2.out _ hw1).mono ?_); clear H2; rintro e w2 ⟨rfl, hb2⟩; have hw2 := bl_then hw1 hb2; clear p2 p3 p4 p5; have p := (E0.out.mov hb1).mov hb2; have p3 := p.cell 3; have p4 := p.cell 4; have p5 := p.cell 5; clear p)
      | (go_at_call 13; refine (H3.out _ hw2).mono ?_; clear H3; rintro e w3 ⟨rfl, hb3⟩; have hw3 := bl_then hw2 hb3))
    go_ret
    exact ⟨ret_bool (by simp), hw3⟩

def clauseB (x : Cs) : Bool := metasB x.ms && (lightsB x.th 300 60 && (lightB x.p 300 60 && (lightB x.r 300 60 && (decide (x.cs.length ≤ 50) && x.cs.all callB))))

set_option maxHeartbeats 8000000 in
theorem LightClause_calls (x : Cs) (cs : List Value) (w : World) (hx : eK (fun _ => False) w cs x) :
    Calls Tryz.prog 26 #[.agg cs.toArray] w fun e w' => e = .returned (.bool (clauseB x)) ∧ Below w.heap.size w w' := by
  obtain ⟨A, a, B, b, C, c, D, d, E, e, rfl, ⟨ha, hra⟩, ⟨hb, hrb⟩, ⟨hc, hrc⟩, ⟨hd, hrd⟩, ⟨he, hre⟩⟩ := hx
  have hb0 : Below w.heap.size w (w.alloc (.cells #[.slice A x.ms.length a, .slice B x.th.length b, .int .i64 x.p.k, .int .i64 x.p.h, .slice C x.p.a.length c, .slice D x.cs.length d, .int .i64 x.r.k, .int .i64 x.r.h, .slice E x.r.a.length e] 42)) := bl_alloc (Below.refl _ _) _
  have e0 := Blk.new w #[.slice A x.ms.length a, .slice B x.th.length b, .int .i64 x.p.k, .int .i64 x.p.h, .slice C x.p.a.length c, .slice D x.cs.length d, .int .i64 x.r.k, .int .i64 x.r.h, .slice E x.r.a.length e] 42
  have hlen := hrd.1
  unfold lim at hlen
  have HB0 := Lib.hid hb0
  have E0 := Lib.hid e0
  have H0 := Lib.hid (fun (W : World) (h : Below w.heap.size w W) => Few12_calls x.ms A a W (hra.mov lasts_M (by decide) h))
  have H1 := Lib.hid (fun (W : World) (h : Below w.heap.size w W) => Lights_calls x.th B b 300 60 W (hrb.mov h))
  have H2 := Lib.hid (fun (W : World) (h : Below w.heap.size w W) => Light_calls x.p C c 300 60 W (hrc.mov h) hc)
  have H3 := Lib.hid (fun (W : World) (h : Below w.heap.size w W) => Light_calls x.r E e 300 60 W (hre.mov h) he)
  have hK : clauseB x = (metasB x.ms && (lightsB x.th 300 60 && (lightB x.p 300 60 && (lightB x.r 300 60 && (decide (x.cs.length ≤ 50) && x.cs.all callB))))) := rfl
  have HK := Lib.hid hK
  clear hb0 e0 hK
  generalize metasB x.ms = b0 at *
  generalize lightsB x.th 300 60 = b1 at *
  generalize lightB x.p 300 60 = b2 at *
  generalize lightB x.r 300 60 = b3 at *
  go_enter Tryz.func26, Tryz.ntmps26
  go_wp2_with (first
    | (go_at_call 48; refine (H0.out _ HB0.out).mono ?_; clear H0; rintro e w1 ⟨rfl, hb1⟩; have hw1 := bl_then HB0.out hb1; have HX := Lib.hid (E0.out.mov hb1); have p1 := HX.out.cell 1)
    | (go_at_call 12; refine (H1.out _ hw1).mono ?_; clear H1 p1; rintro e w2 ⟨rfl, hb2⟩; have hw2 := bl_then hw1 hb2; replace HX := Lib.hid (HX.out.mov hb2); have p2 := HX.out.cell 2; have p3 := HX.out.cell 3; have p4 := HX.out.cell 4)
    | (go_at_call 13; (with_reducible refine (H2.out _ hw2).mono ?_); clear H2 p2 p3 p4; rintro e w3 ⟨rfl, hb3⟩; have hw3 := bl_then hw2 hb3; replace HX := Lib.hid (HX.out.mov hb3); have p6 := HX.out.cell 6; have p7 := HX.out.cell 7; have p8 := HX.out.cell 8)
    | (go_at_call 13; (with_reducible refine (H3.out _ hw3).mono ?_); clear H3 p6 p7 p8; rintro e w4 ⟨rfl, hb4⟩; have hw4 := bl_then hw3 hb4; replace HX := Lib.hid (HX.out.mov hb4); have p5 := HX.out.cell 5))
  all_goals first
    | (go_ret; exact ⟨ret_bool (by rw [HK.out]; simp [*]; try omega), hw4⟩)
    | skip
  have hall : clauseB x = x.cs.all callB := by
    rw [HK.out]
    simp [*]
    omega
  have HALL := Lib.hid hall
  clear HK hall
  go_loopw [7, 8] (fun j _ wr => ∃ i : Nat, j = .int .i64 i ∧ AllRel callB x.cs w4 i wr) (fun j _ _ => x.cs.length - (intOf j).toNat)
  case atStart => exact ⟨0, rfl, .zero _ _ (Below.refl _ _)⟩
  case round =>
    obtain ⟨i, rfl, hrel⟩ := hrel
    have hbw := hrel.below
    have p5 := (HX.out.mov hbw).cell 5
    by_cases hlt : i < x.cs.length
    · obtain ⟨ad, cs, rfl, -, hcl, k0, kj, hE⟩ := (hrd.mov lasts_C (by decide) (bl_then hw4 hbw)).at hlt
      have hE0 := hE
      obtain ⟨A1, a1, B1, b1, C1, c1, rfl, -⟩ := hE
      have c0 := k0 _ rfl
      have q1 := kj 1 _ rfl
      have q2 := kj 2 _ rfl
      have q3 := kj 3 _ rfl
      have q4 := kj 4 _ rfl
      have q5 := kj 5 _ rfl
      have hc1 := lightCall_calls x.cs[i] _ wr hE0
      clear k0 kj hcl hE0
      cases hv : callB x.cs[i]
      all_goals
        rw [hv] at hc1
        have HC1 := Lib.hid hc1
        have HV := Lib.hid hv
        clear hc1 hv
        go_wp2_with (go_at_call 49; refine HC1.out.mono ?_; clear HC1; rintro e w5 ⟨rfl, hb5⟩)
      · go_ret
        exact ⟨ret_bool (HALL.out.trans (hrel.no hlt HV.out)).symm, bl_then hw4 (bl_then hbw hb5)⟩
      · exact ⟨⟨i + 1, by go_num, hrel.next hlt HV.out hb5⟩, by simp [intOf]; omega⟩
    · have hy := hrel.yes hlt
      rw [Nat.not_lt] at hlt
      go_wp2_with fail
      go_ret
      exact ⟨ret_bool (HALL.out.trans hy).symm, bl_then hw4 hbw⟩

def funB (x : Fu) : Bool := metasB x.del && (lightsB x.sch 300 60 && (lightsB x.psi 300 60 && (lightsB x.phi 300 60 && (lightB x.a 300 60 && (lightB x.b 300 60 && (decide (x.cl.length ≤ 50) && x.cl.all clauseB))))))

set_option maxHeartbeats 8000000 in
theorem LightFun_calls (x : Fu) (cs : List Value) (w : World) (hx : eF (fun _ => False) w cs x) :
    Calls Tryz.prog 31 #[.agg cs.toArray] w fun e w' => e = .returned (.bool (funB x)) ∧ Below w.heap.size w w' := by
  obtain ⟨A, a, B, b, C, c, D, d, E, e, F, f, G, g, rfl, ⟨ha, hra⟩, ⟨hb, hrb⟩, ⟨hc, hrc⟩, ⟨hd, hrd⟩, ⟨he, hre⟩, ⟨hf, hrf⟩, ⟨hg, hrg⟩⟩ := hx
  have hb0 : Below w.heap.size w (w.alloc (.cells #[.string x.nm, .slice A x.sch.length a, .slice B x.del.length b, .slice C x.psi.length c, .int .i64 x.a.k, .int .i64 x.a.h, .slice D x.a.a.length d, .slice E x.phi.length e, .int .i64 x.b.k, .int .i64 x.b.h, .slice F x.b.a.length f, .bool x.tot, .slice G x.cl.length g] 39)) := bl_alloc (Below.refl _ _) _
  have e0 := Blk.new w #[.string x.nm, .slice A x.sch.length a, .slice B x.del.length b, .slice C x.psi.length c, .int .i64 x.a.k, .int .i64 x.a.h, .slice D x.a.a.length d, .slice E x.phi.length e, .int .i64 x.b.k, .int .i64 x.b.h, .slice F x.b.a.length f, .bool x.tot, .slice G x.cl.length g] 39
  have hlen := hrg.1
  unfold lim at hlen
  have HB0 := Lib.hid hb0
  have E0 := Lib.hid e0
  have H0 := Lib.hid (fun (W : World) (h : Below w.heap.size w W) => Few12_calls x.del B b W (hrb.mov lasts_M (by decide) h))
  have H1 := Lib.hid (fun (W : World) (h : Below w.heap.size w W) => Lights_calls x.sch A a 300 60 W (hra.mov h))
  have H2 := Lib.hid (fun (W : World) (h : Below w.heap.size w W) => Lights_calls x.psi C c 300 60 W (hrc.mov h))
  have H3 := Lib.hid (fun (W : World) (h : Below w.heap.size w W) => Lights_calls x.phi E e 300 60 W (hre.mov h))
  have H4 := Lib.hid (fun (W : World) (h : Below w.heap.size w W) => Light_calls x.a D d 300 60 W (hrd.mov h) hd)
  have H5 := Lib.hid (fun (W : World) (h : Below w.heap.size w W) => Light_calls x.b F f 300 60 W (hrf.mov h) hf)
  have hK : funB x = (metasB x.del && (lightsB x.sch 300 60 && (lightsB x.psi 300 60 && (lightsB x.phi 300 60 && (lightB x.a 300 60 && (lightB x.b 300 60 && (decide (x.cl.length ≤ 50) && x.cl.all clauseB))))))) := rfl
  have HK := Lib.hid hK
  clear hb0 e0 hK
  generalize metasB x.del = b0 at *
  generalize lightsB x.sch 300 60 = b1 at *
  generalize lightsB x.psi 300 60 = b2 at *
  generalize lightsB x.phi 300 60 = b3 at *
  generalize lightB x.a 300 60 = b4 at *
  generalize lightB x.b 300 60 = b5 at *
  go_enter Tryz.func31, Tryz.ntmps31
  go_wp2_with (first
    | (go_at_call 48; refine (H0.out _ HB0.out).mono ?_; clear H0; rintro e w1 ⟨rfl, hb1⟩; have hw1 := bl_then HB0.out hb1; have HX := Lib.hid (E0.out.mov hb1); have p1 := HX.out.cell 1)
    | (go_at_call 12; (with_reducible refine (H1.out _ hw1).mono ?_); clear H1 p1; rintro e w2 ⟨rfl, hb2⟩; have hw2 := bl_then hw1 hb2; replace HX := Lib.hid (HX.out.mov hb2); have p3 := HX.out.cell 3)
    | (go_at_call 12; (with_reducible refine (H2.out _ hw2).mono ?_); clear H2 p3; rintro e w3 ⟨rfl, hb3⟩; have hw3 := bl_then hw2 hb3; replace HX := Lib.hid (HX.out.mov hb3); have p5 := HX.out.cell 7)
    | (go_at_call 12; (with_reducible refine (H3.out _ hw3).mono ?_); clear H3 p5; rintro e w4 ⟨rfl, hb4⟩; have hw4 := bl_then hw3 hb4; replace HX := Lib.hid (HX.out.mov hb4); have p4 := HX.out.cell 4; have p5 := HX.out.cell 5; have p6 := HX.out.cell 6)
    | (go_at_call 13; (with_reducible refine (H4.out _ hw4).mono ?_); clear H4 p4 p5 p6; rintro e w5 ⟨rfl, hb5⟩; have hw5 := bl_then hw4 hb5; replace HX := Lib.hid (HX.out.mov hb5); have p8 := HX.out.cell 8; have p9 := HX.out.cell 9; have p10 := HX.out.cell 10)
    | (go_at_call 13; (with_reducible refine (H5.out _ hw5).mono ?_); clear H5 p8 p9 p10; rintro e w6 ⟨rfl, hb6⟩; have hw6 := bl_then hw5 hb6; replace HX := Lib.hid (HX.out.mov hb6); have p12 := HX.out.cell 12))
  all_goals first
    | (go_ret; exact ⟨ret_bool (by rw [HK.out]; simp [*]; try omega), hw6⟩)
    | skip
  have hall : funB x = x.cl.all clauseB := by
    rw [HK.out]
    simp [*]
    omega
  have HALL := Lib.hid hall
  clear HK hall
  go_loopw [9, 10] (fun j _ wr => ∃ i : Nat, j = .int .i64 i ∧ AllRel clauseB x.cl w6 i wr) (fun j _ _ => x.cl.length - (intOf j).toNat)
  case atStart => exact ⟨0, rfl, .zero _ _ (Below.refl _ _)⟩
  case round =>
    obtain ⟨i, rfl, hrel⟩ := hrel
    have hbw := hrel.below
    have p5 := (HX.out.mov hbw).cell 12
    by_cases hlt : i < x.cl.length
    · obtain ⟨ad, cs, rfl, -, hcl, k0, kj, hE⟩ := (hrg.mov lasts_K (by decide) (bl_then hw6 hbw)).at hlt
      have hE0 := hE
      obtain ⟨A1, a1, B1, b1, C1, c1, D1, d1, E1, e1, rfl, -⟩ := hE
      have c0 := k0 _ rfl
      have q1 := kj 1 _ rfl
      have q2 := kj 2 _ rfl
      have q3 := kj 3 _ rfl
      have q4 := kj 4 _ rfl
      have q5 := kj 5 _ rfl
      have q6 := kj 6 _ rfl
      have q7 := kj 7 _ rfl
      have q8 := kj 8 _ rfl
      have hc1 := LightClause_calls x.cl[i] _ wr hE0
      clear k0 kj hcl hE0
      cases hv : clauseB x.cl[i]
      all_goals
        rw [hv] at hc1
        have HC1 := Lib.hid hc1
        have HV := Lib.hid hv
        clear hc1 hv
        go_wp2_with (go_at_call 26; refine HC1.out.mono ?_; clear HC1; rintro e w7 ⟨rfl, hb7⟩)
      · go_ret
        exact ⟨ret_bool (HALL.out.trans (hrel.no hlt HV.out)).symm, bl_then hw6 (bl_then hbw hb7)⟩
      · exact ⟨⟨i + 1, by go_num, hrel.next hlt HV.out hb7⟩, by simp [intOf]; omega⟩
    · have hy := hrel.yes hlt
      rw [Nat.not_lt] at hlt
      go_wp2_with fail
      go_ret
      exact ⟨ret_bool (HALL.out.trans hy).symm, bl_then hw6 hbw⟩

def funsB (l : List Fu) : Bool := decide (l.length ≤ 20) && l.all funB

set_option maxHeartbeats 4000000 in
theorem LightFuns_calls (l : List Fu) (A : Option Addr) (c : Nat) (w : World) (hr : Row eF 13 (fun _ => False) w A l) :
    Calls Tryz.prog 11 #[.slice A l.length c] w fun e w' => e = .returned (.bool (funsB l)) ∧ Below w.heap.size w w' := by
  have hlen := hr.1
  unfold lim at hlen
  rcases Nat.lt_or_ge 20 l.length with h60 | h60
  · have e : funsB l = false := by unfold funsB; rw [decide_eq_false (by omega)]; rfl
    rw [e]
    clear e
    go_enter Tryz.func11, Tryz.ntmps11
    go_wp2_with fail
    go_ret
    exact ⟨rfl, Below.refl _ _⟩
  · have e : funsB l = l.all funB := by unfold funsB; rw [decide_eq_true h60]; rfl
    rw [e]
    clear e
    go_enter Tryz.func11, Tryz.ntmps11
    go_wp2_with fail
    go_loopw [3, 4] (fun j _ wr => ∃ i : Nat, j = .int .i64 i ∧ AllRel funB l w i wr) (fun j _ _ => l.length - (intOf j).toNat)
    case atStart => exact ⟨0, rfl, .zero _ _ (Below.refl _ _)⟩
    case round =>
      obtain ⟨i, rfl, hrel⟩ := hrel
      by_cases hlt : i < l.length
      · obtain ⟨ad, cs, rfl, -, hcl, k0, kj, hE⟩ := (hr.mov lasts_F (by decide) hrel.below).at hlt
        have hE0 := hE
        obtain ⟨A1, a1, B1, b1, C1, c1, D1, d1, E1, e1, F1, f1, G1, g1, rfl, -⟩ := hE
        have c0 := k0 _ rfl
        have q1 := kj 1 _ rfl
        have q2 := kj 2 _ rfl
        have q3 := kj 3 _ rfl
        have q4 := kj 4 _ rfl
        have q5 := kj 5 _ rfl
        have q6 := kj 6 _ rfl
        have q7 := kj 7 _ rfl
        have q8 := kj 8 _ rfl
        have q9 := kj 9 _ rfl
        have q10 := kj 10 _ rfl
        have q11 := kj 11 _ rfl
        have q12 := kj 12 _ rfl
        have hc := LightFun_calls l[i] _ wr hE0
        clear k0 kj hcl hE0
        cases hv : funB l[i]
        all_goals
          rw [hv] at hc
          have HC := Lib.hid hc
          have HV := Lib.hid hv
          clear hc hv
          go_wp2_with (go_at_call 31; refine HC.out.mono ?_; clear HC; rintro e w1 ⟨rfl, hb⟩)
        · go_ret
          exact ⟨ret_bool (hrel.no hlt HV.out).symm, bl_then hrel.below hb⟩
        · exact ⟨⟨i + 1, by go_num, hrel.next hlt HV.out hb⟩, by simp [intOf]; omega⟩
      · have hy := hrel.yes hlt
        rw [Nat.not_lt] at hlt
        go_wp2_with fail
        go_ret
        exact ⟨ret_bool hy.symm, hrel.below⟩
end Go.Proofs.YtbmmdfehhhgkcaaGreat
