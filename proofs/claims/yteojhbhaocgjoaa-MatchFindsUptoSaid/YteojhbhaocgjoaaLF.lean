/- The contracts of Lights, Few, lightCall, LightClause, LightFun, LightFuns. -/
import Derived.Test.YteojhbhaocgjoaaDT
import Derived.Test.YteojhbhaocgjoaaF3
namespace Go.Proofs.Yteojhbhaocgjoaa
open Go.RowKit Go.Shelf

/-- An element's cells. -/
theorem Row.at {α : Type} {E : (Nat → Prop) → World → List Value → α → Prop} {sz : Nat} {S : Nat → Prop} {w : World} {A : Option Addr} {xs : List α} (h : Row E sz S w A xs) {i : Nat} (hi : i < xs.length) :
    ∃ (ad : Addr) (cs : List Value), A = some ad ∧ ¬ S ad.block ∧ cs.length = sz ∧ (∀ u, cs[0]? = some u → w.cell? (ad.add (i * sz)) = some u) ∧ (∀ j u, cs[j]? = some u → w.cell? ⟨(ad.add (i * sz)).block, (ad.add (i * sz)).off + j, none⟩ = some u) ∧ E S w cs xs[i] := by
  obtain ⟨⟨b, o, sp⟩, cs, h1, h2, h3, h4, h5, h6⟩ := h.2 i hi
  dsimp only at h2
  subst h2
  refine ⟨⟨b, o, none⟩, cs, h1, h3, h4, fun u hu => ?_, fun j u hu => ?_, h6⟩
  · rw [add_plain]; exact h5 0 u hu
  · rw [add_plain]; rw [Nat.add_assoc]; exact h5 j u hu

/-- What a loop that asks one after the other keeps. -/
structure AllRel {α : Type} (p : α → Bool) (xs : List α) (w : World) (i : Nat) (wr : World) : Prop where
  le : i ≤ xs.length
  below : Below w.heap.size w wr
  rest : xs.all p = (xs.drop i).all p
theorem AllRel.zero {α : Type} (p : α → Bool) (xs : List α) {w wr : World} (h : Below w.heap.size w wr) : AllRel p xs w 0 wr := ⟨Nat.zero_le _, h, rfl⟩
theorem AllRel.next {α : Type} {p : α → Bool} {xs : List α} {w wr w1 : World} {i : Nat} (h : AllRel p xs w i wr) (hi : i < xs.length) (hp : p xs[i] = true) (hb : Below wr.heap.size wr w1) : AllRel p xs w (i + 1) w1 :=
  ⟨hi, bl_then h.below hb, by rw [h.rest, List.drop_eq_getElem_cons hi, List.all_cons, hp, Bool.true_and]⟩
theorem AllRel.no {α : Type} {p : α → Bool} {xs : List α} {w wr : World} {i : Nat} (h : AllRel p xs w i wr) (hi : i < xs.length) (hp : p xs[i] = false) : xs.all p = false := by
  rw [h.rest, List.drop_eq_getElem_cons hi, List.all_cons, hp, Bool.false_and]
theorem AllRel.yes {α : Type} {p : α → Bool} {xs : List α} {w wr : World} {i : Nat} (h : AllRel p xs w i wr) (hi : ¬ i < xs.length) : xs.all p = true := by
  rw [h.rest, List.drop_eq_nil_of_le (by omega)]; rfl

def lightsB (l : List Tm) (s d : Int) : Bool := decide (l.length ≤ 60) && l.all fun t => lightB t s d

set_option maxHeartbeats 2000000 in
theorem Lights_calls (l : List Tm) (A : Option Addr) (c : Nat) (s d : Int) (w : World) (hr : Reads (fun _ => False) w A l) :
    Calls Try.prog 19 #[.slice A l.length c, .int .i64 s, .int .i64 d] w fun e w' => e = .returned (.bool (lightsB l s d)) ∧ Below w.heap.size w w' := by
  have hlen := hr.len
  unfold lim at hlen
  rcases Nat.lt_or_ge 60 l.length with h60 | h60
  · have e : lightsB l s d = false := by unfold lightsB; rw [decide_eq_false (by omega)]; rfl
    rw [e]
    clear e
    go_enter Try.func19, Try.ntmps19
    go_wp2_with fail
    go_ret
    exact ⟨rfl, Below.refl _ _⟩
  · have e : lightsB l s d = l.all fun t => lightB t s d := by unfold lightsB; rw [decide_eq_true h60]; rfl
    rw [e]
    clear e
    go_enter Try.func19, Try.ntmps19
    go_wp2_with fail
    go_loopw [7, 8] (fun j _ wr => ∃ i : Nat, j = .int .i64 i ∧ AllRel (fun t => lightB t s d) l w i wr) (fun j _ _ => l.length - (intOf j).toNat)
    case atStart => exact ⟨0, rfl, .zero _ _ (Below.refl _ _)⟩
    case round =>
      obtain ⟨i, rfl, hrel⟩ := hrel
      by_cases hlt : i < l.length
      · obtain ⟨ad, B, d', rfl, -, c0, c1, c2, hd, hsub⟩ := (hr.mov hrel.below).at hlt
        have hc := Light_calls l[i] B d' s d wr hsub hd
        cases hv : lightB l[i] s d
        all_goals
          rw [hv] at hc
          have HC := Lib.hid hc
          have HV := Lib.hid hv
          clear hc hv
          go_wp2_with (go_at_call 9; refine HC.out.mono ?_; clear HC; rintro e w1 ⟨rfl, hb⟩)
        · go_ret
          exact ⟨ret_bool (hrel.no hlt HV.out).symm, bl_then hrel.below hb⟩
        · exact ⟨⟨i + 1, by go_num, hrel.next hlt HV.out hb⟩, by simp [intOf]; omega⟩
      · have hy := hrel.yes hlt
        rw [Nat.not_lt] at hlt
        go_wp2_with fail
        go_ret
        exact ⟨ret_bool hy.symm, hrel.below⟩

def metaB (m : Md) : Bool := lightsB m.ctx 500 80 && lightB m.t 500 80
def metasB (l : List Md) : Bool := decide (l.length ≤ 30) && l.all metaB
theorem lights_nil : lightsB [] 500 80 = true := rfl

def callB (c : Cl) : Bool := lightsB c.ext 300 60 && (lightsB c.th 300 60 && lightB c.arg 300 60)

def clauseB (x : Cs) : Bool := metasB x.ms && (lightsB x.th 300 60 && (lightB x.p 300 60 && (lightB x.r 300 60 && (decide (x.cs.length ≤ 50) && x.cs.all callB))))

def funB (x : Fu) : Bool := metasB x.del && (lightsB x.sch 300 60 && (lightsB x.psi 300 60 && (lightsB x.phi 300 60 && (lightB x.a 300 60 && (lightB x.b 300 60 && (decide (x.cl.length ≤ 50) && x.cl.all clauseB))))))

def funsB (l : List Fu) : Bool := decide (l.length ≤ 20) && l.all funB

end Go.Proofs.Yteojhbhaocgjoaa
