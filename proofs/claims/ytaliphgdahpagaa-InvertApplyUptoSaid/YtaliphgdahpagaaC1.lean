/- The contract of shift.each at terms. -/
import Derived.Test.YtaliphgdahpagaaRT
namespace Go.Proofs.Ytaliphgdahpagaa
open Go.RowKit Go.Shelf

/-- What comes back: a row of terms and true, or nil and false. -/
def RetL (S : Nat → Prop) (r : Option (List Tm)) (w : World) (e : Ending) (w' : World) : Prop :=
  Below w.heap.size w w' ∧ ((r = none ∧ e = .returned (.tuple #[.slice none 0 0, .bool false])) ∨
    ∃ us B c, r = some us ∧ e = .returned (.tuple #[.slice B us.length c, .bool true]) ∧ us.length ≤ c ∧ Reads S w' B us)

def eachF (F : Nat → Tm → Option Tm) : Nat → List Tm → Option (List Tm)
  | _, [] => some []
  | i, t :: l => (F i t).bind fun u => (eachF F (i + 1) l).map fun l' => u :: l'
theorem eachF_at {F : Nat → Tm → Option Tm} {ts : List Tm} {i : Nat} (hlt : i < ts.length) :
    eachF F i (ts.drop i) = (F i ts[i]).bind fun u => (eachF F (i + 1) (ts.drop (i + 1))).map fun l' => u :: l' := by
  rw [List.drop_eq_getElem_cons hlt, eachF]

/-- A function value that makes a term of each of these. -/
def Does (w : World) (kr : Nat) (first cap : Array Value) (F : Nat → Tm → Option Tm) (ts : List Tm) : Prop :=
  ∀ (i : Nat) (hi : i < ts.length) (S : Nat → Prop) (B : Option Addr) (d : Nat) (W : World), (∀ k, S k → k < W.heap.size) → Below w.heap.size w W → Reads S W B ts[i].a → ts[i].a.length ≤ d →
    Calls Try.prog kr (first ++ (#[.int .i64 i, .agg #[.int .i64 ts[i].k, .int .i64 ts[i].h, .slice B ts[i].a.length d]] ++ cap)) W (RetT S (F i ts[i]) W)

structure EachRel (S : Nat → Prop) (F : Nat → Tm → Option Tm) (ts : List Tm) (w : World) (i : Nat) (v : Value) (wr : World) : Prop where
  le : i ≤ ts.length
  below : Below w.heap.size w wr
  out : ∃ ys, Mine w.heap.size S wr v ys ∧ ys.length = i ∧ eachF F 0 ts = (eachF F i (ts.drop i)).map fun l => ys ++ l

set_option maxHeartbeats 4000000 in
theorem each_calls (kr : Nat) (eg : ∀ args w, (callFunc kr args).run Try.prog w = .ok (.enter kr args) w) (first cap : Array Value) (F : Nat → Tm → Option Tm) (S : Nat → Prop) (ts : List Tm) (A : Option Addr) (c : Nat) (w : World)
    (hS : ∀ k, S k → k < w.heap.size) (hd : Does w kr first cap F ts) (hr : Reads S w A ts) :
    Calls Try.prog 44 #[.slice A ts.length c, .func (.func kr) first cap] w (RetL S (eachF F 0 ts) w) := by
  have hlen := hr.len
  unfold lim at hlen
  have HD := Lib.hid hd
  have HSS := Lib.hid hS
  clear hd hS
  go_enter Try.func44, Try.ntmps44
  go_wp2_with fail
  have hrel0 : EachRel S F ts w 0 (.slice none 0 0) w := ⟨Nat.zero_le _, Below.refl _ _, [], Mine.nil _ _ _, rfl, by simp⟩
  have hrel1 := Lib.hid hrel0
  clear hrel0
  go_loopw [6, 13] (fun v j wr => ∃ i : Nat, j = .int .i64 i ∧ EachRel S F ts w i v wr) (fun _ j _ => ts.length - (intOf j).toNat)
  case atStart => exact ⟨0, rfl, hrel1.out⟩
  case round =>
    clear hrel1
    obtain ⟨i, rfl, hrel⟩ := hrel
    obtain ⟨ys, hmine, hys, hfl⟩ := hrel.out
    have hbw := hrel.below
    by_cases hlt : i < ts.length
    · have hml := hmine.lt
      have hmg := hmine.ge
      have hS' : ∀ k, (S k ∨ u6.ownBlock = some k) → k < wr.heap.size := by
        rintro k (q | q)
        · have := HSS.out k q; have := hbw.size; omega
        · exact hml k q
      have hr' : Reads (fun k => S k ∨ u6.ownBlock = some k) wr A ts := hr.step (by
        rintro k hk hn (q | q)
        · exact hn q
        · have := hmg k q; omega) (fun k hk _ => hbw.block k hk)
      obtain ⟨ad, B, d, rfl, -, c0, c1, c2, hd, hsub⟩ := hr'.at hlt
      rw [eachF_at hlt] at hfl
      have hcall := HD.out i hlt (fun k => S k ∨ u6.ownBlock = some k) B d (wr.alloc (.cells #[.int .i64 ts[i].k, .int .i64 ts[i].h, .slice B ts[i].a.length d] 24)) (fun k q => Nat.lt_of_lt_of_le (hS' k q) (bl_alloc (Below.refl _ _) _).size) (bl_alloc hbw _) (hsub.mov (bl_alloc (Below.refl _ _) _)) hd
      have HC := Lib.hid hcall
      have HFL := Lib.hid hfl
      have HS' := Lib.hid hS'
      have HYS := Lib.hid hys
      generalize F i ts[i] = fv at *
      clear hcall hfl hS' hys hrel
      go_wp2_with (first
        | (refine HC.out.mono ?_; clear HC; rintro e w3 ⟨hb3, (⟨rfl, rfl⟩ | ⟨u, B3, c3, rfl, rfl, hc3, hr3⟩)⟩)
        | (at_builtin; refine append_tm rfl _ _ rfl w.heap.size S u6 ys u B3 c3 rfl rfl (by simp) (((hmine.mov (bl_alloc (Below.refl _ _) _)).mov hb3).mov (bl_alloc (Below.refl _ _) _)) (hr3.mov (bl_alloc (Below.refl _ _) _)) hc3 ?ss ?bb ?ll ?_
           case ss => exact fun k q => Nat.lt_of_lt_of_le (HS'.out k (.inl q)) (Nat.le_trans (bl_alloc (Below.refl _ _) _).size (Nat.le_trans hb3.size (bl_alloc (Below.refl _ _) _).size))
           case bb => exact Nat.le_trans hbw.size (Nat.le_trans (bl_alloc (Below.refl _ _) _).size (Nat.le_trans hb3.size (bl_alloc (Below.refl _ _) _).size))
           case ll => (rw [HYS.out]; unfold lim; omega)
           intro v1 w1 hm1 hg1))
      · go_ret2
        refine ⟨bl_alloc (bl_then (bl_alloc hbw _) hb3) _, .inl ⟨?_, rfl⟩⟩
        rw [HFL.out]
        rfl
      · refine ⟨⟨i + 1, by go_num, hlt, bl_grown (bl_alloc (bl_then (bl_alloc hbw _) hb3) _) hg1 (fun k e => hmg k e), ys ++ [u], hm1, by rw [List.length_append, HYS.out]; rfl, ?_⟩, by simp [intOf]; omega⟩
        rw [HFL.out]
        simp [Function.comp_def]
    · obtain rfl : i = ts.length := by have := hrel.le; omega
      obtain ⟨B, d, rfl, hd2, hrd⟩ := hmine.reads
      have HFL := Lib.hid hfl
      clear hfl hrel
      go_wp2_with fail
      go_ret2
      refine ⟨hbw, .inr ⟨ys, B, d, ?_, rfl, hd2, hrd⟩⟩
      rw [HFL.out]
      simp [eachF]
end Go.Proofs.Ytaliphgdahpagaa
