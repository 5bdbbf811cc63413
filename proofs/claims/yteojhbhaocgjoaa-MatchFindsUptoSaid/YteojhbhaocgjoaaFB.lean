/- The contracts of amanuensislaw07.Few, amanuensisref07.Same (of lists that are one) and amanuensisref07.Told. -/
import Derived.Test.YteojhbhaocgjoaaBD
import Derived.Test.YteojhbhaocgjoaaLF
import Derived.Test.YteojhbhaocgjoaaI6
namespace Go.Proofs.Yteojhbhaocgjoaa
open Go.RowKit Go.Shelf
set_option linter.unusedVariables false
set_option linter.unusedSimpArgs false

def few7B (bs : List Bd) : Bool := decide (bs.length ≤ 60) && bs.all fun x => lightB x.t 2000 80
set_option maxRecDepth 100000 in
set_option maxHeartbeats 2000000 in
theorem Few7_calls (bs : List Bd) (A : Option Addr) (c : Nat) (w : World) (hr : RowB (fun _ => False) w A bs) :
    Calls Try.prog 14 #[.slice A bs.length c] w fun e w' => e = .returned (.bool (few7B bs)) ∧ Below w.heap.size w w' := by
  have hlen := hr.1
  unfold lim at hlen
  rcases Nat.lt_or_ge 60 bs.length with h60 | h60
  · have e : few7B bs = false := by unfold few7B; rw [decide_eq_false (by omega)]; rfl
    rw [e]
    clear e
    go_enter Try.func14, Try.ntmps14
    go_wp2_with fail
    go_ret
    exact ⟨rfl, Below.refl _ _⟩
  · have e : few7B bs = bs.all fun x => lightB x.t 2000 80 := by unfold few7B; rw [decide_eq_true h60]; rfl
    rw [e]
    clear e
    go_enter Try.func14, Try.ntmps14
    go_wp2_with fail
    go_loopw [3, 4] (fun j _ wr => ∃ i : Nat, j = .int .i64 i ∧ AllRel (fun x : Bd => lightB x.t 2000 80) bs w i wr) (fun j _ _ => bs.length - (intOf j).toNat)
    case atStart => exact ⟨0, rfl, .zero _ _ (Below.refl _ _)⟩
    case round =>
      obtain ⟨i, rfl, hrel⟩ := hrel
      by_cases hlt : i < bs.length
      · obtain ⟨ad, B, d', rfl, c0, c1, c2, c3, hd, hsub⟩ := (hr.mov hrel.below).2 i hlt
        have hc := Light_calls bs[i].t B d' 2000 80 wr hsub hd
        cases hv : lightB bs[i].t 2000 80
        all_goals
          rw [hv] at hc
          have HC := Lib.hid hc
          have HV := Lib.hid hv
          clear hc hv
          go_wp2_with (go_at_call 9; refine HC.out.mono ?_; clear HC; rintro e w1 ⟨rfl, hb⟩)
        · go_ret
          exact ⟨ret_bool (hrel.no hlt HV.out).symm, bl_then hrel.below hb⟩
        · exact ⟨⟨i + 1, by go_num, hrel.next hlt HV.out hb⟩, by simp [intOf]; omega⟩
      · have hy := hrel.yes hlt
        rw [Nat.not_lt] at hlt
        go_wp2_with fail
        go_ret
        exact ⟨ret_bool hy.symm, hrel.below⟩

theorem bl_drewNb7 {a w : World} (h : Below a.heap.size a w) (n : Nat) : Below a.heap.size a (w.drewN n) := ⟨h.os, h.tape, h.output, h.size, h.block⟩
set_option maxRecDepth 100000 in
set_option maxHeartbeats 4000000 in
/-- Lists that are one. -/
theorem SameBd_calls (bs : List Bd) (A : Option Addr) (c : Nat) (A2 : Option Addr) (c2 : Nat) (w : World) (hr : RowB (fun _ => False) w A bs) (hr2 : RowB (fun _ => False) w A2 bs) :
    Calls Try.prog 15 #[.slice A bs.length c, .slice A2 bs.length c2] w fun e w' => e = .returned (.bool true) ∧ Below w.heap.size w w' := by
  have hlen := hr.1
  unfold lim at hlen
  go_enter Try.func15, Try.ntmps15
  go_wp2_with fail
  go_loopw [5, 6] (fun j _ wr => ∃ i : Nat, j = .int .i64 i ∧ i ≤ bs.length ∧ Below w.heap.size w wr) (fun j _ _ => bs.length - (intOf j).toNat)
  case atStart => exact ⟨0, rfl, Nat.zero_le _, Below.refl _ _⟩
  case round =>
    obtain ⟨i, rfl, hle, hbw⟩ := hrel
    by_cases hlt : i < bs.length
    · obtain ⟨ad, B, d, rfl, c0, c1, c2, c3, hd, hsub⟩ := (hr.mov hbw).2 i hlt
      obtain ⟨ad2, B2, d2, rfl, k0, k1, k2, k3, hd2, hsub2⟩ := (hr2.mov hbw).2 i hlt
      have HC := Lib.hid (fun (W : World) (hb : Below wr.heap.size wr W) => SameR_calls bs[i].t bs[i].t B d B2 d2 W (hsub.mov hb) hd (hsub2.mov hb) hd2)
      rw [sameB_refl] at HC
      have HCE : Hid (∀ W, Below wr.heap.size wr W → W.cell? (ad.add (i * 4)) = some (.bool bs[i].is) ∧ W.cell? (ad2.add (i * 4)) = some (.bool bs[i].is)) := Lib.hid (fun W hb => ⟨cell_mov c0 hb, cell_mov k0 hb⟩)
      have hi0 : (0 : Int) ≤ (i : Int) := by omega
      have hi1 : (i : Int) < (bs.length : Int) := by omega
      obtain ⟨bi, hbi⟩ : ∃ b, bs[i].is = b := ⟨_, rfl⟩
      rw [hbi] at HCE
      clear hsub hsub2 hbi c0 k0
      go_upto_region 6 with fail
      go_still_tail 10, (by kernel_rfl)
      go_wp2_with (go_at_call 35; refine (HC.out _ (Below.refl _ _).drew).mono ?_; clear HC; rintro e w1 ⟨rfl, hb1'⟩; have hb1 := bl_undrew hb1'; obtain ⟨c0, k0⟩ := HCE.out _ hb1; have hbw1 := bl_then hbw hb1)
      cases bi
      all_goals
        go_quiet (fail)
        go_wp2_with fail
        exact ⟨⟨i + 1, by go_num, hlt, bl_drewNb7 hbw1 _⟩, by simp [intOf]; omega⟩
    · go_wp2_with fail
      go_ret
      exact ⟨rfl, hbw⟩

structure TdRel (S : Nat → Prop) (bs : List Bd) (w : World) (i : Nat) (v : Value) (wr : World) : Prop where
  le : i ≤ bs.length
  below : Below w.heap.size w wr
  out : Mine w.heap.size S wr v (toldV (bs.take i))
theorem told_snoc {bs : List Bd} {i : Nat} (hi : i < bs.length) : toldV (bs.take i) ++ [toldT bs[i]] = toldV (bs.take (i + 1)) := by
  unfold toldV
  rw [List.take_add_one, List.map_append, List.getElem?_eq_getElem hi]
  rfl

set_option maxRecDepth 100000 in
set_option maxHeartbeats 8000000 in
theorem ToldR_calls (S : Nat → Prop) (bs : List Bd) (A : Option Addr) (c : Nat) (w : World) (hS : ∀ k, S k → k < w.heap.size) (hr : RowB S w A bs) :
    Calls Try.prog 18 #[.slice A bs.length c] w fun e w' => Below w.heap.size w w' ∧ ∃ B d, e = .returned (.slice B bs.length d) ∧ bs.length ≤ d ∧ Reads S w' B (toldV bs) := by
  have HSS := Lib.hid hS
  have hlen := hr.1
  unfold lim at hlen
  have hrel0 : TdRel S bs w 0 (.slice none 0 0) w := ⟨Nat.zero_le _, Below.refl _ _, by simpa [toldV] using Mine.nil w.heap.size S w⟩
  have hrel1 := Lib.hid hrel0
  clear hrel0
  go_enter Try.func18, Try.ntmps18
  go_wp2_with fail
  go_loopw [3, 4] (fun v j wr => ∃ i : Nat, j = .int .i64 i ∧ TdRel S bs w i v wr) (fun _ j _ => bs.length - (intOf j).toNat)
  case atStart => exact ⟨0, rfl, hrel1.out⟩
  case round =>
    clear hrel1
    obtain ⟨i, rfl, hrel⟩ := hrel
    have hmine := hrel.out
    have hbw := hrel.below
    by_cases hlt : i < bs.length
    · have hml := hmine.lt
      have hmg := hmine.ge
      obtain ⟨ad, B, d, rfl, c0, c1, c2, c3, hd, hsub⟩ := (hr.step (S' := fun k => S k ∨ u3.ownBlock = some k) (fun k hk hn q => q.elim hn (fun q => by have := hmg k q; omega)) hbw).2 i hlt
      have hi0 : (0 : Int) ≤ (i : Int) := by omega
      have hi1 : (i : Int) < (bs.length : Int) := by omega
      have htk : (toldV (bs.take i)).length = i := by rw [toldV_len]; simp; omega
      have HTK := Lib.hid htk
      have HSN := Lib.hid (told_snoc hlt)
      obtain ⟨bi, hbi⟩ : ∃ b, bs[i].is = b := ⟨_, rfl⟩
      rw [hbi] at c0
      have HBI := Lib.hid hbi
      clear hrel htk hbi
      cases bi
      · go_wp2_with (at_builtin; go_must (refine append_tm rfl _ _ rfl w.heap.size S u3 (toldV (bs.take i)) ⟨0, 0, []⟩ none 0 rfl rfl (by simp) hmine (.nil _) (Nat.le_refl _) (fun k q => Nat.lt_of_lt_of_le (HSS.out k q) hbw.size) hbw.size (by rw [HTK.out]; unfold lim; omega) ?_); intro v1 w1 hm1 hg1)
        have e : (⟨0, 0, []⟩ : Tm) = toldT bs[i] := by unfold toldT; rw [HBI.out]; rfl
        rw [e, HSN.out] at hm1
        exact ⟨⟨i + 1, by go_num, hlt, bl_grown hbw hg1 (fun k e => hmg k e), hm1⟩, by simp [intOf]; omega⟩
      · go_wp2_with (at_builtin; go_must (refine append_tm rfl _ _ rfl w.heap.size S u3 (toldV (bs.take i)) bs[i].t B d rfl rfl (by simp) hmine hsub hd (fun k q => Nat.lt_of_lt_of_le (HSS.out k q) hbw.size) hbw.size (by rw [HTK.out]; unfold lim; omega) ?_); intro v1 w1 hm1 hg1)
        have e : bs[i].t = toldT bs[i] := by unfold toldT; rw [HBI.out]; rfl
        rw [e, HSN.out] at hm1
        exact ⟨⟨i + 1, by go_num, hlt, bl_grown hbw hg1 (fun k e => hmg k e), hm1⟩, by simp [intOf]; omega⟩
    · obtain rfl : i = bs.length := by have := hrel.le; omega
      rw [List.take_length] at hmine
      obtain ⟨B, d, rfl, hd2, hrd⟩ := hmine.reads
      rw [toldV_len] at hd2 ⊢
      go_wp2_with fail
      go_ret
      exact ⟨hbw, B, d, rfl, hd2, hrd⟩
end Go.Proofs.Yteojhbhaocgjoaa
