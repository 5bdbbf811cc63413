/- The contract of amanuensisref05.add. -/
import Derived.Test.YtolpbnkkmkjejaaO2
namespace Go.Proofs.Ytolpbnkkmkjejaa
open Go.RowKit Go.Shelf
set_option linter.unusedVariables false
set_option linter.unusedSimpArgs false

structure AddRel (w : World) (xs : List Int) (n : Int) (v : Value) (d : Bool) (i : Nat) (wr : World) : Prop where
  le : i ≤ xs.length
  below : Below w.heap.size w wr
  out : ∃ o, MineI w.heap.size wr v o ∧ o.length ≤ i + 1 ∧ (d = false → o.length ≤ i) ∧ addL xs n = addGo n d o (xs.drop i)
theorem addGo_at {n : Int} {d : Bool} {o xs : List Int} {i : Nat} (hlt : i < xs.length) :
    addGo n d o (xs.drop i) = addGo n (d || decide (n ≤ xs[i])) (if xs[i] = n then (if !d && decide (n ≤ xs[i]) then o ++ [n] else o) else (if !d && decide (n ≤ xs[i]) then o ++ [n] else o) ++ [xs[i]]) (xs.drop (i + 1)) := by
  rw [List.drop_eq_getElem_cons hlt, addGo]

set_option maxHeartbeats 4000000 in
theorem add_calls (xs : List Int) (A : Option Addr) (c : Nat) (n : Int) (w : World) (hr : RdI (fun _ => False) w A xs) (hl : xs.length + 2 ≤ limI) :
    Calls Try.prog 43 #[.slice A xs.length c, .int .i64 n] w fun e w' => (∃ B c', e = .returned (.slice B (addL xs n).length c') ∧ (addL xs n).length ≤ c' ∧ RdI (fun _ => False) w' B (addL xs n)) ∧ Below w.heap.size w w' := by
  have hlen := hr.1
  unfold limI at hlen
  go_enter Try.func43, Try.ntmps43
  go_wp2_with fail
  have hrel0 : AddRel w xs n (.slice none 0 0) false 0 w := ⟨Nat.zero_le _, Below.refl _ _, [], MineI.nil _ _, by simp, by simp, rfl⟩
  have hrel1 := Lib.hid hrel0
  clear hrel0
  go_loopw [5, 6, 7] (fun v x j wr => ∃ (i : Nat) (d : Bool), j = .int .i64 i ∧ x = .bool d ∧ AddRel w xs n v d i wr) (fun _ _ j _ => xs.length - (intOf j).toNat)
  case atStart => exact ⟨0, false, rfl, rfl, hrel1.out⟩
  case round =>
    clear hrel1
    obtain ⟨i, d, rfl, rfl, hrel⟩ := hrel
    obtain ⟨o, hmine, ho1, ho2, hfl⟩ := hrel.out
    have hbw := hrel.below
    have hml := hmine.lt
    have hmg := hmine.ge
    by_cases hlt : i < xs.length
    · obtain ⟨ad, rfl, -, c0⟩ := (hr.mov hbw).2 i hlt
      rw [addGo_at hlt] at hfl
      have HFL := Lib.hid hfl
      clear hfl hrel
      cases d
      · have ho3 := ho2 rfl
        clear ho2
        cases hge : decide (n ≤ xs[i])
        · cases hne : (xs[i] != n)
          · have q := of_decide_eq_false hge
            simp at hne
            omega
          · skip
            go_wp2_with (at_builtin; refine append_int rfl _ _ rfl w.heap.size u5 o xs[i] rfl rfl (by simp) hmine ?bb ?ll ?_
                         case bb => exact hbw.size
                         case ll => (unfold limI at *; omega)
                         intro v1 w1 hm1 hg1 _
                         have c0' : w1.cell? (ad.add i) = some (.int .i64 xs[i]) := by
                           obtain ⟨ad', e, -, c1⟩ := (hr.mov (bl_grown hbw hg1 (fun k e => hmg k e))).2 i hlt
                           cases e
                           exact c1)
            refine ⟨⟨i + 1, false, by go_num, rfl, hlt, bl_grown hbw hg1 (fun k e => hmg k e), o ++ [xs[i]], hm1, by simp; omega, by simp; try omega, ?_⟩, by simp [intOf]; omega⟩
            rw [HFL.out]
            simp [hge, (show xs[i] ≠ n by simpa using hne)]
        · cases hne : (xs[i] != n)
          · skip
            go_wp2_with (at_builtin; refine append_int rfl _ _ rfl w.heap.size u5 o n rfl rfl (by simp) hmine ?bb ?ll ?_
                         case bb => exact hbw.size
                         case ll => (unfold limI at *; omega)
                         intro v1 w1 hm1 hg1 _
                         have c0' : w1.cell? (ad.add i) = some (.int .i64 xs[i]) := by
                           obtain ⟨ad', e, -, c1⟩ := (hr.mov (bl_grown hbw hg1 (fun k e => hmg k e))).2 i hlt
                           cases e
                           exact c1)
            refine ⟨⟨i + 1, true, by go_num, rfl, hlt, bl_grown hbw hg1 (fun k e => hmg k e), o ++ [n], hm1, by simp; omega, by simp; try omega, ?_⟩, by simp [intOf]; omega⟩
            rw [HFL.out]
            simp [hge, (show xs[i] = n by simpa using hne)]
          · go_wp2_with (first
              | (at_builtin; refine append_int rfl _ _ rfl w.heap.size u5 o n rfl rfl (by simp) hmine ?bb ?ll ?_
                 case bb => exact hbw.size
                 case ll => (unfold limI at *; omega)
                 intro v1 w1 hm1 hg1 _
                 have hb1 := bl_grown hbw hg1 (fun k e => hmg k e)
                 have hmg1 := hm1.ge
                 have c0' : w1.cell? (ad.add i) = some (.int .i64 xs[i]) := by
                   obtain ⟨ad', e, -, c1⟩ := (hr.mov hb1).2 i hlt
                   cases e
                   exact c1)
              | (at_builtin; refine append_int rfl _ _ rfl w.heap.size v1 (o ++ [n]) xs[i] rfl rfl (by simp) hm1 ?bb ?ll ?_
                 case bb => exact hb1.size
                 case ll => (simp; unfold limI at *; omega)
                 intro v2 w2 hm2 hg2 _))
            refine ⟨⟨i + 1, true, by go_num, rfl, hlt, bl_grown hb1 hg2 (fun k e => hmg1 k e), o ++ [n] ++ [xs[i]], hm2, by simp; omega, by simp, ?_⟩, by simp [intOf]; omega⟩
            rw [HFL.out]
            simp [hge, (show xs[i] ≠ n by simpa using hne)]
      · cases hne : (xs[i] != n)
        · go_wp2_with fail
          refine ⟨⟨i + 1, true, by go_num, rfl, hlt, hbw, o, hmine, by omega, by simp, ?_⟩, by simp [intOf]; omega⟩
          rw [HFL.out]
          simp [(show xs[i] = n by simpa using hne)]
        · skip
          go_wp2_with (at_builtin; refine append_int rfl _ _ rfl w.heap.size u5 o xs[i] rfl rfl (by simp) hmine ?bb ?ll ?_
                       case bb => exact hbw.size
                       case ll => (unfold limI at *; omega)
                       intro v1 w1 hm1 hg1 _
                       have c0' : w1.cell? (ad.add i) = some (.int .i64 xs[i]) := by
                         obtain ⟨ad', e, -, c1⟩ := (hr.mov (bl_grown hbw hg1 (fun k e => hmg k e))).2 i hlt
                         cases e
                         exact c1)
          refine ⟨⟨i + 1, true, by go_num, rfl, hlt, bl_grown hbw hg1 (fun k e => hmg k e), o ++ [xs[i]], hm1, by simp; omega, by simp; try omega, ?_⟩, by simp [intOf]; omega⟩
          rw [HFL.out]
          simp [(show xs[i] ≠ n by simpa using hne)]
    · obtain rfl : i = xs.length := by have := hrel.le; omega
      rw [List.drop_length, addGo] at hfl
      have HFL := Lib.hid hfl
      clear hfl hrel
      cases d
      · have ho3 := ho2 rfl
        clear ho2
        go_wp2_with (at_builtin; refine append_int rfl _ _ rfl w.heap.size u5 o n rfl rfl (by simp) hmine ?bb ?ll ?_
                     case bb => exact hbw.size
                     case ll => (unfold limI at *; omega)
                     intro v1 w1 hm1 hg1 _
                     obtain ⟨B, c', rfl, hc', hrd⟩ := hm1.reads (by simp; unfold limI at *; omega))
        go_ret
        have e : addL xs n = o ++ [n] := HFL.out
        rw [e]
        exact ⟨⟨B, c', by simp, hc', hrd⟩, bl_grown hbw hg1 (fun k e => hmg k e)⟩
      · obtain ⟨B, c', rfl, hc', hrd⟩ := hmine.reads (by unfold limI at *; omega)
        go_wp2_with fail
        go_ret
        have e : addL xs n = o := HFL.out
        rw [e]
        exact ⟨⟨B, c', rfl, hc', hrd⟩, hbw⟩
end Go.Proofs.Ytolpbnkkmkjejaa
