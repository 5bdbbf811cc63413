/- The contract of invert.renamed. -/
import Derived.Test.YtbmmdfehhhgkcaaGreatB
namespace Go.Proofs.YtbmmdfehhhgkcaaGreat
open Go.RowKit Go.Shelf

/-- A function value that renames. -/
def Renames (w : World) (kr : Nat) (first cap : Array Value) (rn : Int → Option Int) : Prop :=
  ∀ (i : Int) (W : World), Below w.heap.size w W → Calls Tryz.prog kr (first.push (.int .i64 i) ++ cap) W fun e W' =>
    (∃ j b, e = .returned (.tuple #[.int .i64 j, .bool b]) ∧ rn i = if b = true then some j else none) ∧ Below W.heap.size W W'

def headR (rn : Int → Option Int) (k h n : Int) : Option Int := if k = 4 ∧ n ≤ h then (rn (wrap64 (h - n))).map fun i => wrap64 (i + n) else some h
mutual
def renW (rn : Int → Option Int) : Tm → Int → Option Tm
  | ⟨k, h, a⟩, n => (headR rn k h n).bind fun h' => (renL rn (isB k) a n).map fun l => ⟨k, h', l⟩
def renL (rn : Int → Option Int) : Bool → List Tm → Int → Option (List Tm)
  | _, [], _ => some []
  | b, t :: l, n => (renW rn t (lastN b l n)).bind fun t' => (renL rn b l n).map fun l' => t' :: l'
end

structure RenRel (S : Nat → Prop) (rn : Int → Option Int) (k h h' n : Int) (A : Option Addr) (ts : List Tm) (c : Nat) (w : World) (i : Nat) (wr : World) : Prop where
  le : i ≤ ts.length
  below : Below w.heap.size w wr
  b0 : Blk wr w.heap.size #[.int .i64 k, .int .i64 h, .slice A ts.length c] 25
  b1 : Blk wr (w.heap.size + 1) #[.int .i64 0, .int .i64 0, .slice none 0 0] 25
  out : ∃ v ys, Blk wr (w.heap.size + 1 + 1) #[.int .i64 k, .int .i64 h', v] 25 ∧ Mine w.heap.size (S3 S w.heap.size) wr v ys ∧ ys.length = i ∧
    renL rn (isB k) ts n = (renL rn (isB k) (ts.drop i) n).map fun l => ys ++ l

theorem Renames.mov {w W : World} {kr : Nat} {first cap : Array Value} {rn : Int → Option Int} (h : Renames w kr first cap rn) (hb : Below w.heap.size w W) : Renames W kr first cap rn :=
  fun i W2 h2 => h i W2 (bl_then hb h2)
theorem renL_at {rn : Int → Option Int} {b : Bool} {ts : List Tm} {n : Int} {i : Nat} (hlt : i < ts.length) :
    renL rn b (ts.drop i) n = (renW rn ts[i] (lastN b (ts.drop (i + 1)) n)).bind fun t' => (renL rn b (ts.drop (i + 1)) n).map fun l' => t' :: l' := by
  rw [List.drop_eq_getElem_cons hlt, renL]
set_option maxHeartbeats 8000000 in
theorem renamed_calls (kr : Nat) (eg : ∀ args w, (callFunc kr args).run Tryz.prog w = .ok (.enter kr args) w) (first cap : Array Value) (rn : Int → Option Int) (t : Tm) :
    ∀ (S : Nat → Prop) (A : Option Addr) (c : Nat) (n : Int) (w : World), (∀ k, S k → k < w.heap.size) → Renames w kr first cap rn → Reads S w A t.a → t.a.length ≤ c →
    Calls Tryz.prog 99 #[.agg #[.int .i64 t.k, .int .i64 t.h, .slice A t.a.length c], .int .i64 n, .func (.func kr) first cap] w (RetT S (renW rn t n) w) := by
  induction t using Tm.ind with
  | h t ih =>
  intro S A c n w hS hrn hr hc
  obtain ⟨kk, hh, ts⟩ := t
  dsimp only at hr hc ih ⊢
  have hlen := hr.len
  unfold lim at hlen
  have IH := Lib.hid ih
  have HRN := Lib.hid hrn
  have HSS := Lib.hid hS
  clear ih hrn hS
  have hb0 : Below w.heap.size w (((w.alloc (.cells #[.int .i64 kk, .int .i64 hh, .slice A ts.length c] 25)).alloc (.cells #[.int .i64 0, .int .i64 0, .slice none 0 0] 25)).alloc (.cells #[.int .i64 kk, .int .i64 hh, .slice none 0 0] 25)) := bl_alloc (bl_alloc (bl_alloc (Below.refl _ _) _) _) _
  have e0 := ((Blk.new w #[.int .i64 kk, .int .i64 hh, .slice A ts.length c] 25).mov (bl_alloc (Below.refl _ _) (.cells #[.int .i64 0, .int .i64 0, .slice none 0 0] 25))).mov (bl_alloc (Below.refl _ _) (.cells #[.int .i64 kk, .int .i64 hh, .slice none 0 0] 25))
  have e1 := (Blk.new (w.alloc (.cells #[.int .i64 kk, .int .i64 hh, .slice A ts.length c] 25)) #[.int .i64 0, .int .i64 0, .slice none 0 0] 25).mov (bl_alloc (Below.refl _ _) (.cells #[.int .i64 kk, .int .i64 hh, .slice none 0 0] 25))
  have e2 := Blk.new ((w.alloc (.cells #[.int .i64 kk, .int .i64 hh, .slice A ts.length c] 25)).alloc (.cells #[.int .i64 0, .int .i64 0, .slice none 0 0] 25)) #[.int .i64 kk, .int .i64 hh, .slice none 0 0] 25
  simp only [World.size_alloc] at e1 e2
  have HB0 := Lib.hid hb0
  have E0 := Lib.hid e0
  have E1 := Lib.hid e1
  have E2 := Lib.hid e2
  clear hb0 e0 e1 e2
  cases h4 : (kk == 4)
  · have hhead : headR rn kk hh n = some hh := if_neg (fun q => by simp [q.1] at h4)
    have HH := Lib.hid hhead
    clear hhead
    go_enter Tryz.func99, Tryz.ntmps99
    go_wp2_with fail
    obtain ⟨h', hh'⟩ : ∃ h', hh = h' := ⟨_, rfl⟩
    have HH2 : Hid (headR rn kk hh n = some h') := Lib.hid (hh' ▸ HH.out)
    have hrel0 : RenRel S rn kk hh h' n A ts c w 0 (((w.alloc (.cells #[.int .i64 kk, .int .i64 hh, .slice A ts.length c] 25)).alloc (.cells #[.int .i64 0, .int .i64 0, .slice none 0 0] 25)).alloc (.cells #[.int .i64 kk, .int .i64 hh, .slice none 0 0] 25)) :=
      ⟨Nat.zero_le _, HB0.out, E0.out, E1.out, .slice none 0 0, [], hh' ▸ E2.out, Mine.nil _ _ _, rfl, by simp⟩
    clear HH HB0 E0 E1 E2
    have hrel1 := Lib.hid hrel0
    clear hrel0 hh'
    go_loopw [49] (fun v wr => ∃ i : Nat, v = .int .i64 i ∧ RenRel S rn kk hh h' n A ts c w i wr) (fun v _ => ts.length - (intOf v).toNat)
    case atStart => exact ⟨0, rfl, hrel1.out⟩
    case round =>
      clear hrel1
      obtain ⟨i, rfl, hrel⟩ := hrel
      obtain ⟨v, ys, hbo, hmine, hys, hren⟩ := hrel.out
      have hb1 := hrel.b0
      have hb2 := hrel.b1
      have hbw := hrel.below
      by_cases hlt : i < ts.length
      · have hbl := hbo.lt
        have hbl0 := hb1.lt
        have hml := hmine.lt
        have hmg := hmine.ge
        have hS' : ∀ k, (S3 S w.heap.size k ∨ v.ownBlock = some k) → k < wr.heap.size := by
          rintro k ((q | q) | q)
          · have := HSS.out k q; have := hbw.size; omega
          · omega
          · exact hml k q
        have hr' : Reads (fun k => S3 S w.heap.size k ∨ v.ownBlock = some k) wr A ts := hr.step (by
          rintro k hk hn ((q | q) | q)
          · exact hn q
          · omega
          · have := hmg k q; omega) (fun k hk _ => hbw.block k hk)
        obtain ⟨ad, B, d, rfl, -, c0, c1, c2, hd, hsub⟩ := hr'.at hlt
        have HS3 : Hid (∀ k, S3 S w.heap.size k → k < wr.heap.size) := fun k q => hS' k (.inl q)
        have hnn := lastN_tst (kk := kk) (n := n) hlt
        have hren2 := hren
        rw [renL_at hlt] at hren2
        have HI : Hid (∀ W : World, Below wr.heap.size wr W → Calls Tryz.prog 99 #[.agg #[.int .i64 ts[i].k, .int .i64 ts[i].h, .slice B ts[i].a.length d], .int .i64 (lastN (isB kk) (ts.drop (i + 1)) n), .func (.func kr) first cap] W
            (RetT (fun k => S3 S w.heap.size k ∨ v.ownBlock = some k) (renW rn ts[i] (lastN (isB kk) (ts.drop (i + 1)) n)) W)) :=
          fun W hb => IH.out ts[i] (List.getElem_mem hlt) _ B d _ W (fun k q => Nat.lt_of_lt_of_le (hS' k q) hb.size) (HRN.out.mov (bl_then hbw hb)) (hsub.mov hb) hd
        have hbx : Below wr.heap.size wr (wr.alloc (.cells #[.int .i64 ts[i].k, .int .i64 ts[i].h, .slice B ts[i].a.length d] 25)) := bl_alloc (Below.refl _ _) _
        have HBX := Lib.hid hbx
        have HR2 := Lib.hid hren2
        have HYS := Lib.hid hys
        have HRR := Lib.hid hrel
        have q0 := hb1.cell 0
        have q1 := hb1.cell 1
        have q2 := hb1.cell 2
        generalize lastN (isB kk) (ts.drop (i + 1)) n = nn at *
        generalize renW rn ts[i] nn = rv at *
        clear hbx hren hren2 hys hrel hml hmg hS' hr'
        obtain ⟨k1, hk1⟩ : ∃ b, (kk == 1) = b := ⟨_, rfl⟩
        obtain ⟨k3, hk3⟩ : ∃ b, (kk == 3) = b := ⟨_, rfl⟩
        obtain ⟨tst, htst⟩ : ∃ b, ((i : Int) == (ts.length : Int) - 1) = b := ⟨_, rfl⟩
        rw [hk1, hk3, htst] at hnn
        rcases k1 with _ | _
        · rcases k3 with _ | _
          · simp only [Bool.or_self, Bool.false_and, Bool.false_eq_true, if_false] at hnn
            subst hnn
            have hz0 := hb2.lt
            go_wp2_with (first
              | (go_at_call 99; refine (HI.out _ HBX.out).mono ?_; clear HI; rintro e w3 ⟨hb3, hor⟩; have hw3 := bl_then HBX.out hb3; have z := hb2.mov hw3; have z0 := z.cell 0; have z1 := z.cell 1; have z2 := z.cell 2; have y0 := z.frozen 0; have y1 := z.frozen 1; have y2 := z.frozen 2; have zl := z.lt; have x := hbo.mov hw3; have x2 := x.cell 2; have xl := x.lt; have HZ := Lib.hid z; clear z x hb3; rcases hor with (⟨rfl, rfl⟩ | ⟨u, B3, c3, rfl, rfl, hc3, hr3⟩))
              | (at_builtin; refine append_tm rfl _ _ rfl w.heap.size (S3 S w.heap.size) v ys u B3 c3 rfl rfl (by simp) ((hmine.mov hw3).mov (bl_alloc (Below.refl _ _) _)) (hr3.mov (bl_alloc (Below.refl _ _) _)) hc3 ?ss ?bb ?ll ?_
                 case ss => exact fun k q => Nat.lt_of_lt_of_le (HS3.out k q) (Nat.le_trans hw3.size (bl_alloc (Below.refl _ _) _).size)
                 case bb => exact Nat.le_trans hbw.size (Nat.le_trans hw3.size (bl_alloc (Below.refl _ _) _).size)
                 case ll => (rw [HYS.out]; unfold lim; omega)
                 intro v1 w1 hm1 hg1
                 obtain ⟨A1, c1, rfl⟩ := hm1.slice
                 rw [show (ys ++ [u]).length = ys.length + 1 from by simp] at hm1
                 have o1 := ((hbo.mov hw3).mov (bl_alloc (Below.refl _ _) (.cells #[.int .i64 u.k, .int .i64 u.h, .slice B3 u.a.length c3] 25))).grown hg1 (fun e => hmine.2.1 _ e.symm (.inr ⟨by omega, by omega⟩))
                 have o2 := o1.cell 2
                 have of := o1.frozen 2
                 have HO := Lib.hid o1
                 clear o1))
            · have hb4 := (HZ.out.set3 (.int .i64 0) (.int .i64 0) (.slice none 0 0)).mov (bl_alloc (Below.refl _ _) (.cells #[.int .i64 0, .int .i64 0, .slice none 0 0] 25))
              refine bodyPost_ret (res_tm rfl _ _ _ _ _ _ rfl hb4) rfl ⟨bl_alloc (bl_set3 (bl_then hbw hw3) (Nat.le_succ _)) _, .inl ⟨?_, rfl⟩⟩
              rw [renW, HH2.out, Option.bind_some, HR2.out]
              rfl
            · have hbz := bl_grown (bl_alloc (bl_then hbw hw3) (.cells #[.int .i64 u.k, .int .i64 u.h, .slice B3 u.a.length c3] 25)) hg1 (fun k e => hmine.ge k e)
              refine ⟨⟨i + 1, by go_num, hlt, bl_set hbz (p := ⟨w.heap.size + 1 + 1, 2, none⟩) (by show w.heap.size ≤ w.heap.size + 1 + 1; omega) _, ?_, ?_, _, _, HO.out.set 2 _, hm1.set (p := ⟨w.heap.size + 1 + 1, 2, none⟩) (.inr ⟨by show w.heap.size ≤ w.heap.size + 1 + 1; omega, by show w.heap.size + 1 + 1 ≤ w.heap.size + 2; omega⟩) _, by rw [List.length_append, HYS.out]; rfl, ?_⟩, by simp [intOf]; omega⟩
              · exact (((hb1.mov hw3).mov (bl_alloc (Below.refl _ _) _)).grown hg1 (fun e => hmine.2.1 _ e.symm (.inr ⟨by omega, by omega⟩))).far (by show w.heap.size ≠ w.heap.size + 1 + 1; omega) _
              · exact (((hb2.mov hw3).mov (bl_alloc (Below.refl _ _) _)).grown hg1 (fun e => hmine.2.1 _ e.symm (.inr ⟨by omega, by omega⟩))).far (by show w.heap.size + 1 ≠ w.heap.size + 1 + 1; omega) _
              · rw [HR2.out]
                simp [Function.comp_def]
          · first
            | (exfalso; have qa := beq_iff_eq.1 h4; have qb := beq_iff_eq.1 hk3; omega)
            | (rcases tst with _ | _
               · simp only [Bool.or_true, Bool.and_false, Bool.false_eq_true, if_false] at hnn
                 subst hnn
                 have hz0 := hb2.lt
                 go_wp2_with (first
                   | (go_at_call 99; refine (HI.out _ HBX.out).mono ?_; clear HI; rintro e w3 ⟨hb3, hor⟩; have hw3 := bl_then HBX.out hb3; have z := hb2.mov hw3; have z0 := z.cell 0; have z1 := z.cell 1; have z2 := z.cell 2; have y0 := z.frozen 0; have y1 := z.frozen 1; have y2 := z.frozen 2; have zl := z.lt; have x := hbo.mov hw3; have x2 := x.cell 2; have xl := x.lt; have HZ := Lib.hid z; clear z x hb3; rcases hor with (⟨rfl, rfl⟩ | ⟨u, B3, c3, rfl, rfl, hc3, hr3⟩))
                   | (at_builtin; refine append_tm rfl _ _ rfl w.heap.size (S3 S w.heap.size) v ys u B3 c3 rfl rfl (by simp) ((hmine.mov hw3).mov (bl_alloc (Below.refl _ _) _)) (hr3.mov (bl_alloc (Below.refl _ _) _)) hc3 ?ss ?bb ?ll ?_
                      case ss => exact fun k q => Nat.lt_of_lt_of_le (HS3.out k q) (Nat.le_trans hw3.size (bl_alloc (Below.refl _ _) _).size)
                      case bb => exact Nat.le_trans hbw.size (Nat.le_trans hw3.size (bl_alloc (Below.refl _ _) _).size)
                      case ll => (rw [HYS.out]; unfold lim; omega)
                      intro v1 w1 hm1 hg1
                      obtain ⟨A1, c1, rfl⟩ := hm1.slice
                      rw [show (ys ++ [u]).length = ys.length + 1 from by simp] at hm1
                      have o1 := ((hbo.mov hw3).mov (bl_alloc (Below.refl _ _) (.cells #[.int .i64 u.k, .int .i64 u.h, .slice B3 u.a.length c3] 25))).grown hg1 (fun e => hmine.2.1 _ e.symm (.inr ⟨by omega, by omega⟩))
                      have o2 := o1.cell 2
                      have of := o1.frozen 2
                      have HO := Lib.hid o1
                      clear o1))
                 · have hb4 := (HZ.out.set3 (.int .i64 0) (.int .i64 0) (.slice none 0 0)).mov (bl_alloc (Below.refl _ _) (.cells #[.int .i64 0, .int .i64 0, .slice none 0 0] 25))
                   refine bodyPost_ret (res_tm rfl _ _ _ _ _ _ rfl hb4) rfl ⟨bl_alloc (bl_set3 (bl_then hbw hw3) (Nat.le_succ _)) _, .inl ⟨?_, rfl⟩⟩
                   rw [renW, HH2.out, Option.bind_some, HR2.out]
                   rfl
                 · have hbz := bl_grown (bl_alloc (bl_then hbw hw3) (.cells #[.int .i64 u.k, .int .i64 u.h, .slice B3 u.a.length c3] 25)) hg1 (fun k e => hmine.ge k e)
                   refine ⟨⟨i + 1, by go_num, hlt, bl_set hbz (p := ⟨w.heap.size + 1 + 1, 2, none⟩) (by show w.heap.size ≤ w.heap.size + 1 + 1; omega) _, ?_, ?_, _, _, HO.out.set 2 _, hm1.set (p := ⟨w.heap.size + 1 + 1, 2, none⟩) (.inr ⟨by show w.heap.size ≤ w.heap.size + 1 + 1; omega, by show w.heap.size + 1 + 1 ≤ w.heap.size + 2; omega⟩) _, by rw [List.length_append, HYS.out]; rfl, ?_⟩, by simp [intOf]; omega⟩
                   · exact (((hb1.mov hw3).mov (bl_alloc (Below.refl _ _) _)).grown hg1 (fun e => hmine.2.1 _ e.symm (.inr ⟨by omega, by omega⟩))).far (by show w.heap.size ≠ w.heap.size + 1 + 1; omega) _
                   · exact (((hb2.mov hw3).mov (bl_alloc (Below.refl _ _) _)).grown hg1 (fun e => hmine.2.1 _ e.symm (.inr ⟨by omega, by omega⟩))).far (by show w.heap.size + 1 ≠ w.heap.size + 1 + 1; omega) _
                   · rw [HR2.out]
                     simp [Function.comp_def]
               · simp only [Bool.or_true, Bool.and_self, if_true] at hnn
                 subst hnn
                 have hz0 := hb2.lt
                 go_wp2_with (first
                   | (go_at_call 99; refine (HI.out _ HBX.out).mono ?_; clear HI; rintro e w3 ⟨hb3, hor⟩; have hw3 := bl_then HBX.out hb3; have z := hb2.mov hw3; have z0 := z.cell 0; have z1 := z.cell 1; have z2 := z.cell 2; have y0 := z.frozen 0; have y1 := z.frozen 1; have y2 := z.frozen 2; have zl := z.lt; have x := hbo.mov hw3; have x2 := x.cell 2; have xl := x.lt; have HZ := Lib.hid z; clear z x hb3; rcases hor with (⟨rfl, rfl⟩ | ⟨u, B3, c3, rfl, rfl, hc3, hr3⟩))
                   | (at_builtin; refine append_tm rfl _ _ rfl w.heap.size (S3 S w.heap.size) v ys u B3 c3 rfl rfl (by simp) ((hmine.mov hw3).mov (bl_alloc (Below.refl _ _) _)) (hr3.mov (bl_alloc (Below.refl _ _) _)) hc3 ?ss ?bb ?ll ?_
                      case ss => exact fun k q => Nat.lt_of_lt_of_le (HS3.out k q) (Nat.le_trans hw3.size (bl_alloc (Below.refl _ _) _).size)
                      case bb => exact Nat.le_trans hbw.size (Nat.le_trans hw3.size (bl_alloc (Below.refl _ _) _).size)
                      case ll => (rw [HYS.out]; unfold lim; omega)
                      intro v1 w1 hm1 hg1
                      obtain ⟨A1, c1, rfl⟩ := hm1.slice
                      rw [show (ys ++ [u]).length = ys.length + 1 from by simp] at hm1
                      have o1 := ((hbo.mov hw3).mov (bl_alloc (Below.refl _ _) (.cells #[.int .i64 u.k, .int .i64 u.h, .slice B3 u.a.length c3] 25))).grown hg1 (fun e => hmine.2.1 _ e.symm (.inr ⟨by omega, by omega⟩))
                      have o2 := o1.cell 2
                      have of := o1.frozen 2
                      have HO := Lib.hid o1
                      clear o1))
                 · have hb4 := (HZ.out.set3 (.int .i64 0) (.int .i64 0) (.slice none 0 0)).mov (bl_alloc (Below.refl _ _) (.cells #[.int .i64 0, .int .i64 0, .slice none 0 0] 25))
                   refine bodyPost_ret (res_tm rfl _ _ _ _ _ _ rfl hb4) rfl ⟨bl_alloc (bl_set3 (bl_then hbw hw3) (Nat.le_succ _)) _, .inl ⟨?_, rfl⟩⟩
                   rw [renW, HH2.out, Option.bind_some, HR2.out]
                   rfl
                 · have hbz := bl_grown (bl_alloc (bl_then hbw hw3) (.cells #[.int .i64 u.k, .int .i64 u.h, .slice B3 u.a.length c3] 25)) hg1 (fun k e => hmine.ge k e)
                   refine ⟨⟨i + 1, by go_num, hlt, bl_set hbz (p := ⟨w.heap.size + 1 + 1, 2, none⟩) (by show w.heap.size ≤ w.heap.size + 1 + 1; omega) _, ?_, ?_, _, _, HO.out.set 2 _, hm1.set (p := ⟨w.heap.size + 1 + 1, 2, none⟩) (.inr ⟨by show w.heap.size ≤ w.heap.size + 1 + 1; omega, by show w.heap.size + 1 + 1 ≤ w.heap.size + 2; omega⟩) _, by rw [List.length_append, HYS.out]; rfl, ?_⟩, by simp [intOf]; omega⟩
                   · exact (((hb1.mov hw3).mov (bl_alloc (Below.refl _ _) _)).grown hg1 (fun e => hmine.2.1 _ e.symm (.inr ⟨by omega, by omega⟩))).far (by show w.heap.size ≠ w.heap.size + 1 + 1; omega) _
                   · exact (((hb2.mov hw3).mov (bl_alloc (Below.refl _ _) _)).grown hg1 (fun e => hmine.2.1 _ e.symm (.inr ⟨by omega, by omega⟩))).far (by show w.heap.size + 1 ≠ w.heap.size + 1 + 1; omega) _
                   · rw [HR2.out]
                     simp [Function.comp_def])
        · first
          | (exfalso; have qa := beq_iff_eq.1 h4; have qb := beq_iff_eq.1 hk1; omega)
          | (clear hk3
             rcases tst with _ | _
             · simp only [Bool.and_false, Bool.false_eq_true, if_false] at hnn
               subst hnn
               have hz0 := hb2.lt
               go_wp2_with (first
                 | (go_at_call 99; refine (HI.out _ HBX.out).mono ?_; clear HI; rintro e w3 ⟨hb3, hor⟩; have hw3 := bl_then HBX.out hb3; have z := hb2.mov hw3; have z0 := z.cell 0; have z1 := z.cell 1; have z2 := z.cell 2; have y0 := z.frozen 0; have y1 := z.frozen 1; have y2 := z.frozen 2; have zl := z.lt; have x := hbo.mov hw3; have x2 := x.cell 2; have xl := x.lt; have HZ := Lib.hid z; clear z x hb3; rcases hor with (⟨rfl, rfl⟩ | ⟨u, B3, c3, rfl, rfl, hc3, hr3⟩))
                 | (at_builtin; refine append_tm rfl _ _ rfl w.heap.size (S3 S w.heap.size) v ys u B3 c3 rfl rfl (by simp) ((hmine.mov hw3).mov (bl_alloc (Below.refl _ _) _)) (hr3.mov (bl_alloc (Below.refl _ _) _)) hc3 ?ss ?bb ?ll ?_
                    case ss => exact fun k q => Nat.lt_of_lt_of_le (HS3.out k q) (Nat.le_trans hw3.size (bl_alloc (Below.refl _ _) _).size)
                    case bb => exact Nat.le_trans hbw.size (Nat.le_trans hw3.size (bl_alloc (Below.refl _ _) _).size)
                    case ll => (rw [HYS.out]; unfold lim; omega)
                    intro v1 w1 hm1 hg1
                    obtain ⟨A1, c1, rfl⟩ := hm1.slice
                    rw [show (ys ++ [u]).length = ys.length + 1 from by simp] at hm1
                    have o1 := ((hbo.mov hw3).mov (bl_alloc (Below.refl _ _) (.cells #[.int .i64 u.k, .int .i64 u.h, .slice B3 u.a.length c3] 25))).grown hg1 (fun e => hmine.2.1 _ e.symm (.inr ⟨by omega, by omega⟩))
                    have o2 := o1.cell 2
                    have of := o1.frozen 2
                    have HO := Lib.hid o1
                    clear o1))
               · have hb4 := (HZ.out.set3 (.int .i64 0) (.int .i64 0) (.slice none 0 0)).mov (bl_alloc (Below.refl _ _) (.cells #[.int .i64 0, .int .i64 0, .slice none 0 0] 25))
                 refine bodyPost_ret (res_tm rfl _ _ _ _ _ _ rfl hb4) rfl ⟨bl_alloc (bl_set3 (bl_then hbw hw3) (Nat.le_succ _)) _, .inl ⟨?_, rfl⟩⟩
                 rw [renW, HH2.out, Option.bind_some, HR2.out]
                 rfl
               · have hbz := bl_grown (bl_alloc (bl_then hbw hw3) (.cells #[.int .i64 u.k, .int .i64 u.h, .slice B3 u.a.length c3] 25)) hg1 (fun k e => hmine.ge k e)
                 refine ⟨⟨i + 1, by go_num, hlt, bl_set hbz (p := ⟨w.heap.size + 1 + 1, 2, none⟩) (by show w.heap.size ≤ w.heap.size + 1 + 1; omega) _, ?_, ?_, _, _, HO.out.set 2 _, hm1.set (p := ⟨w.heap.size + 1 + 1, 2, none⟩) (.inr ⟨by show w.heap.size ≤ w.heap.size + 1 + 1; omega, by show w.heap.size + 1 + 1 ≤ w.heap.size + 2; omega⟩) _, by rw [List.length_append, HYS.out]; rfl, ?_⟩, by simp [intOf]; omega⟩
                 · exact (((hb1.mov hw3).mov (bl_alloc (Below.refl _ _) _)).grown hg1 (fun e => hmine.2.1 _ e.symm (.inr ⟨by omega, by omega⟩))).far (by show w.heap.size ≠ w.heap.size + 1 + 1; omega) _
                 · exact (((hb2.mov hw3).mov (bl_alloc (Below.refl _ _) _)).grown hg1 (fun e => hmine.2.1 _ e.symm (.inr ⟨by omega, by omega⟩))).far (by show w.heap.size + 1 ≠ w.heap.size + 1 + 1; omega) _
                 · rw [HR2.out]
                   simp [Function.comp_def]
             · simp only [Bool.true_or, Bool.and_self, if_true] at hnn
               subst hnn
               have hz0 := hb2.lt
               go_wp2_with (first
                 | (go_at_call 99; refine (HI.out _ HBX.out).mono ?_; clear HI; rintro e w3 ⟨hb3, hor⟩; have hw3 := bl_then HBX.out hb3; have z := hb2.mov hw3; have z0 := z.cell 0; have z1 := z.cell 1; have z2 := z.cell 2; have y0 := z.frozen 0; have y1 := z.frozen 1; have y2 := z.frozen 2; have zl := z.lt; have x := hbo.mov hw3; have x2 := x.cell 2; have xl := x.lt; have HZ := Lib.hid z; clear z x hb3; rcases hor with (⟨rfl, rfl⟩ | ⟨u, B3, c3, rfl, rfl, hc3, hr3⟩))
                 | (at_builtin; refine append_tm rfl _ _ rfl w.heap.size (S3 S w.heap.size) v ys u B3 c3 rfl rfl (by simp) ((hmine.mov hw3).mov (bl_alloc (Below.refl _ _) _)) (hr3.mov (bl_alloc (Below.refl _ _) _)) hc3 ?ss ?bb ?ll ?_
                    case ss => exact fun k q => Nat.lt_of_lt_of_le (HS3.out k q) (Nat.le_trans hw3.size (bl_alloc (Below.refl _ _) _).size)
                    case bb => exact Nat.le_trans hbw.size (Nat.le_trans hw3.size (bl_alloc (Below.refl _ _) _).size)
                    case ll => (rw [HYS.out]; unfold lim; omega)
                    intro v1 w1 hm1 hg1
                    obtain ⟨A1, c1, rfl⟩ := hm1.slice
                    rw [show (ys ++ [u]).length = ys.length + 1 from by simp] at hm1
                    have o1 := ((hbo.mov hw3).mov (bl_alloc (Below.refl _ _) (.cells #[.int .i64 u.k, .int .i64 u.h, .slice B3 u.a.length c3] 25))).grown hg1 (fun e => hmine.2.1 _ e.symm (.inr ⟨by omega, by omega⟩))
                    have o2 := o1.cell 2
                    have of := o1.frozen 2
                    have HO := Lib.hid o1
                    clear o1))
               · have hb4 := (HZ.out.set3 (.int .i64 0) (.int .i64 0) (.slice none 0 0)).mov (bl_alloc (Below.refl _ _) (.cells #[.int .i64 0, .int .i64 0, .slice none 0 0] 25))
                 refine bodyPost_ret (res_tm rfl _ _ _ _ _ _ rfl hb4) rfl ⟨bl_alloc (bl_set3 (bl_then hbw hw3) (Nat.le_succ _)) _, .inl ⟨?_, rfl⟩⟩
                 rw [renW, HH2.out, Option.bind_some, HR2.out]
                 rfl
               · have hbz := bl_grown (bl_alloc (bl_then hbw hw3) (.cells #[.int .i64 u.k, .int .i64 u.h, .slice B3 u.a.length c3] 25)) hg1 (fun k e => hmine.ge k e)
                 refine ⟨⟨i + 1, by go_num, hlt, bl_set hbz (p := ⟨w.heap.size + 1 + 1, 2, none⟩) (by show w.heap.size ≤ w.heap.size + 1 + 1; omega) _, ?_, ?_, _, _, HO.out.set 2 _, hm1.set (p := ⟨w.heap.size + 1 + 1, 2, none⟩) (.inr ⟨by show w.heap.size ≤ w.heap.size + 1 + 1; omega, by show w.heap.size + 1 + 1 ≤ w.heap.size + 2; omega⟩) _, by rw [List.length_append, HYS.out]; rfl, ?_⟩, by simp [intOf]; omega⟩
                 · exact (((hb1.mov hw3).mov (bl_alloc (Below.refl _ _) _)).grown hg1 (fun e => hmine.2.1 _ e.symm (.inr ⟨by omega, by omega⟩))).far (by show w.heap.size ≠ w.heap.size + 1 + 1; omega) _
                 · exact (((hb2.mov hw3).mov (bl_alloc (Below.refl _ _) _)).grown hg1 (fun e => hmine.2.1 _ e.symm (.inr ⟨by omega, by omega⟩))).far (by show w.heap.size + 1 ≠ w.heap.size + 1 + 1; omega) _
                 · rw [HR2.out]
                   simp [Function.comp_def])
      · have hi := hrel.le
        obtain rfl : i = ts.length := by omega
        obtain ⟨A2, c2, rfl, hc2, hrd⟩ := hmine.reads
        have q0 := hbo.cell 0
        have q1 := hbo.cell 1
        have q2 := hbo.cell 2
        have p0 := hb2.cell 0
        have p1 := hb2.cell 1
        have p2 := hb2.cell 2
        have pf := hb2.frozen
        have HREN := Lib.hid hren
        have HYS := Lib.hid hys
        clear hren hys hrel
        go_wp2
        have hb3 := hb2.set3 (.int .i64 kk) (.int .i64 h') (.slice A2 ys.length c2)
        refine bodyPost_ret (res_tm rfl _ _ _ _ _ _ rfl hb3) rfl ⟨bl_set3 hbw (Nat.le_succ _), .inr ⟨⟨kk, h', ys⟩, A2, c2, ?_, rfl, hc2, ?_⟩⟩
        · rw [renW, HH2.out, Option.bind_some, HREN.out]
          simp [renL]
        · have hs : ∀ j, S3 S w.heap.size ((⟨w.heap.size + 1, j, none⟩ : Addr).block) := fun j => .inr ⟨by simp, by simp⟩
          obtain ⟨A3, c3, e3, _, h3⟩ := (((hmine.set (hs 0) (.int .i64 kk)).set (hs 1) (.int .i64 h')).set (hs 2) (.slice A2 ys.length c2)).reads
          injection e3 with e3 _ _
          subst e3
          exact h3.less (fun k q => .inl q)
  · cases hge : decide (n ≤ hh)
    · have hhead : headR rn kk hh n = some hh := if_neg (fun q => by have := of_decide_eq_false hge; exact this q.2)
      have HH := Lib.hid hhead
      clear hhead
      go_enter Tryz.func99, Tryz.ntmps99
      go_wp2_with fail
      obtain ⟨h', hh'⟩ : ∃ h', hh = h' := ⟨_, rfl⟩
      have HH2 : Hid (headR rn kk hh n = some h') := Lib.hid (hh' ▸ HH.out)
      have hrel0 : RenRel S rn kk hh h' n A ts c w 0 (((w.alloc (.cells #[.int .i64 kk, .int .i64 hh, .slice A ts.length c] 25)).alloc (.cells #[.int .i64 0, .int .i64 0, .slice none 0 0] 25)).alloc (.cells #[.int .i64 kk, .int .i64 hh, .slice none 0 0] 25)) :=
        ⟨Nat.zero_le _, HB0.out, E0.out, E1.out, .slice none 0 0, [], hh' ▸ E2.out, Mine.nil _ _ _, rfl, by simp⟩
      clear HH HB0 E0 E1 E2
      have hrel1 := Lib.hid hrel0
      clear hrel0 hh'
      go_loopw [49] (fun v wr => ∃ i : Nat, v = .int .i64 i ∧ RenRel S rn kk hh h' n A ts c w i wr) (fun v _ => ts.length - (intOf v).toNat)
      case atStart => exact ⟨0, rfl, hrel1.out⟩
      case round =>
        clear hrel1
        obtain ⟨i, rfl, hrel⟩ := hrel
        obtain ⟨v, ys, hbo, hmine, hys, hren⟩ := hrel.out
        have hb1 := hrel.b0
        have hb2 := hrel.b1
        have hbw := hrel.below
        by_cases hlt : i < ts.length
        · have hbl := hbo.lt
          have hbl0 := hb1.lt
          have hml := hmine.lt
          have hmg := hmine.ge
          have hS' : ∀ k, (S3 S w.heap.size k ∨ v.ownBlock = some k) → k < wr.heap.size := by
            rintro k ((q | q) | q)
            · have := HSS.out k q; have := hbw.size; omega
            · omega
            · exact hml k q
          have hr' : Reads (fun k => S3 S w.heap.size k ∨ v.ownBlock = some k) wr A ts := hr.step (by
            rintro k hk hn ((q | q) | q)
            · exact hn q
            · omega
            · have := hmg k q; omega) (fun k hk _ => hbw.block k hk)
          obtain ⟨ad, B, d, rfl, -, c0, c1, c2, hd, hsub⟩ := hr'.at hlt
          have HS3 : Hid (∀ k, S3 S w.heap.size k → k < wr.heap.size) := fun k q => hS' k (.inl q)
          have hnn := lastN_tst (kk := kk) (n := n) hlt
          have hren2 := hren
          rw [renL_at hlt] at hren2
          have HI : Hid (∀ W : World, Below wr.heap.size wr W → Calls Tryz.prog 99 #[.agg #[.int .i64 ts[i].k, .int .i64 ts[i].h, .slice B ts[i].a.length d], .int .i64 (lastN (isB kk) (ts.drop (i + 1)) n), .func (.func kr) first cap] W
              (RetT (fun k => S3 S w.heap.size k ∨ v.ownBlock = some k) (renW rn ts[i] (lastN (isB kk) (ts.drop (i + 1)) n)) W)) :=
            fun W hb => IH.out ts[i] (List.getElem_mem hlt) _ B d _ W (fun k q => Nat.lt_of_lt_of_le (hS' k q) hb.size) (HRN.out.mov (bl_then hbw hb)) (hsub.mov hb) hd
          have hbx : Below wr.heap.size wr (wr.alloc (.cells #[.int .i64 ts[i].k, .int .i64 ts[i].h, .slice B ts[i].a.length d] 25)) := bl_alloc (Below.refl _ _) _
          have HBX := Lib.hid hbx
          have HR2 := Lib.hid hren2
          have HYS := Lib.hid hys
          have HRR := Lib.hid hrel
          have q0 := hb1.cell 0
          have q1 := hb1.cell 1
          have q2 := hb1.cell 2
          generalize lastN (isB kk) (ts.drop (i + 1)) n = nn at *
          generalize renW rn ts[i] nn = rv at *
          clear hbx hren hren2 hys hrel hml hmg hS' hr'
          obtain ⟨k1, hk1⟩ : ∃ b, (kk == 1) = b := ⟨_, rfl⟩
          obtain ⟨k3, hk3⟩ : ∃ b, (kk == 3) = b := ⟨_, rfl⟩
          obtain ⟨tst, htst⟩ : ∃ b, ((i : Int) == (ts.length : Int) - 1) = b := ⟨_, rfl⟩
          rw [hk1, hk3, htst] at hnn
          rcases k1 with _ | _
          · rcases k3 with _ | _
            · simp only [Bool.or_self, Bool.false_and, Bool.false_eq_true, if_false] at hnn
              subst hnn
              have hz0 := hb2.lt
              go_wp2_with (first
                | (go_at_call 99; refine (HI.out _ HBX.out).mono ?_; clear HI; rintro e w3 ⟨hb3, hor⟩; have hw3 := bl_then HBX.out hb3; have z := hb2.mov hw3; have z0 := z.cell 0; have z1 := z.cell 1; have z2 := z.cell 2; have y0 := z.frozen 0; have y1 := z.frozen 1; have y2 := z.frozen 2; have zl := z.lt; have x := hbo.mov hw3; have x2 := x.cell 2; have xl := x.lt; have HZ := Lib.hid z; clear z x hb3; rcases hor with (⟨rfl, rfl⟩ | ⟨u, B3, c3, rfl, rfl, hc3, hr3⟩))
                | (at_builtin; refine append_tm rfl _ _ rfl w.heap.size (S3 S w.heap.size) v ys u B3 c3 rfl rfl (by simp) ((hmine.mov hw3).mov (bl_alloc (Below.refl _ _) _)) (hr3.mov (bl_alloc (Below.refl _ _) _)) hc3 ?ss ?bb ?ll ?_
                   case ss => exact fun k q => Nat.lt_of_lt_of_le (HS3.out k q) (Nat.le_trans hw3.size (bl_alloc (Below.refl _ _) _).size)
                   case bb => exact Nat.le_trans hbw.size (Nat.le_trans hw3.size (bl_alloc (Below.refl _ _) _).size)
                   case ll => (rw [HYS.out]; unfold lim; omega)
                   intro v1 w1 hm1 hg1
                   obtain ⟨A1, c1, rfl⟩ := hm1.slice
                   rw [show (ys ++ [u]).length = ys.length + 1 from by simp] at hm1
                   have o1 := ((hbo.mov hw3).mov (bl_alloc (Below.refl _ _) (.cells #[.int .i64 u.k, .int .i64 u.h, .slice B3 u.a.length c3] 25))).grown hg1 (fun e => hmine.2.1 _ e.symm (.inr ⟨by omega, by omega⟩))
                   have o2 := o1.cell 2
                   have of := o1.frozen 2
                   have HO := Lib.hid o1
                   clear o1))
              · have hb4 := (HZ.out.set3 (.int .i64 0) (.int .i64 0) (.slice none 0 0)).mov (bl_alloc (Below.refl _ _) (.cells #[.int .i64 0, .int .i64 0, .slice none 0 0] 25))
                refine bodyPost_ret (res_tm rfl _ _ _ _ _ _ rfl hb4) rfl ⟨bl_alloc (bl_set3 (bl_then hbw hw3) (Nat.le_succ _)) _, .inl ⟨?_, rfl⟩⟩
                rw [renW, HH2.out, Option.bind_some, HR2.out]
                rfl
              · have hbz := bl_grown (bl_alloc (bl_then hbw hw3) (.cells #[.int .i64 u.k, .int .i64 u.h, .slice B3 u.a.length c3] 25)) hg1 (fun k e => hmine.ge k e)
                refine ⟨⟨i + 1, by go_num, hlt, bl_set hbz (p := ⟨w.heap.size + 1 + 1, 2, none⟩) (by show w.heap.size ≤ w.heap.size + 1 + 1; omega) _, ?_, ?_, _, _, HO.out.set 2 _, hm1.set (p := ⟨w.heap.size + 1 + 1, 2, none⟩) (.inr ⟨by show w.heap.size ≤ w.heap.size + 1 + 1; omega, by show w.heap.size + 1 + 1 ≤ w.heap.size + 2; omega⟩) _, by rw [List.length_append, HYS.out]; rfl, ?_⟩, by simp [intOf]; omega⟩
                · exact (((hb1.mov hw3).mov (bl_alloc (Below.refl _ _) _)).grown hg1 (fun e => hmine.2.1 _ e.symm (.inr ⟨by omega, by omega⟩))).far (by show w.heap.size ≠ w.heap.size + 1 + 1; omega) _
                · exact (((hb2.mov hw3).mov (bl_alloc (Below.refl _ _) _)).grown hg1 (fun e => hmine.2.1 _ e.symm (.inr ⟨by omega, by omega⟩))).far (by show w.heap.size + 1 ≠ w.heap.size + 1 + 1; omega) _
                · rw [HR2.out]
                  simp [Function.comp_def]
            · first
              | (exfalso; have qa := beq_iff_eq.1 h4; have qb := beq_iff_eq.1 hk3; omega)
              | (rcases tst with _ | _
                 · simp only [Bool.or_true, Bool.and_false, Bool.false_eq_true, if_false] at hnn
                   subst hnn
                   have hz0 := hb2.lt
                   go_wp2_with (first
                     | (go_at_call 99; refine (HI.out _ HBX.out).mono ?_; clear HI; rintro e w3 ⟨hb3, hor⟩; have hw3 := bl_then HBX.out hb3; have z := hb2.mov hw3; have z0 := z.cell 0; have z1 := z.cell 1; have z2 := z.cell 2; have y0 := z.frozen 0; have y1 := z.frozen 1; have y2 := z.frozen 2; have zl := z.lt; have x := hbo.mov hw3; have x2 := x.cell 2; have xl := x.lt; have HZ := Lib.hid z; clear z x hb3; rcases hor with (⟨rfl, rfl⟩ | ⟨u, B3, c3, rfl, rfl, hc3, hr3⟩))
                     | (at_builtin; refine append_tm rfl _ _ rfl w.heap.size (S3 S w.heap.size) v ys u B3 c3 rfl rfl (by simp) ((hmine.mov hw3).mov (bl_alloc (Below.refl _ _) _)) (hr3.mov (bl_alloc (Below.refl _ _) _)) hc3 ?ss ?bb ?ll ?_
                        case ss => exact fun k q => Nat.lt_of_lt_of_le (HS3.out k q) (Nat.le_trans hw3.size (bl_alloc (Below.refl _ _) _).size)
                        case bb => exact Nat.le_trans hbw.size (Nat.le_trans hw3.size (bl_alloc (Below.refl _ _) _).size)
                        case ll => (rw [HYS.out]; unfold lim; omega)
                        intro v1 w1 hm1 hg1
                        obtain ⟨A1, c1, rfl⟩ := hm1.slice
                        rw [show (ys ++ [u]).length = ys.length + 1 from by simp] at hm1
                        have o1 := ((hbo.mov hw3).mov (bl_alloc (Below.refl _ _) (.cells #[.int .i64 u.k, .int .i64 u.h, .slice B3 u.a.length c3] 25))).grown hg1 (fun e => hmine.2.1 _ e.symm (.inr ⟨by omega, by omega⟩))
                        have o2 := o1.cell 2
                        have of := o1.frozen 2
                        have HO := Lib.hid o1
                        clear o1))
                   · have hb4 := (HZ.out.set3 (.int .i64 0) (.int .i64 0) (.slice none 0 0)).mov (bl_alloc (Below.refl _ _) (.cells #[.int .i64 0, .int .i64 0, .slice none 0 0] 25))
                     refine bodyPost_ret (res_tm rfl _ _ _ _ _ _ rfl hb4) rfl ⟨bl_alloc (bl_set3 (bl_then hbw hw3) (Nat.le_succ _)) _, .inl ⟨?_, rfl⟩⟩
                     rw [renW, HH2.out, Option.bind_some, HR2.out]
                     rfl
                   · have hbz := bl_grown (bl_alloc (bl_then hbw hw3) (.cells #[.int .i64 u.k, .int .i64 u.h, .slice B3 u.a.length c3] 25)) hg1 (fun k e => hmine.ge k e)
                     refine ⟨⟨i + 1, by go_num, hlt, bl_set hbz (p := ⟨w.heap.size + 1 + 1, 2, none⟩) (by show w.heap.size ≤ w.heap.size + 1 + 1; omega) _, ?_, ?_, _, _, HO.out.set 2 _, hm1.set (p := ⟨w.heap.size + 1 + 1, 2, none⟩) (.inr ⟨by show w.heap.size ≤ w.heap.size + 1 + 1; omega, by show w.heap.size + 1 + 1 ≤ w.heap.size + 2; omega⟩) _, by rw [List.length_append, HYS.out]; rfl, ?_⟩, by simp [intOf]; omega⟩
                     · exact (((hb1.mov hw3).mov (bl_alloc (Below.refl _ _) _)).grown hg1 (fun e => hmine.2.1 _ e.symm (.inr ⟨by omega, by omega⟩))).far (by show w.heap.size ≠ w.heap.size + 1 + 1; omega) _
                     · exact (((hb2.mov hw3).mov (bl_alloc (Below.refl _ _) _)).grown hg1 (fun e => hmine.2.1 _ e.symm (.inr ⟨by omega, by omega⟩))).far (by show w.heap.size + 1 ≠ w.heap.size + 1 + 1; omega) _
                     · rw [HR2.out]
                       simp [Function.comp_def]
                 · simp only [Bool.or_true, Bool.and_self, if_true] at hnn
                   subst hnn
                   have hz0 := hb2.lt
                   go_wp2_with (first
                     | (go_at_call 99; refine (HI.out _ HBX.out).mono ?_; clear HI; rintro e w3 ⟨hb3, hor⟩; have hw3 := bl_then HBX.out hb3; have z := hb2.mov hw3; have z0 := z.cell 0; have z1 := z.cell 1; have z2 := z.cell 2; have y0 := z.frozen 0; have y1 := z.frozen 1; have y2 := z.frozen 2; have zl := z.lt; have x := hbo.mov hw3; have x2 := x.cell 2; have xl := x.lt; have HZ := Lib.hid z; clear z x hb3; rcases hor with (⟨rfl, rfl⟩ | ⟨u, B3, c3, rfl, rfl, hc3, hr3⟩))
                     | (at_builtin; refine append_tm rfl _ _ rfl w.heap.size (S3 S w.heap.size) v ys u B3 c3 rfl rfl (by simp) ((hmine.mov hw3).mov (bl_alloc (Below.refl _ _) _)) (hr3.mov (bl_alloc (Below.refl _ _) _)) hc3 ?ss ?bb ?ll ?_
                        case ss => exact fun k q => Nat.lt_of_lt_of_le (HS3.out k q) (Nat.le_trans hw3.size (bl_alloc (Below.refl _ _) _).size)
                        case bb => exact Nat.le_trans hbw.size (Nat.le_trans hw3.size (bl_alloc (Below.refl _ _) _).size)
                        case ll => (rw [HYS.out]; unfold lim; omega)
                        intro v1 w1 hm1 hg1
                        obtain ⟨A1, c1, rfl⟩ := hm1.slice
                        rw [show (ys ++ [u]).length = ys.length + 1 from by simp] at hm1
                        have o1 := ((hbo.mov hw3).mov (bl_alloc (Below.refl _ _) (.cells #[.int .i64 u.k, .int .i64 u.h, .slice B3 u.a.length c3] 25))).grown hg1 (fun e => hmine.2.1 _ e.symm (.inr ⟨by omega, by omega⟩))
                        have o2 := o1.cell 2
                        have of := o1.frozen 2
                        have HO := Lib.hid o1
                        clear o1))
                   · have hb4 := (HZ.out.set3 (.int .i64 0) (.int .i64 0) (.slice none 0 0)).mov (bl_alloc (Below.refl _ _) (.cells #[.int .i64 0, .int .i64 0, .slice none 0 0] 25))
                     refine bodyPost_ret (res_tm rfl _ _ _ _ _ _ rfl hb4) rfl ⟨bl_alloc (bl_set3 (bl_then hbw hw3) (Nat.le_succ _)) _, .inl ⟨?_, rfl⟩⟩
                     rw [renW, HH2.out, Option.bind_some, HR2.out]
                     rfl
                   · have hbz := bl_grown (bl_alloc (bl_then hbw hw3) (.cells #[.int .i64 u.k, .int .i64 u.h, .slice B3 u.a.length c3] 25)) hg1 (fun k e => hmine.ge k e)
                     refine ⟨⟨i + 1, by go_num, hlt, bl_set hbz (p := ⟨w.heap.size + 1 + 1, 2, none⟩) (by show w.heap.size ≤ w.heap.size + 1 + 1; omega) _, ?_, ?_, _, _, HO.out.set 2 _, hm1.set (p := ⟨w.heap.size + 1 + 1, 2, none⟩) (.inr ⟨by show w.heap.size ≤ w.heap.size + 1 + 1; omega, by show w.heap.size + 1 + 1 ≤ w.heap.size + 2; omega⟩) _, by rw [List.length_append, HYS.out]; rfl, ?_⟩, by simp [intOf]; omega⟩
                     · exact (((hb1.mov hw3).mov (bl_alloc (Below.refl _ _) _)).grown hg1 (fun e => hmine.2.1 _ e.symm (.inr ⟨by omega, by omega⟩))).far (by show w.heap.size ≠ w.heap.size + 1 + 1; omega) _
                     · exact (((hb2.mov hw3).mov (bl_alloc (Below.refl _ _) _)).grown hg1 (fun e => hmine.2.1 _ e.symm (.inr ⟨by omega, by omega⟩))).far (by show w.heap.size + 1 ≠ w.heap.size + 1 + 1; omega) _
                     · rw [HR2.out]
                       simp [Function.comp_def])
          · first
            | (exfalso; have qa := beq_iff_eq.1 h4; have qb := beq_iff_eq.1 hk1; omega)
            | (clear hk3
               rcases tst with _ | _
               · simp only [Bool.and_false, Bool.false_eq_true, if_false] at hnn
                 subst hnn
                 have hz0 := hb2.lt
                 go_wp2_with (first
                   | (go_at_call 99; refine (HI.out _ HBX.out).mono ?_; clear HI; rintro e w3 ⟨hb3, hor⟩; have hw3 := bl_then HBX.out hb3; have z := hb2.mov hw3; have z0 := z.cell 0; have z1 := z.cell 1; have z2 := z.cell 2; have y0 := z.frozen 0; have y1 := z.frozen 1; have y2 := z.frozen 2; have zl := z.lt; have x := hbo.mov hw3; have x2 := x.cell 2; have xl := x.lt; have HZ := Lib.hid z; clear z x hb3; rcases hor with (⟨rfl, rfl⟩ | ⟨u, B3, c3, rfl, rfl, hc3, hr3⟩))
                   | (at_builtin; refine append_tm rfl _ _ rfl w.heap.size (S3 S w.heap.size) v ys u B3 c3 rfl rfl (by simp) ((hmine.mov hw3).mov (bl_alloc (Below.refl _ _) _)) (hr3.mov (bl_alloc (Below.refl _ _) _)) hc3 ?ss ?bb ?ll ?_
                      case ss => exact fun k q => Nat.lt_of_lt_of_le (HS3.out k q) (Nat.le_trans hw3.size (bl_alloc (Below.refl _ _) _).size)
                      case bb => exact Nat.le_trans hbw.size (Nat.le_trans hw3.size (bl_alloc (Below.refl _ _) _).size)
                      case ll => (rw [HYS.out]; unfold lim; omega)
                      intro v1 w1 hm1 hg1
                      obtain ⟨A1, c1, rfl⟩ := hm1.slice
                      rw [show (ys ++ [u]).length = ys.length + 1 from by simp] at hm1
                      have o1 := ((hbo.mov hw3).mov (bl_alloc (Below.refl _ _) (.cells #[.int .i64 u.k, .int .i64 u.h, .slice B3 u.a.length c3] 25))).grown hg1 (fun e => hmine.2.1 _ e.symm (.inr ⟨by omega, by omega⟩))
                      have o2 := o1.cell 2
                      have of := o1.frozen 2
                      have HO := Lib.hid o1
                      clear o1))
                 · have hb4 := (HZ.out.set3 (.int .i64 0) (.int .i64 0) (.slice none 0 0)).mov (bl_alloc (Below.refl _ _) (.cells #[.int .i64 0, .int .i64 0, .slice none 0 0] 25))
                   refine bodyPost_ret (res_tm rfl _ _ _ _ _ _ rfl hb4) rfl ⟨bl_alloc (bl_set3 (bl_then hbw hw3) (Nat.le_succ _)) _, .inl ⟨?_, rfl⟩⟩
                   rw [renW, HH2.out, Option.bind_some, HR2.out]
                   rfl
                 · have hbz := bl_grown (bl_alloc (bl_then hbw hw3) (.cells #[.int .i64 u.k, .int .i64 u.h, .slice B3 u.a.length c3] 25)) hg1 (fun k e => hmine.ge k e)
                   refine ⟨⟨i + 1, by go_num, hlt, bl_set hbz (p := ⟨w.heap.size + 1 + 1, 2, none⟩) (by show w.heap.size ≤ w.heap.size + 1 + 1; omega) _, ?_, ?_, _, _, HO.out.set 2 _, hm1.set (p := ⟨w.heap.size + 1 + 1, 2, none⟩) (.inr ⟨by show w.heap.size ≤ w.heap.size + 1 + 1; omega, by show w.heap.size + 1 + 1 ≤ w.heap.size + 2; omega⟩) _, by rw [List.length_append, HYS.out]; rfl, ?_⟩, by simp [intOf]; omega⟩
                   · exact (((hb1.mov hw3).mov (bl_alloc (Below.refl _ _) _)).grown hg1 (fun e => hmine.2.1 _ e.symm (.inr ⟨by omega, by omega⟩))).far (by show w.heap.size ≠ w.heap.size + 1 + 1; omega) _
                   · exact (((hb2.mov hw3).mov (bl_alloc (Below.refl _ _) _)).grown hg1 (fun e => hmine.2.1 _ e.symm (.inr ⟨by omega, by omega⟩))).far (by show w.heap.size + 1 ≠ w.heap.size + 1 + 1; omega) _
                   · rw [HR2.out]
                     simp [Function.comp_def]
               · simp only [Bool.true_or, Bool.and_self, if_true] at hnn
                 subst hnn
                 have hz0 := hb2.lt
                 go_wp2_with (first
                   | (go_at_call 99; refine (HI.out _ HBX.out).mono ?_; clear HI; rintro e w3 ⟨hb3, hor⟩; have hw3 := bl_then HBX.out hb3; have z := hb2.mov hw3; have z0 := z.cell 0; have z1 := z.cell 1; have z2 := z.cell 2; have y0 := z.frozen 0; have y1 := z.frozen 1; have y2 := z.frozen 2; have zl := z.lt; have x := hbo.mov hw3; have x2 := x.cell 2; have xl := x.lt; have HZ := Lib.hid z; clear z x hb3; rcases hor with (⟨rfl, rfl⟩ | ⟨u, B3, c3, rfl, rfl, hc3, hr3⟩))
                   | (at_builtin; refine append_tm rfl _ _ rfl w.heap.size (S3 S w.heap.size) v ys u B3 c3 rfl rfl (by simp) ((hmine.mov hw3).mov (bl_alloc (Below.refl _ _) _)) (hr3.mov (bl_alloc (Below.refl _ _) _)) hc3 ?ss ?bb ?ll ?_
                      case ss => exact fun k q => Nat.lt_of_lt_of_le (HS3.out k q) (Nat.le_trans hw3.size (bl_alloc (Below.refl _ _) _).size)
                      case bb => exact Nat.le_trans hbw.size (Nat.le_trans hw3.size (bl_alloc (Below.refl _ _) _).size)
                      case ll => (rw [HYS.out]; unfold lim; omega)
                      intro v1 w1 hm1 hg1
                      obtain ⟨A1, c1, rfl⟩ := hm1.slice
                      rw [show (ys ++ [u]).length = ys.length + 1 from by simp] at hm1
                      have o1 := ((hbo.mov hw3).mov (bl_alloc (Below.refl _ _) (.cells #[.int .i64 u.k, .int .i64 u.h, .slice B3 u.a.length c3] 25))).grown hg1 (fun e => hmine.2.1 _ e.symm (.inr ⟨by omega, by omega⟩))
                      have o2 := o1.cell 2
                      have of := o1.frozen 2
                      have HO := Lib.hid o1
                      clear o1))
                 · have hb4 := (HZ.out.set3 (.int .i64 0) (.int .i64 0) (.slice none 0 0)).mov (bl_alloc (Below.refl _ _) (.cells #[.int .i64 0, .int .i64 0, .slice none 0 0] 25))
                   refine bodyPost_ret (res_tm rfl _ _ _ _ _ _ rfl hb4) rfl ⟨bl_alloc (bl_set3 (bl_then hbw hw3) (Nat.le_succ _)) _, .inl ⟨?_, rfl⟩⟩
                   rw [renW, HH2.out, Option.bind_some, HR2.out]
                   rfl
                 · have hbz := bl_grown (bl_alloc (bl_then hbw hw3) (.cells #[.int .i64 u.k, .int .i64 u.h, .slice B3 u.a.length c3] 25)) hg1 (fun k e => hmine.ge k e)
                   refine ⟨⟨i + 1, by go_num, hlt, bl_set hbz (p := ⟨w.heap.size + 1 + 1, 2, none⟩) (by show w.heap.size ≤ w.heap.size + 1 + 1; omega) _, ?_, ?_, _, _, HO.out.set 2 _, hm1.set (p := ⟨w.heap.size + 1 + 1, 2, none⟩) (.inr ⟨by show w.heap.size ≤ w.heap.size + 1 + 1; omega, by show w.heap.size + 1 + 1 ≤ w.heap.size + 2; omega⟩) _, by rw [List.length_append, HYS.out]; rfl, ?_⟩, by simp [intOf]; omega⟩
                   · exact (((hb1.mov hw3).mov (bl_alloc (Below.refl _ _) _)).grown hg1 (fun e => hmine.2.1 _ e.symm (.inr ⟨by omega, by omega⟩))).far (by show w.heap.size ≠ w.heap.size + 1 + 1; omega) _
                   · exact (((hb2.mov hw3).mov (bl_alloc (Below.refl _ _) _)).grown hg1 (fun e => hmine.2.1 _ e.symm (.inr ⟨by omega, by omega⟩))).far (by show w.heap.size + 1 ≠ w.heap.size + 1 + 1; omega) _
                   · rw [HR2.out]
                     simp [Function.comp_def])
        · have hi := hrel.le
          obtain rfl : i = ts.length := by omega
          obtain ⟨A2, c2, rfl, hc2, hrd⟩ := hmine.reads
          have q0 := hbo.cell 0
          have q1 := hbo.cell 1
          have q2 := hbo.cell 2
          have p0 := hb2.cell 0
          have p1 := hb2.cell 1
          have p2 := hb2.cell 2
          have pf := hb2.frozen
          have HREN := Lib.hid hren
          have HYS := Lib.hid hys
          clear hren hys hrel
          go_wp2
          have hb3 := hb2.set3 (.int .i64 kk) (.int .i64 h') (.slice A2 ys.length c2)
          refine bodyPost_ret (res_tm rfl _ _ _ _ _ _ rfl hb3) rfl ⟨bl_set3 hbw (Nat.le_succ _), .inr ⟨⟨kk, h', ys⟩, A2, c2, ?_, rfl, hc2, ?_⟩⟩
          · rw [renW, HH2.out, Option.bind_some, HREN.out]
            simp [renL]
          · have hs : ∀ j, S3 S w.heap.size ((⟨w.heap.size + 1, j, none⟩ : Addr).block) := fun j => .inr ⟨by simp, by simp⟩
            obtain ⟨A3, c3, e3, _, h3⟩ := (((hmine.set (hs 0) (.int .i64 kk)).set (hs 1) (.int .i64 h')).set (hs 2) (.slice A2 ys.length c2)).reads
            injection e3 with e3 _ _
            subst e3
            exact h3.less (fun k q => .inl q)
    · have hhead : headR rn kk hh n = (rn (wrap64 (hh - n))).map fun i => wrap64 (i + n) := if_pos ⟨beq_iff_eq.1 h4, of_decide_eq_true hge⟩
      have HH := Lib.hid hhead
      have hcall := HRN.out (wrap64 (hh - n)) _ HB0.out
      have HC := Lib.hid hcall
      clear hhead hcall
      go_enter Tryz.func99, Tryz.ntmps99
      go_wp2_with (refine HC.out.mono ?_; clear HC; rintro e w1 ⟨⟨j, b, rfl, hj⟩, hb⟩; have z := E1.out.mov hb; have z0 := z.cell 0; have z1 := z.cell 1; have z2 := z.cell 2; have y0 := z.frozen 0; have y1 := z.frozen 1; have y2 := z.frozen 2; have o := E2.out.mov hb; have o1 := o.cell 1; have of := o.frozen 1; have t2 := (E0.out.mov hb).cell 2; have HZ := Lib.hid z; have HO := Lib.hid o; have HJ := Lib.hid hj; have HBB := Lib.hid (bl_then HB0.out hb); have E0' := Lib.hid (E0.out.mov hb); clear z o hj hb; cases b)
      · refine bodyPost_ret (res_tm rfl _ _ _ _ _ _ rfl (HZ.out.set3 (.int .i64 0) (.int .i64 0) (.slice none 0 0))) rfl ⟨bl_set3 HBB.out (Nat.le_succ _), .inl ⟨?_, rfl⟩⟩
        rw [renW, HH.out, HJ.out]
        rfl
      · clear o1 of z0 z1 z2 y0 y1 y2 t2
        obtain ⟨h', hh'⟩ : ∃ h', wrap64 (j + n) = h' := ⟨_, rfl⟩
        have HH2 : Hid (headR rn kk hh n = some h') := Lib.hid (by rw [HH.out, HJ.out]; exact congrArg some hh')
        have hrel0 : RenRel S rn kk hh h' n A ts c w 0 (w1.setCell ⟨w.heap.size + 1 + 1, 1, none⟩ (.int .i64 (wrap64 (j + n)))) :=
          ⟨Nat.zero_le _, bl_set HBB.out (p := ⟨w.heap.size + 1 + 1, 1, none⟩) (by show w.heap.size ≤ w.heap.size + 1 + 1; omega) _, E0'.out.far (by show w.heap.size ≠ w.heap.size + 1 + 1; omega) _, HZ.out.far (by show w.heap.size + 1 ≠ w.heap.size + 1 + 1; omega) _,
            .slice none 0 0, [], hh' ▸ HO.out.set 1 _, Mine.nil _ _ _, rfl, by simp⟩
        clear HZ HO E0' HBB HJ
        clear HH HB0 E0 E1 E2
        have hrel1 := Lib.hid hrel0
        clear hrel0 hh'
        go_loopw [49] (fun v wr => ∃ i : Nat, v = .int .i64 i ∧ RenRel S rn kk hh h' n A ts c w i wr) (fun v _ => ts.length - (intOf v).toNat)
        case atStart => exact ⟨0, rfl, hrel1.out⟩
        case round =>
          clear hrel1
          obtain ⟨i, rfl, hrel⟩ := hrel
          obtain ⟨v, ys, hbo, hmine, hys, hren⟩ := hrel.out
          have hb1 := hrel.b0
          have hb2 := hrel.b1
          have hbw := hrel.below
          by_cases hlt : i < ts.length
          · have hbl := hbo.lt
            have hbl0 := hb1.lt
            have hml := hmine.lt
            have hmg := hmine.ge
            have hS' : ∀ k, (S3 S w.heap.size k ∨ v.ownBlock = some k) → k < wr.heap.size := by
              rintro k ((q | q) | q)
              · have := HSS.out k q; have := hbw.size; omega
              · omega
              · exact hml k q
            have hr' : Reads (fun k => S3 S w.heap.size k ∨ v.ownBlock = some k) wr A ts := hr.step (by
              rintro k hk hn ((q | q) | q)
              · exact hn q
              · omega
              · have := hmg k q; omega) (fun k hk _ => hbw.block k hk)
            obtain ⟨ad, B, d, rfl, -, c0, c1, c2, hd, hsub⟩ := hr'.at hlt
            have HS3 : Hid (∀ k, S3 S w.heap.size k → k < wr.heap.size) := fun k q => hS' k (.inl q)
            have hnn := lastN_tst (kk := kk) (n := n) hlt
            have hren2 := hren
            rw [renL_at hlt] at hren2
            have HI : Hid (∀ W : World, Below wr.heap.size wr W → Calls Tryz.prog 99 #[.agg #[.int .i64 ts[i].k, .int .i64 ts[i].h, .slice B ts[i].a.length d], .int .i64 (lastN (isB kk) (ts.drop (i + 1)) n), .func (.func kr) first cap] W
                (RetT (fun k => S3 S w.heap.size k ∨ v.ownBlock = some k) (renW rn ts[i] (lastN (isB kk) (ts.drop (i + 1)) n)) W)) :=
              fun W hb => IH.out ts[i] (List.getElem_mem hlt) _ B d _ W (fun k q => Nat.lt_of_lt_of_le (hS' k q) hb.size) (HRN.out.mov (bl_then hbw hb)) (hsub.mov hb) hd
            have hbx : Below wr.heap.size wr (wr.alloc (.cells #[.int .i64 ts[i].k, .int .i64 ts[i].h, .slice B ts[i].a.length d] 25)) := bl_alloc (Below.refl _ _) _
            have HBX := Lib.hid hbx
            have HR2 := Lib.hid hren2
            have HYS := Lib.hid hys
            have HRR := Lib.hid hrel
            have q0 := hb1.cell 0
            have q1 := hb1.cell 1
            have q2 := hb1.cell 2
            generalize lastN (isB kk) (ts.drop (i + 1)) n = nn at *
            generalize renW rn ts[i] nn = rv at *
            clear hbx hren hren2 hys hrel hml hmg hS' hr'
            obtain ⟨k1, hk1⟩ : ∃ b, (kk == 1) = b := ⟨_, rfl⟩
            obtain ⟨k3, hk3⟩ : ∃ b, (kk == 3) = b := ⟨_, rfl⟩
            obtain ⟨tst, htst⟩ : ∃ b, ((i : Int) == (ts.length : Int) - 1) = b := ⟨_, rfl⟩
            rw [hk1, hk3, htst] at hnn
            rcases k1 with _ | _
            · rcases k3 with _ | _
              · simp only [Bool.or_self, Bool.false_and, Bool.false_eq_true, if_false] at hnn
                subst hnn
                have hz0 := hb2.lt
                go_wp2_with (first
                  | (go_at_call 99; refine (HI.out _ HBX.out).mono ?_; clear HI; rintro e w3 ⟨hb3, hor⟩; have hw3 := bl_then HBX.out hb3; have z := hb2.mov hw3; have z0 := z.cell 0; have z1 := z.cell 1; have z2 := z.cell 2; have y0 := z.frozen 0; have y1 := z.frozen 1; have y2 := z.frozen 2; have zl := z.lt; have x := hbo.mov hw3; have x2 := x.cell 2; have xl := x.lt; have HZ := Lib.hid z; clear z x hb3; rcases hor with (⟨rfl, rfl⟩ | ⟨u, B3, c3, rfl, rfl, hc3, hr3⟩))
                  | (at_builtin; refine append_tm rfl _ _ rfl w.heap.size (S3 S w.heap.size) v ys u B3 c3 rfl rfl (by simp) ((hmine.mov hw3).mov (bl_alloc (Below.refl _ _) _)) (hr3.mov (bl_alloc (Below.refl _ _) _)) hc3 ?ss ?bb ?ll ?_
                     case ss => exact fun k q => Nat.lt_of_lt_of_le (HS3.out k q) (Nat.le_trans hw3.size (bl_alloc (Below.refl _ _) _).size)
                     case bb => exact Nat.le_trans hbw.size (Nat.le_trans hw3.size (bl_alloc (Below.refl _ _) _).size)
                     case ll => (rw [HYS.out]; unfold lim; omega)
                     intro v1 w1 hm1 hg1
                     obtain ⟨A1, c1, rfl⟩ := hm1.slice
                     rw [show (ys ++ [u]).length = ys.length + 1 from by simp] at hm1
                     have o1 := ((hbo.mov hw3).mov (bl_alloc (Below.refl _ _) (.cells #[.int .i64 u.k, .int .i64 u.h, .slice B3 u.a.length c3] 25))).grown hg1 (fun e => hmine.2.1 _ e.symm (.inr ⟨by omega, by omega⟩))
                     have o2 := o1.cell 2
                     have of := o1.frozen 2
                     have HO := Lib.hid o1
                     clear o1))
                · have hb4 := (HZ.out.set3 (.int .i64 0) (.int .i64 0) (.slice none 0 0)).mov (bl_alloc (Below.refl _ _) (.cells #[.int .i64 0, .int .i64 0, .slice none 0 0] 25))
                  refine bodyPost_ret (res_tm rfl _ _ _ _ _ _ rfl hb4) rfl ⟨bl_alloc (bl_set3 (bl_then hbw hw3) (Nat.le_succ _)) _, .inl ⟨?_, rfl⟩⟩
                  rw [renW, HH2.out, Option.bind_some, HR2.out]
                  rfl
                · have hbz := bl_grown (bl_alloc (bl_then hbw hw3) (.cells #[.int .i64 u.k, .int .i64 u.h, .slice B3 u.a.length c3] 25)) hg1 (fun k e => hmine.ge k e)
                  refine ⟨⟨i + 1, by go_num, hlt, bl_set hbz (p := ⟨w.heap.size + 1 + 1, 2, none⟩) (by show w.heap.size ≤ w.heap.size + 1 + 1; omega) _, ?_, ?_, _, _, HO.out.set 2 _, hm1.set (p := ⟨w.heap.size + 1 + 1, 2, none⟩) (.inr ⟨by show w.heap.size ≤ w.heap.size + 1 + 1; omega, by show w.heap.size + 1 + 1 ≤ w.heap.size + 2; omega⟩) _, by rw [List.length_append, HYS.out]; rfl, ?_⟩, by simp [intOf]; omega⟩
                  · exact (((hb1.mov hw3).mov (bl_alloc (Below.refl _ _) _)).grown hg1 (fun e => hmine.2.1 _ e.symm (.inr ⟨by omega, by omega⟩))).far (by show w.heap.size ≠ w.heap.size + 1 + 1; omega) _
                  · exact (((hb2.mov hw3).mov (bl_alloc (Below.refl _ _) _)).grown hg1 (fun e => hmine.2.1 _ e.symm (.inr ⟨by omega, by omega⟩))).far (by show w.heap.size + 1 ≠ w.heap.size + 1 + 1; omega) _
                  · rw [HR2.out]
                    simp [Function.comp_def]
              · first
                | (exfalso; have qa := beq_iff_eq.1 h4; have qb := beq_iff_eq.1 hk3; omega)
                | (rcases tst with _ | _
                   · simp only [Bool.or_true, Bool.and_false, Bool.false_eq_true, if_false] at hnn
                     subst hnn
                     have hz0 := hb2.lt
                     go_wp2_with (first
                       | (go_at_call 99; refine (HI.out _ HBX.out).mono ?_; clear HI; rintro e w3 ⟨hb3, hor⟩; have hw3 := bl_then HBX.out hb3; have z := hb2.mov hw3; have z0 := z.cell 0; have z1 := z.cell 1; have z2 := z.cell 2; have y0 := z.frozen 0; have y1 := z.frozen 1; have y2 := z.frozen 2; have zl := z.lt; have x := hbo.mov hw3; have x2 := x.cell 2; have xl := x.lt; have HZ := Lib.hid z; clear z x hb3; rcases hor with (⟨rfl, rfl⟩ | ⟨u, B3, c3, rfl, rfl, hc3, hr3⟩))
                       | (at_builtin; refine append_tm rfl _ _ rfl w.heap.size (S3 S w.heap.size) v ys u B3 c3 rfl rfl (by simp) ((hmine.mov hw3).mov (bl_alloc (Below.refl _ _) _)) (hr3.mov (bl_alloc (Below.refl _ _) _)) hc3 ?ss ?bb ?ll ?_
                          case ss => exact fun k q => Nat.lt_of_lt_of_le (HS3.out k q) (Nat.le_trans hw3.size (bl_alloc (Below.refl _ _) _).size)
                          case bb => exact Nat.le_trans hbw.size (Nat.le_trans hw3.size (bl_alloc (Below.refl _ _) _).size)
                          case ll => (rw [HYS.out]; unfold lim; omega)
                          intro v1 w1 hm1 hg1
                          obtain ⟨A1, c1, rfl⟩ := hm1.slice
                          rw [show (ys ++ [u]).length = ys.length + 1 from by simp] at hm1
                          have o1 := ((hbo.mov hw3).mov (bl_alloc (Below.refl _ _) (.cells #[.int .i64 u.k, .int .i64 u.h, .slice B3 u.a.length c3] 25))).grown hg1 (fun e => hmine.2.1 _ e.symm (.inr ⟨by omega, by omega⟩))
                          have o2 := o1.cell 2
                          have of := o1.frozen 2
                          have HO := Lib.hid o1
                          clear o1))
                     · have hb4 := (HZ.out.set3 (.int .i64 0) (.int .i64 0) (.slice none 0 0)).mov (bl_alloc (Below.refl _ _) (.cells #[.int .i64 0, .int .i64 0, .slice none 0 0] 25))
                       refine bodyPost_ret (res_tm rfl _ _ _ _ _ _ rfl hb4) rfl ⟨bl_alloc (bl_set3 (bl_then hbw hw3) (Nat.le_succ _)) _, .inl ⟨?_, rfl⟩⟩
                       rw [renW, HH2.out, Option.bind_some, HR2.out]
                       rfl
                     · have hbz := bl_grown (bl_alloc (bl_then hbw hw3) (.cells #[.int .i64 u.k, .int .i64 u.h, .slice B3 u.a.length c3] 25)) hg1 (fun k e => hmine.ge k e)
                       refine ⟨⟨i + 1, by go_num, hlt, bl_set hbz (p := ⟨w.heap.size + 1 + 1, 2, none⟩) (by show w.heap.size ≤ w.heap.size + 1 + 1; omega) _, ?_, ?_, _, _, HO.out.set 2 _, hm1.set (p := ⟨w.heap.size + 1 + 1, 2, none⟩) (.inr ⟨by show w.heap.size ≤ w.heap.size + 1 + 1; omega, by show w.heap.size + 1 + 1 ≤ w.heap.size + 2; omega⟩) _, by rw [List.length_append, HYS.out]; rfl, ?_⟩, by simp [intOf]; omega⟩
                       · exact (((hb1.mov hw3).mov (bl_alloc (Below.refl _ _) _)).grown hg1 (fun e => hmine.2.1 _ e.symm (.inr ⟨by omega, by omega⟩))).far (by show w.heap.size ≠ w.heap.size + 1 + 1; omega) _
                       · exact (((hb2.mov hw3).mov (bl_alloc (Below.refl _ _) _)).grown hg1 (fun e => hmine.2.1 _ e.symm (.inr ⟨by omega, by omega⟩))).far (by show w.heap.size + 1 ≠ w.heap.size + 1 + 1; omega) _
                       · rw [HR2.out]
                         simp [Function.comp_def]
                   · simp only [Bool.or_true, Bool.and_self, if_true] at hnn
                     subst hnn
                     have hz0 := hb2.lt
                     go_wp2_with (first
                       | (go_at_call 99; refine (HI.out _ HBX.out).mono ?_; clear HI; rintro e w3 ⟨hb3, hor⟩; have hw3 := bl_then HBX.out hb3; have z := hb2.mov hw3; have z0 := z.cell 0; have z1 := z.cell 1; have z2 := z.cell 2; have y0 := z.frozen 0; have y1 := z.frozen 1; have y2 := z.frozen 2; have zl := z.lt; have x := hbo.mov hw3; have x2 := x.cell 2; have xl := x.lt; have HZ := Lib.hid z; clear z x hb3; rcases hor with (⟨rfl, rfl⟩ | ⟨u, B3, c3, rfl, rfl, hc3, hr3⟩))
                       | (at_builtin; refine append_tm rfl _ _ rfl w.heap.size (S3 S w.heap.size) v ys u B3 c3 rfl rfl (by simp) ((hmine.mov hw3).mov (bl_alloc (Below.refl _ _) _)) (hr3.mov (bl_alloc (Below.refl _ _) _)) hc3 ?ss ?bb ?ll ?_
                          case ss => exact fun k q => Nat.lt_of_lt_of_le (HS3.out k q) (Nat.le_trans hw3.size (bl_alloc (Below.refl _ _) _).size)
                          case bb => exact Nat.le_trans hbw.size (Nat.le_trans hw3.size (bl_alloc (Below.refl _ _) _).size)
                          case ll => (rw [HYS.out]; unfold lim; omega)
                          intro v1 w1 hm1 hg1
                          obtain ⟨A1, c1, rfl⟩ := hm1.slice
                          rw [show (ys ++ [u]).length = ys.length + 1 from by simp] at hm1
                          have o1 := ((hbo.mov hw3).mov (bl_alloc (Below.refl _ _) (.cells #[.int .i64 u.k, .int .i64 u.h, .slice B3 u.a.length c3] 25))).grown hg1 (fun e => hmine.2.1 _ e.symm (.inr ⟨by omega, by omega⟩))
                          have o2 := o1.cell 2
                          have of := o1.frozen 2
                          have HO := Lib.hid o1
                          clear o1))
                     · have hb4 := (HZ.out.set3 (.int .i64 0) (.int .i64 0) (.slice none 0 0)).mov (bl_alloc (Below.refl _ _) (.cells #[.int .i64 0, .int .i64 0, .slice none 0 0] 25))
                       refine bodyPost_ret (res_tm rfl _ _ _ _ _ _ rfl hb4) rfl ⟨bl_alloc (bl_set3 (bl_then hbw hw3) (Nat.le_succ _)) _, .inl ⟨?_, rfl⟩⟩
                       rw [renW, HH2.out, Option.bind_some, HR2.out]
                       rfl
                     · have hbz := bl_grown (bl_alloc (bl_then hbw hw3) (.cells #[.int .i64 u.k, .int .i64 u.h, .slice B3 u.a.length c3] 25)) hg1 (fun k e => hmine.ge k e)
                       refine ⟨⟨i + 1, by go_num, hlt, bl_set hbz (p := ⟨w.heap.size + 1 + 1, 2, none⟩) (by show w.heap.size ≤ w.heap.size + 1 + 1; omega) _, ?_, ?_, _, _, HO.out.set 2 _, hm1.set (p := ⟨w.heap.size + 1 + 1, 2, none⟩) (.inr ⟨by show w.heap.size ≤ w.heap.size + 1 + 1; omega, by show w.heap.size + 1 + 1 ≤ w.heap.size + 2; omega⟩) _, by rw [List.length_append, HYS.out]; rfl, ?_⟩, by simp [intOf]; omega⟩
                       · exact (((hb1.mov hw3).mov (bl_alloc (Below.refl _ _) _)).grown hg1 (fun e => hmine.2.1 _ e.symm (.inr ⟨by omega, by omega⟩))).far (by show w.heap.size ≠ w.heap.size + 1 + 1; omega) _
                       · exact (((hb2.mov hw3).mov (bl_alloc (Below.refl _ _) _)).grown hg1 (fun e => hmine.2.1 _ e.symm (.inr ⟨by omega, by omega⟩))).far (by show w.heap.size + 1 ≠ w.heap.size + 1 + 1; omega) _
                       · rw [HR2.out]
                         simp [Function.comp_def])
            · first
              | (exfalso; have qa := beq_iff_eq.1 h4; have qb := beq_iff_eq.1 hk1; omega)
              | (clear hk3
                 rcases tst with _ | _
                 · simp only [Bool.and_false, Bool.false_eq_true, if_false] at hnn
                   subst hnn
                   have hz0 := hb2.lt
                   go_wp2_with (first
                     | (go_at_call 99; refine (HI.out _ HBX.out).mono ?_; clear HI; rintro e w3 ⟨hb3, hor⟩; have hw3 := bl_then HBX.out hb3; have z := hb2.mov hw3; have z0 := z.cell 0; have z1 := z.cell 1; have z2 := z.cell 2; have y0 := z.frozen 0; have y1 := z.frozen 1; have y2 := z.frozen 2; have zl := z.lt; have x := hbo.mov hw3; have x2 := x.cell 2; have xl := x.lt; have HZ := Lib.hid z; clear z x hb3; rcases hor with (⟨rfl, rfl⟩ | ⟨u, B3, c3, rfl, rfl, hc3, hr3⟩))
                     | (at_builtin; refine append_tm rfl _ _ rfl w.heap.size (S3 S w.heap.size) v ys u B3 c3 rfl rfl (by simp) ((hmine.mov hw3).mov (bl_alloc (Below.refl _ _) _)) (hr3.mov (bl_alloc (Below.refl _ _) _)) hc3 ?ss ?bb ?ll ?_
                        case ss => exact fun k q => Nat.lt_of_lt_of_le (HS3.out k q) (Nat.le_trans hw3.size (bl_alloc (Below.refl _ _) _).size)
                        case bb => exact Nat.le_trans hbw.size (Nat.le_trans hw3.size (bl_alloc (Below.refl _ _) _).size)
                        case ll => (rw [HYS.out]; unfold lim; omega)
                        intro v1 w1 hm1 hg1
                        obtain ⟨A1, c1, rfl⟩ := hm1.slice
                        rw [show (ys ++ [u]).length = ys.length + 1 from by simp] at hm1
                        have o1 := ((hbo.mov hw3).mov (bl_alloc (Below.refl _ _) (.cells #[.int .i64 u.k, .int .i64 u.h, .slice B3 u.a.length c3] 25))).grown hg1 (fun e => hmine.2.1 _ e.symm (.inr ⟨by omega, by omega⟩))
                        have o2 := o1.cell 2
                        have of := o1.frozen 2
                        have HO := Lib.hid o1
                        clear o1))
                   · have hb4 := (HZ.out.set3 (.int .i64 0) (.int .i64 0) (.slice none 0 0)).mov (bl_alloc (Below.refl _ _) (.cells #[.int .i64 0, .int .i64 0, .slice none 0 0] 25))
                     refine bodyPost_ret (res_tm rfl _ _ _ _ _ _ rfl hb4) rfl ⟨bl_alloc (bl_set3 (bl_then hbw hw3) (Nat.le_succ _)) _, .inl ⟨?_, rfl⟩⟩
                     rw [renW, HH2.out, Option.bind_some, HR2.out]
                     rfl
                   · have hbz := bl_grown (bl_alloc (bl_then hbw hw3) (.cells #[.int .i64 u.k, .int .i64 u.h, .slice B3 u.a.length c3] 25)) hg1 (fun k e => hmine.ge k e)
                     refine ⟨⟨i + 1, by go_num, hlt, bl_set hbz (p := ⟨w.heap.size + 1 + 1, 2, none⟩) (by show w.heap.size ≤ w.heap.size + 1 + 1; omega) _, ?_, ?_, _, _, HO.out.set 2 _, hm1.set (p := ⟨w.heap.size + 1 + 1, 2, none⟩) (.inr ⟨by show w.heap.size ≤ w.heap.size + 1 + 1; omega, by show w.heap.size + 1 + 1 ≤ w.heap.size + 2; omega⟩) _, by rw [List.length_append, HYS.out]; rfl, ?_⟩, by simp [intOf]; omega⟩
                     · exact (((hb1.mov hw3).mov (bl_alloc (Below.refl _ _) _)).grown hg1 (fun e => hmine.2.1 _ e.symm (.inr ⟨by omega, by omega⟩))).far (by show w.heap.size ≠ w.heap.size + 1 + 1; omega) _
                     · exact (((hb2.mov hw3).mov (bl_alloc (Below.refl _ _) _)).grown hg1 (fun e => hmine.2.1 _ e.symm (.inr ⟨by omega, by omega⟩))).far (by show w.heap.size + 1 ≠ w.heap.size + 1 + 1; omega) _
                     · rw [HR2.out]
                       simp [Function.comp_def]
                 · simp only [Bool.true_or, Bool.and_self, if_true] at hnn
                   subst hnn
                   have hz0 := hb2.lt
                   go_wp2_with (first
                     | (go_at_call 99; refine (HI.out _ HBX.out).mono ?_; clear HI; rintro e w3 ⟨hb3, hor⟩; have hw3 := bl_then HBX.out hb3; have z := hb2.mov hw3; have z0 := z.cell 0; have z1 := z.cell 1; have z2 := z.cell 2; have y0 := z.frozen 0; have y1 := z.frozen 1; have y2 := z.frozen 2; have zl := z.lt; have x := hbo.mov hw3; have x2 := x.cell 2; have xl := x.lt; have HZ := Lib.hid z; clear z x hb3; rcases hor with (⟨rfl, rfl⟩ | ⟨u, B3, c3, rfl, rfl, hc3, hr3⟩))
                     | (at_builtin; refine append_tm rfl _ _ rfl w.heap.size (S3 S w.heap.size) v ys u B3 c3 rfl rfl (by simp) ((hmine.mov hw3).mov (bl_alloc (Below.refl _ _) _)) (hr3.mov (bl_alloc (Below.refl _ _) _)) hc3 ?ss ?bb ?ll ?_
                        case ss => exact fun k q => Nat.lt_of_lt_of_le (HS3.out k q) (Nat.le_trans hw3.size (bl_alloc (Below.refl _ _) _).size)
                        case bb => exact Nat.le_trans hbw.size (Nat.le_trans hw3.size (bl_alloc (Below.refl _ _) _).size)
                        case ll => (rw [HYS.out]; unfold lim; omega)
                        intro v1 w1 hm1 hg1
                        obtain ⟨A1, c1, rfl⟩ := hm1.slice
                        rw [show (ys ++ [u]).length = ys.length + 1 from by simp] at hm1
                        have o1 := ((hbo.mov hw3).mov (bl_alloc (Below.refl _ _) (.cells #[.int .i64 u.k, .int .i64 u.h, .slice B3 u.a.length c3] 25))).grown hg1 (fun e => hmine.2.1 _ e.symm (.inr ⟨by omega, by omega⟩))
                        have o2 := o1.cell 2
                        have of := o1.frozen 2
                        have HO := Lib.hid o1
                        clear o1))
                   · have hb4 := (HZ.out.set3 (.int .i64 0) (.int .i64 0) (.slice none 0 0)).mov (bl_alloc (Below.refl _ _) (.cells #[.int .i64 0, .int .i64 0, .slice none 0 0] 25))
                     refine bodyPost_ret (res_tm rfl _ _ _ _ _ _ rfl hb4) rfl ⟨bl_alloc (bl_set3 (bl_then hbw hw3) (Nat.le_succ _)) _, .inl ⟨?_, rfl⟩⟩
                     rw [renW, HH2.out, Option.bind_some, HR2.out]
                     rfl
                   · have hbz := bl_grown (bl_alloc (bl_then hbw hw3) (.cells #[.int .i64 u.k, .int .i64 u.h, .slice B3 u.a.length c3] 25)) hg1 (fun k e => hmine.ge k e)
                     refine ⟨⟨i + 1, by go_num, hlt, bl_set hbz (p := ⟨w.heap.size + 1 + 1, 2, none⟩) (by show w.heap.size ≤ w.heap.size + 1 + 1; omega) _, ?_, ?_, _, _, HO.out.set 2 _, hm1.set (p := ⟨w.heap.size + 1 + 1, 2, none⟩) (.inr ⟨by show w.heap.size ≤ w.heap.size + 1 + 1; omega, by show w.heap.size + 1 + 1 ≤ w.heap.size + 2; omega⟩) _, by rw [List.length_append, HYS.out]; rfl, ?_⟩, by simp [intOf]; omega⟩
                     · exact (((hb1.mov hw3).mov (bl_alloc (Below.refl _ _) _)).grown hg1 (fun e => hmine.2.1 _ e.symm (.inr ⟨by omega, by omega⟩))).far (by show w.heap.size ≠ w.heap.size + 1 + 1; omega) _
                     · exact (((hb2.mov hw3).mov (bl_alloc (Below.refl _ _) _)).grown hg1 (fun e => hmine.2.1 _ e.symm (.inr ⟨by omega, by omega⟩))).far (by show w.heap.size + 1 ≠ w.heap.size + 1 + 1; omega) _
                     · rw [HR2.out]
                       simp [Function.comp_def])
          · have hi := hrel.le
            obtain rfl : i = ts.length := by omega
            obtain ⟨A2, c2, rfl, hc2, hrd⟩ := hmine.reads
            have q0 := hbo.cell 0
            have q1 := hbo.cell 1
            have q2 := hbo.cell 2
            have p0 := hb2.cell 0
            have p1 := hb2.cell 1
            have p2 := hb2.cell 2
            have pf := hb2.frozen
            have HREN := Lib.hid hren
            have HYS := Lib.hid hys
            clear hren hys hrel
            go_wp2
            have hb3 := hb2.set3 (.int .i64 kk) (.int .i64 h') (.slice A2 ys.length c2)
            refine bodyPost_ret (res_tm rfl _ _ _ _ _ _ rfl hb3) rfl ⟨bl_set3 hbw (Nat.le_succ _), .inr ⟨⟨kk, h', ys⟩, A2, c2, ?_, rfl, hc2, ?_⟩⟩
            · rw [renW, HH2.out, Option.bind_some, HREN.out]
              simp [renL]
            · have hs : ∀ j, S3 S w.heap.size ((⟨w.heap.size + 1, j, none⟩ : Addr).block) := fun j => .inr ⟨by simp, by simp⟩
              obtain ⟨A3, c3, e3, _, h3⟩ := (((hmine.set (hs 0) (.int .i64 kk)).set (hs 1) (.int .i64 h')).set (hs 2) (.slice A2 ys.length c2)).reads
              injection e3 with e3 _ _
              subst e3
              exact h3.less (fun k q => .inl q)
end Go.Proofs.YtbmmdfehhhgkcaaGreat
