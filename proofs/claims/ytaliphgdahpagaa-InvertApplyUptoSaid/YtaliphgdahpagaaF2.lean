/- The contracts of Same, of package term and of the reference. -/
import Derived.Test.YtaliphgdahpagaaF1
namespace Go.Proofs.Ytaliphgdahpagaa
open Go.RowKit Go.Shelf

mutual
def sameB : Tm → Tm → Bool
  | ⟨k, h, a⟩, ⟨k', h', a'⟩ => k == k' && (h == h' && sameL a a')
def sameL : List Tm → List Tm → Bool
  | [], [] => true
  | t :: l, s :: m => sameB t s && sameL l m
  | _, _ => false
end
theorem sameL_ne {a b : List Tm} (h : a.length ≠ b.length) : sameL a b = false := by
  induction a generalizing b with
  | nil => cases b with
    | nil => exact absurd rfl h
    | cons => rfl
  | cons t l ih => cases b with
    | nil => rfl
    | cons s m => rw [sameL, ih (by simpa using h), Bool.and_false]

theorem cell_mov {W W' : World} {a : Addr} {v : Value} (h : W.cell? a = some v) (hb : Below W.heap.size W W') : W'.cell? a = some v := (hb.cell (World.block_lt_of_cell? W a h)).trans h
theorem bl_eta {a w : World} (h : Below a.heap.size a w) {n : Nat} : Below a.heap.size a { heap := w.heap, tape := w.tape, drawn := n, os := w.os, output := w.output } := ⟨h.os, h.tape, h.output, h.size, h.block⟩

/-- What a loop over the parts of two terms keeps. -/
structure TRel2 (w : World) (k h : Int) (A : Option Addr) (ts : List Tm) (c : Nat) (k2 h2 : Int) (A2 : Option Addr) (ss : List Tm) (c2 : Nat) (i : Nat) (wr : World) : Prop where
  le : i ≤ ts.length
  below : Below w.heap.size w wr
  b1 : Blk wr w.heap.size #[.int .i64 k, .int .i64 h, .slice A ts.length c] 24
  b2 : Blk wr (w.heap.size + 1) #[.int .i64 k2, .int .i64 h2, .slice A2 ss.length c2] 24
  rest : sameL (ts.drop i) (ss.drop i) = sameL ts ss
theorem TRel2.zero (w : World) (k h : Int) (A : Option Addr) (ts : List Tm) (c : Nat) (k2 h2 : Int) (A2 : Option Addr) (ss : List Tm) (c2 : Nat) :
    TRel2 w k h A ts c k2 h2 A2 ss c2 0 ((w.alloc (.cells #[.int .i64 k, .int .i64 h, .slice A ts.length c] 24)).alloc (.cells #[.int .i64 k2, .int .i64 h2, .slice A2 ss.length c2] 24)) :=
  ⟨Nat.zero_le _, bl_alloc (bl_alloc (Below.refl _ _) _) _, (Blk.new _ _ _).mov (bl_alloc (Below.refl _ _) _), by
    have := Blk.new (w.alloc (.cells #[.int .i64 k, .int .i64 h, .slice A ts.length c] 24)) #[.int .i64 k2, .int .i64 h2, .slice A2 ss.length c2] 24
    simpa using this, rfl⟩
theorem TRel2.next {w : World} {k h : Int} {A : Option Addr} {ts : List Tm} {c : Nat} {k2 h2 : Int} {A2 : Option Addr} {ss : List Tm} {c2 : Nat} {i : Nat} {wr w1 : World} (hr : TRel2 w k h A ts c k2 h2 A2 ss c2 i wr) (hlt : i < ts.length) (hlt2 : i < ss.length)
    (hb : Below wr.heap.size wr w1) (hf : sameB ts[i] ss[i] = true) : TRel2 w k h A ts c k2 h2 A2 ss c2 (i + 1) w1 :=
  ⟨hlt, bl_then hr.below hb, hr.b1.mov hb, hr.b2.mov hb, by rw [← hr.rest, List.drop_eq_getElem_cons hlt, List.drop_eq_getElem_cons hlt2, sameL, hf, Bool.true_and]⟩

set_option maxHeartbeats 2000000 in
theorem SameR_calls (t : Tm) : ∀ (s : Tm) (A : Option Addr) (c : Nat) (B : Option Addr) (d : Nat) (w : World), Reads (fun _ => False) w A t.a → t.a.length ≤ c → Reads (fun _ => False) w B s.a → s.a.length ≤ d →
    Calls Try.prog 11 #[.agg #[.int .i64 t.k, .int .i64 t.h, .slice A t.a.length c], .agg #[.int .i64 s.k, .int .i64 s.h, .slice B s.a.length d]] w fun e w' => e = .returned (.bool (sameB t s)) ∧ Below w.heap.size w w' := by
  induction t using Tm.ind with
  | h t ih =>
  intro s A c B d w hr hc hr2 hc2
  obtain ⟨kk, hh, ts⟩ := t
  obtain ⟨k2, h2, ss⟩ := s
  dsimp only at hr hc ih hr2 hc2 ⊢
  have hlen := hr.len
  have hlen2 := hr2.len
  unfold lim at hlen hlen2
  have IH := Lib.hid ih
  clear ih
  by_cases hk : kk = k2
  · subst hk
    by_cases hh2 : hh = h2
    · subst hh2
      by_cases hl : ts.length = ss.length
      · have hl2 : ((ts.length : Int) != (ss.length : Int)) = false := by simp [hl]
        have HL := Lib.hid hl
        clear hl
        go_enter Try.func11, Try.ntmps11
        go_wp2
        go_loopw [5] (fun j wr => ∃ (i : Nat), j = .int .i64 i ∧ TRel2 w kk hh A ts c kk hh B ss d i wr) (fun j _ => ts.length - (intOf j).toNat)
        case atStart => exact ⟨0, rfl, TRel2.zero _ _ _ _ _ _ _ _ _ _ _⟩
        case round =>
          obtain ⟨i, rfl, hrel⟩ := hrel
          have g2 := hrel.b1.cell 2
          have p2 := hrel.b2.cell 2
          have gl := hrel.b1.lt
          have pl := hrel.b2.lt
          by_cases hlt : i < ts.length
          · have hlt2 : i < ss.length := by have := HL.out; omega
            obtain ⟨ad, X, dd, rfl, -, c0, c1, c2, hd, hsub⟩ := (hr.mov hrel.below).at hlt
            obtain ⟨ad2, X2, dd2, rfl, -, d0, d1, d2, hd2, hsub2⟩ := (hr2.mov hrel.below).at hlt2
            have hih := fun (W : World) (hb : Below wr.heap.size wr W) => IH.out ts[i] (List.getElem_mem hlt) ss[i] X dd X2 dd2 W (hsub.mov hb) hd (hsub2.mov hb) hd2
            cases hv : sameB ts[i] ss[i]
            all_goals
              rw [hv] at hih
              have HI := Lib.hid hih
              have HV := Lib.hid hv
              clear hih hv
              go_wp2_with fail
              skip
              go_still_tail 10, (by kernel_rfl)
              go_wp2_with (go_at_call 11; refine (HI.out _ (bl_eta (Below.refl _ _))).mono ?_; clear HI; rintro e w1 ⟨rfl, hb0⟩; have hb := bl_then (bl_eta (Below.refl _ _)) hb0; clear hb0)
            · go_ret
              refine ⟨ret_bool ?_, bl_then hrel.below hb⟩
              rw [sameB, ← hrel.rest, List.drop_eq_getElem_cons hlt, List.drop_eq_getElem_cons hlt2, sameL, HV.out]
              simp
            · exact ⟨⟨i + 1, by go_num, hrel.next hlt hlt2 hb HV.out⟩, by simp [intOf]; omega⟩
          · have hi := hrel.le
            obtain rfl : i = ts.length := by omega
            go_wp2
            go_ret
            have hs := hrel.rest
            rw [List.drop_length, HL.out, List.drop_length, sameL] at hs
            exact ⟨ret_bool (by rw [sameB, ← hs]; simp), hrel.below⟩
      · have hl2 : ((ts.length : Int) != (ss.length : Int)) = true := by simp; omega
        go_enter Try.func11, Try.ntmps11
        go_wp2
        go_ret
        exact ⟨ret_bool (by rw [sameB, sameL_ne hl]; simp), bl_alloc (bl_alloc (Below.refl _ _) _) _⟩
    · have hq : (hh != h2) = true := by simpa using hh2
      go_enter Try.func11, Try.ntmps11
      go_wp2
      all_goals
        go_ret
        exact ⟨ret_bool (by rw [sameB]; simp [hh2]), bl_alloc (bl_alloc (Below.refl _ _) _) _⟩
  · have hq : (kk != k2) = true := by simpa using hk
    go_enter Try.func11, Try.ntmps11
    go_wp2
    all_goals
      go_ret
      exact ⟨ret_bool (by rw [sameB]; simp [hk]), bl_alloc (bl_alloc (Below.refl _ _) _) _⟩
set_option maxHeartbeats 2000000 in
theorem Same_calls (t : Tm) : ∀ (s : Tm) (A : Option Addr) (c : Nat) (B : Option Addr) (d : Nat) (w : World), Reads (fun _ => False) w A t.a → t.a.length ≤ c → Reads (fun _ => False) w B s.a → s.a.length ≤ d →
    Calls Try.prog 13 #[.agg #[.int .i64 t.k, .int .i64 t.h, .slice A t.a.length c], .agg #[.int .i64 s.k, .int .i64 s.h, .slice B s.a.length d]] w fun e w' => e = .returned (.bool (sameB t s)) ∧ Below w.heap.size w w' := by
  induction t using Tm.ind with
  | h t ih =>
  intro s A c B d w hr hc hr2 hc2
  obtain ⟨kk, hh, ts⟩ := t
  obtain ⟨k2, h2, ss⟩ := s
  dsimp only at hr hc ih hr2 hc2 ⊢
  have hlen := hr.len
  have hlen2 := hr2.len
  unfold lim at hlen hlen2
  have IH := Lib.hid ih
  clear ih
  by_cases hk : kk = k2
  · subst hk
    by_cases hh2 : hh = h2
    · subst hh2
      by_cases hl : ts.length = ss.length
      · have hl2 : ((ts.length : Int) != (ss.length : Int)) = false := by simp [hl]
        have HL := Lib.hid hl
        clear hl
        go_enter Try.func13, Try.ntmps13
        go_wp2
        go_loopw [31] (fun j wr => ∃ (i : Nat), j = .int .i64 i ∧ TRel2 w kk hh A ts c kk hh B ss d i wr) (fun j _ => ts.length - (intOf j).toNat)
        case atStart => exact ⟨0, rfl, TRel2.zero _ _ _ _ _ _ _ _ _ _ _⟩
        case round =>
          obtain ⟨i, rfl, hrel⟩ := hrel
          have g2 := hrel.b1.cell 2
          have p2 := hrel.b2.cell 2
          have gl := hrel.b1.lt
          have pl := hrel.b2.lt
          by_cases hlt : i < ts.length
          · have hlt2 : i < ss.length := by have := HL.out; omega
            obtain ⟨ad, X, dd, rfl, -, c0, c1, c2, hd, hsub⟩ := (hr.mov hrel.below).at hlt
            obtain ⟨ad2, X2, dd2, rfl, -, d0, d1, d2, hd2, hsub2⟩ := (hr2.mov hrel.below).at hlt2
            have hih := fun (W : World) (hb : Below wr.heap.size wr W) => IH.out ts[i] (List.getElem_mem hlt) ss[i] X dd X2 dd2 W (hsub.mov hb) hd (hsub2.mov hb) hd2
            cases hv : sameB ts[i] ss[i]
            all_goals
              rw [hv] at hih
              have HI := Lib.hid hih
              have HV := Lib.hid hv
              clear hih hv
              go_wp2_with fail
              (obtain ⟨W2, hW2⟩ : ∃ W2, wr.alloc (.cells #[.int .i64 ts[i].k, .int .i64 ts[i].h, .slice X ts[i].a.length dd] 24) = W2 := ⟨_, rfl⟩; rw [hW2]; have hbW : Below wr.heap.size wr W2 := hW2 ▸ bl_alloc (Below.refl _ _) _; have e : Blk W2 wr.heap.size #[.int .i64 ts[i].k, .int .i64 ts[i].h, .slice X ts[i].a.length dd] 24 := hW2 ▸ Blk.new wr _ _; have e0 := e.cell 0; have e1 := e.cell 1; have e2 := e.cell 2; replace p2 := cell_mov p2 hbW; replace d0 := cell_mov d0 hbW; replace d1 := cell_mov d1 hbW; replace d2 := cell_mov d2 hbW; clear e hW2 c0 c1 c2 g2)
              go_still_tail 6, (by kernel_rfl)
              go_wp2_with (go_at_call 13; refine (HI.out _ (bl_eta hbW)).mono ?_; clear HI; rintro e w1 ⟨rfl, hb0⟩; have hb := bl_then (bl_eta hbW) hb0; clear hb0)
            · go_ret
              refine ⟨ret_bool ?_, bl_then hrel.below hb⟩
              rw [sameB, ← hrel.rest, List.drop_eq_getElem_cons hlt, List.drop_eq_getElem_cons hlt2, sameL, HV.out]
              simp
            · exact ⟨⟨i + 1, by go_num, hrel.next hlt hlt2 hb HV.out⟩, by simp [intOf]; omega⟩
          · have hi := hrel.le
            obtain rfl : i = ts.length := by omega
            go_wp2
            go_ret
            have hs := hrel.rest
            rw [List.drop_length, HL.out, List.drop_length, sameL] at hs
            exact ⟨ret_bool (by rw [sameB, ← hs]; simp), hrel.below⟩
      · have hl2 : ((ts.length : Int) != (ss.length : Int)) = true := by simp; omega
        go_enter Try.func13, Try.ntmps13
        go_wp2
        go_ret
        exact ⟨ret_bool (by rw [sameB, sameL_ne hl]; simp), bl_alloc (bl_alloc (Below.refl _ _) _) _⟩
    · have hq : (hh != h2) = true := by simpa using hh2
      go_enter Try.func13, Try.ntmps13
      go_wp2
      all_goals
        go_ret
        exact ⟨ret_bool (by rw [sameB]; simp [hh2]), bl_alloc (bl_alloc (Below.refl _ _) _) _⟩
  · have hq : (kk != k2) = true := by simpa using hk
    go_enter Try.func13, Try.ntmps13
    go_wp2
    all_goals
      go_ret
      exact ⟨ret_bool (by rw [sameB]; simp [hk]), bl_alloc (bl_alloc (Below.refl _ _) _) _⟩
end Go.Proofs.Ytaliphgdahpagaa
