/- The contracts of package amanuensisref01: nodes, Light, May; what is counted is the same both ways. -/
import Derived.Test.YtaliphgdahpagaaF2
namespace Go.Proofs.Ytaliphgdahpagaa
open Go.RowKit Go.Shelf

mutual
def nodesOk : Tm → Bool
  | ⟨k, h, a⟩ => mayN k h a.length && nodesOkL a
def nodesOkL : List Tm → Bool
  | [] => true
  | t :: l => nodesOk t && nodesOkL l
end

set_option maxHeartbeats 4000000 in
theorem nodesR_calls (t : Tm) : ∀ (A : Option Addr) (c : Nat) (w : World), Reads (fun _ => False) w A t.a → t.a.length ≤ c →
    Calls Try.prog 40 #[.agg #[.int .i64 t.k, .int .i64 t.h, .slice A t.a.length c]] w fun e w' => e = .returned (.bool (nodesOk t)) ∧ Below w.heap.size w w' := by
  induction t using Tm.ind with
  | h t ih =>
  intro A c w hr hc
  obtain ⟨kk, hh, ts⟩ := t
  dsimp only at hr hc ih ⊢
  have hlen := hr.len
  unfold lim at hlen
  have IH := Lib.hid ih
  clear ih
  cases hm : mayN kk hh ts.length
  · have HM := Lib.hid hm
    by_cases h0 : kk = 0
    · have hx : ¬ (hh = 0 ∧ ts.length = 0) := by rintro ⟨q1, q2⟩; simp [mayN, h0, q1, q2] at hm
      clear hm
      subst h0
      by_cases hz : hh = 0
      · have hq : ((ts.length : Int) != 0) = true := by simp; intro q; exact hx ⟨hz, by rw [q]; rfl⟩
        subst hz
        go_enter Try.func40, Try.ntmps40
        go_wp2
        go_ret
        exact ⟨ret_bool (by rw [nodesOk, HM.out]; rfl), bl_alloc (Below.refl _ _) _⟩
      · have hq : (hh != 0) = true := by simpa using hz
        go_enter Try.func40, Try.ntmps40
        go_wp2
        go_ret
        exact ⟨ret_bool (by rw [nodesOk, HM.out]; rfl), bl_alloc (Below.refl _ _) _⟩
    · by_cases h1 : kk = 1
      · have hx : ¬ (hh = 0 ∧ ts.length = 2) := by rintro ⟨q1, q2⟩; simp [mayN, h1, q1, q2] at hm
        clear hm h0
        subst h1
        by_cases hz : hh = 0
        · have hq : ((ts.length : Int) != 2) = true := by simp; intro q; exact hx ⟨hz, by omega⟩
          subst hz
          go_enter Try.func40, Try.ntmps40
          go_wp2
          go_ret
          exact ⟨ret_bool (by rw [nodesOk, HM.out]; rfl), bl_alloc (Below.refl _ _) _⟩
        · have hq : (hh != 0) = true := by simpa using hz
          go_enter Try.func40, Try.ntmps40
          go_wp2
          go_ret
          exact ⟨ret_bool (by rw [nodesOk, HM.out]; rfl), bl_alloc (Below.refl _ _) _⟩
      · by_cases h3 : kk = 3
        · have hx : ¬ (hh = 0 ∧ ts.length = 1) := by rintro ⟨q1, q2⟩; simp [mayN, h3, q1, q2] at hm
          clear hm h0 h1
          subst h3
          by_cases hz : hh = 0
          · have hq : ((ts.length : Int) != 1) = true := by simp; intro q; exact hx ⟨hz, by omega⟩
            subst hz
            go_enter Try.func40, Try.ntmps40
            go_wp2
            go_ret
            exact ⟨ret_bool (by rw [nodesOk, HM.out]; rfl), bl_alloc (Below.refl _ _) _⟩
          · have hq : (hh != 0) = true := by simpa using hz
            go_enter Try.func40, Try.ntmps40
            go_wp2
            go_ret
            exact ⟨ret_bool (by rw [nodesOk, HM.out]; rfl), bl_alloc (Below.refl _ _) _⟩
        · have hx : ¬ (0 ≤ kk ∧ kk < 7 ∧ 0 ≤ hh) := by rintro ⟨q1, q2, q3⟩; simp [mayN, h0, h1, h3, q1, q2, q3] at hm
          clear hm
          by_cases hz : hh < 0
          · go_enter Try.func40, Try.ntmps40
            go_wp2
            all_goals
              go_ret
              exact ⟨ret_bool (by rw [nodesOk, HM.out]; rfl), bl_alloc (Below.refl _ _) _⟩
          · have hk : kk < 0 ∨ 7 ≤ kk := by omega
            have q2 : (kk == 2) = false := by simp; omega
            have q4 : (kk == 4) = false := by simp; omega
            have q5 : (kk == 5) = false := by simp; omega
            have q6 : (kk == 6) = false := by simp; omega
            go_enter Try.func40, Try.ntmps40
            go_wp2
            all_goals
              go_ret
              exact ⟨ret_bool (by rw [nodesOk, HM.out]; rfl), bl_alloc (Below.refl _ _) _⟩
  · have HM := Lib.hid hm
    by_cases h0 : kk = 0
    · have hx : hh = 0 ∧ ts.length = 0 := by simpa [mayN, h0] using hm
      obtain ⟨rfl, hl⟩ := hx
      have hq : ((ts.length : Int) != 0) = false := by simp [hl]
      clear hm hl 
      subst h0
      go_enter Try.func40, Try.ntmps40
      go_wp2
      go_loopw [3] (fun j wr => ∃ (i : Nat), j = .int .i64 i ∧ TRel w 0 0 A ts c nodesOkL (nodesOkL ts) i wr) (fun j _ => ts.length - (intOf j).toNat)
      case atStart => exact ⟨0, rfl, TRel.zero _ _ _ _ _ _ _⟩
      case round =>
        obtain ⟨i, rfl, hrel⟩ := hrel
        have g2 := hrel.blk.cell 2
        by_cases hlt : i < ts.length
        · obtain ⟨ad, B, d, rfl, -, c0, c1, c2, hd, hsub⟩ := (hr.mov hrel.below).at hlt
          have hih := IH.out ts[i] (List.getElem_mem hlt) B d wr hsub hd
          cases hv : nodesOk ts[i]
          all_goals
            rw [hv] at hih
            have HI := Lib.hid hih
            have HV := Lib.hid hv
            clear hih hv
            go_wp2_with (go_at_call 40; refine HI.out.mono ?_; clear HI; rintro e w1 ⟨rfl, hb⟩)
          · go_ret
            refine ⟨ret_bool ?_, bl_then hrel.below hb⟩
            rw [nodesOk, ← hrel.rest, List.drop_eq_getElem_cons hlt, nodesOkL, HV.out]
            simp
          · exact ⟨⟨i + 1, by go_num, hrel.next hlt hb (by rw [nodesOkL, HV.out, Bool.true_and])⟩, by simp [intOf]; omega⟩
        · have hi := hrel.le
          obtain rfl : i = ts.length := by omega
          go_wp2
          go_ret
          have hs := hrel.rest
          simp only [List.drop_length, nodesOkL] at hs
          exact ⟨ret_bool (by rw [nodesOk, HM.out, ← hs]; rfl), hrel.below⟩
    · by_cases h1 : kk = 1
      · have hx : hh = 0 ∧ ts.length = 2 := by simpa [mayN, h1] using hm
        obtain ⟨rfl, hl⟩ := hx
        have hq : ((ts.length : Int) != 2) = false := by simp [hl]
        clear hm hl h0
        subst h1
        go_enter Try.func40, Try.ntmps40
        go_wp2
        go_loopw [3] (fun j wr => ∃ (i : Nat), j = .int .i64 i ∧ TRel w 1 0 A ts c nodesOkL (nodesOkL ts) i wr) (fun j _ => ts.length - (intOf j).toNat)
        case atStart => exact ⟨0, rfl, TRel.zero _ _ _ _ _ _ _⟩
        case round =>
          obtain ⟨i, rfl, hrel⟩ := hrel
          have g2 := hrel.blk.cell 2
          by_cases hlt : i < ts.length
          · obtain ⟨ad, B, d, rfl, -, c0, c1, c2, hd, hsub⟩ := (hr.mov hrel.below).at hlt
            have hih := IH.out ts[i] (List.getElem_mem hlt) B d wr hsub hd
            cases hv : nodesOk ts[i]
            all_goals
              rw [hv] at hih
              have HI := Lib.hid hih
              have HV := Lib.hid hv
              clear hih hv
              go_wp2_with (go_at_call 40; refine HI.out.mono ?_; clear HI; rintro e w1 ⟨rfl, hb⟩)
            · go_ret
              refine ⟨ret_bool ?_, bl_then hrel.below hb⟩
              rw [nodesOk, ← hrel.rest, List.drop_eq_getElem_cons hlt, nodesOkL, HV.out]
              simp
            · exact ⟨⟨i + 1, by go_num, hrel.next hlt hb (by rw [nodesOkL, HV.out, Bool.true_and])⟩, by simp [intOf]; omega⟩
          · have hi := hrel.le
            obtain rfl : i = ts.length := by omega
            go_wp2
            go_ret
            have hs := hrel.rest
            simp only [List.drop_length, nodesOkL] at hs
            exact ⟨ret_bool (by rw [nodesOk, HM.out, ← hs]; rfl), hrel.below⟩
      · by_cases h3 : kk = 3
        · have hx : hh = 0 ∧ ts.length = 1 := by simpa [mayN, h3] using hm
          obtain ⟨rfl, hl⟩ := hx
          have hq : ((ts.length : Int) != 1) = false := by simp [hl]
          clear hm hl h0 h1
          subst h3
          go_enter Try.func40, Try.ntmps40
          go_wp2
          go_loopw [3] (fun j wr => ∃ (i : Nat), j = .int .i64 i ∧ TRel w 3 0 A ts c nodesOkL (nodesOkL ts) i wr) (fun j _ => ts.length - (intOf j).toNat)
          case atStart => exact ⟨0, rfl, TRel.zero _ _ _ _ _ _ _⟩
          case round =>
            obtain ⟨i, rfl, hrel⟩ := hrel
            have g2 := hrel.blk.cell 2
            by_cases hlt : i < ts.length
            · obtain ⟨ad, B, d, rfl, -, c0, c1, c2, hd, hsub⟩ := (hr.mov hrel.below).at hlt
              have hih := IH.out ts[i] (List.getElem_mem hlt) B d wr hsub hd
              cases hv : nodesOk ts[i]
              all_goals
                rw [hv] at hih
                have HI := Lib.hid hih
                have HV := Lib.hid hv
                clear hih hv
                go_wp2_with (go_at_call 40; refine HI.out.mono ?_; clear HI; rintro e w1 ⟨rfl, hb⟩)
              · go_ret
                refine ⟨ret_bool ?_, bl_then hrel.below hb⟩
                rw [nodesOk, ← hrel.rest, List.drop_eq_getElem_cons hlt, nodesOkL, HV.out]
                simp
              · exact ⟨⟨i + 1, by go_num, hrel.next hlt hb (by rw [nodesOkL, HV.out, Bool.true_and])⟩, by simp [intOf]; omega⟩
            · have hi := hrel.le
              obtain rfl : i = ts.length := by omega
              go_wp2
              go_ret
              have hs := hrel.rest
              simp only [List.drop_length, nodesOkL] at hs
              exact ⟨ret_bool (by rw [nodesOk, HM.out, ← hs]; rfl), hrel.below⟩
        · have hx : 0 ≤ kk ∧ kk < 7 ∧ 0 ≤ hh := by simpa [mayN, h0, h1, h3, and_assoc] using hm
          obtain ⟨ha, hb, hz⟩ := hx
          clear hm
          by_cases h2 : kk = 2
          · subst h2
            clear h0 h1 h3 ha hb
            go_enter Try.func40, Try.ntmps40
            go_wp2
            go_loopw [3] (fun j wr => ∃ (i : Nat), j = .int .i64 i ∧ TRel w 2 hh A ts c nodesOkL (nodesOkL ts) i wr) (fun j _ => ts.length - (intOf j).toNat)
            case atStart => exact ⟨0, rfl, TRel.zero _ _ _ _ _ _ _⟩
            case round =>
              obtain ⟨i, rfl, hrel⟩ := hrel
              have g2 := hrel.blk.cell 2
              by_cases hlt : i < ts.length
              · obtain ⟨ad, B, d, rfl, -, c0, c1, c2, hd, hsub⟩ := (hr.mov hrel.below).at hlt
                have hih := IH.out ts[i] (List.getElem_mem hlt) B d wr hsub hd
                cases hv : nodesOk ts[i]
                all_goals
                  rw [hv] at hih
                  have HI := Lib.hid hih
                  have HV := Lib.hid hv
                  clear hih hv
                  go_wp2_with (go_at_call 40; refine HI.out.mono ?_; clear HI; rintro e w1 ⟨rfl, hb⟩)
                · go_ret
                  refine ⟨ret_bool ?_, bl_then hrel.below hb⟩
                  rw [nodesOk, ← hrel.rest, List.drop_eq_getElem_cons hlt, nodesOkL, HV.out]
                  simp
                · exact ⟨⟨i + 1, by go_num, hrel.next hlt hb (by rw [nodesOkL, HV.out, Bool.true_and])⟩, by simp [intOf]; omega⟩
              · have hi := hrel.le
                obtain rfl : i = ts.length := by omega
                go_wp2
                go_ret
                have hs := hrel.rest
                simp only [List.drop_length, nodesOkL] at hs
                exact ⟨ret_bool (by rw [nodesOk, HM.out, ← hs]; rfl), hrel.below⟩
          by_cases h4 : kk = 4
          · subst h4
            clear h0 h1 h3 ha hb
            go_enter Try.func40, Try.ntmps40
            go_wp2
            go_loopw [3] (fun j wr => ∃ (i : Nat), j = .int .i64 i ∧ TRel w 4 hh A ts c nodesOkL (nodesOkL ts) i wr) (fun j _ => ts.length - (intOf j).toNat)
            case atStart => exact ⟨0, rfl, TRel.zero _ _ _ _ _ _ _⟩
            case round =>
              obtain ⟨i, rfl, hrel⟩ := hrel
              have g2 := hrel.blk.cell 2
              by_cases hlt : i < ts.length
              · obtain ⟨ad, B, d, rfl, -, c0, c1, c2, hd, hsub⟩ := (hr.mov hrel.below).at hlt
                have hih := IH.out ts[i] (List.getElem_mem hlt) B d wr hsub hd
                cases hv : nodesOk ts[i]
                all_goals
                  rw [hv] at hih
                  have HI := Lib.hid hih
                  have HV := Lib.hid hv
                  clear hih hv
                  go_wp2_with (go_at_call 40; refine HI.out.mono ?_; clear HI; rintro e w1 ⟨rfl, hb⟩)
                · go_ret
                  refine ⟨ret_bool ?_, bl_then hrel.below hb⟩
                  rw [nodesOk, ← hrel.rest, List.drop_eq_getElem_cons hlt, nodesOkL, HV.out]
                  simp
                · exact ⟨⟨i + 1, by go_num, hrel.next hlt hb (by rw [nodesOkL, HV.out, Bool.true_and])⟩, by simp [intOf]; omega⟩
              · have hi := hrel.le
                obtain rfl : i = ts.length := by omega
                go_wp2
                go_ret
                have hs := hrel.rest
                simp only [List.drop_length, nodesOkL] at hs
                exact ⟨ret_bool (by rw [nodesOk, HM.out, ← hs]; rfl), hrel.below⟩
          by_cases h5 : kk = 5
          · subst h5
            clear h0 h1 h3 ha hb
            go_enter Try.func40, Try.ntmps40
            go_wp2
            go_loopw [3] (fun j wr => ∃ (i : Nat), j = .int .i64 i ∧ TRel w 5 hh A ts c nodesOkL (nodesOkL ts) i wr) (fun j _ => ts.length - (intOf j).toNat)
            case atStart => exact ⟨0, rfl, TRel.zero _ _ _ _ _ _ _⟩
            case round =>
              obtain ⟨i, rfl, hrel⟩ := hrel
              have g2 := hrel.blk.cell 2
              by_cases hlt : i < ts.length
              · obtain ⟨ad, B, d, rfl, -, c0, c1, c2, hd, hsub⟩ := (hr.mov hrel.below).at hlt
                have hih := IH.out ts[i] (List.getElem_mem hlt) B d wr hsub hd
                cases hv : nodesOk ts[i]
                all_goals
                  rw [hv] at hih
                  have HI := Lib.hid hih
                  have HV := Lib.hid hv
                  clear hih hv
                  go_wp2_with (go_at_call 40; refine HI.out.mono ?_; clear HI; rintro e w1 ⟨rfl, hb⟩)
                · go_ret
                  refine ⟨ret_bool ?_, bl_then hrel.below hb⟩
                  rw [nodesOk, ← hrel.rest, List.drop_eq_getElem_cons hlt, nodesOkL, HV.out]
                  simp
                · exact ⟨⟨i + 1, by go_num, hrel.next hlt hb (by rw [nodesOkL, HV.out, Bool.true_and])⟩, by simp [intOf]; omega⟩
              · have hi := hrel.le
                obtain rfl : i = ts.length := by omega
                go_wp2
                go_ret
                have hs := hrel.rest
                simp only [List.drop_length, nodesOkL] at hs
                exact ⟨ret_bool (by rw [nodesOk, HM.out, ← hs]; rfl), hrel.below⟩
          obtain rfl : kk = 6 := by omega
          clear h0 h1 h3 ha hb h2 h4 h5
          go_enter Try.func40, Try.ntmps40
          go_wp2
          go_loopw [3] (fun j wr => ∃ (i : Nat), j = .int .i64 i ∧ TRel w 6 hh A ts c nodesOkL (nodesOkL ts) i wr) (fun j _ => ts.length - (intOf j).toNat)
          case atStart => exact ⟨0, rfl, TRel.zero _ _ _ _ _ _ _⟩
          case round =>
            obtain ⟨i, rfl, hrel⟩ := hrel
            have g2 := hrel.blk.cell 2
            by_cases hlt : i < ts.length
            · obtain ⟨ad, B, d, rfl, -, c0, c1, c2, hd, hsub⟩ := (hr.mov hrel.below).at hlt
              have hih := IH.out ts[i] (List.getElem_mem hlt) B d wr hsub hd
              cases hv : nodesOk ts[i]
              all_goals
                rw [hv] at hih
                have HI := Lib.hid hih
                have HV := Lib.hid hv
                clear hih hv
                go_wp2_with (go_at_call 40; refine HI.out.mono ?_; clear HI; rintro e w1 ⟨rfl, hb⟩)
              · go_ret
                refine ⟨ret_bool ?_, bl_then hrel.below hb⟩
                rw [nodesOk, ← hrel.rest, List.drop_eq_getElem_cons hlt, nodesOkL, HV.out]
                simp
              · exact ⟨⟨i + 1, by go_num, hrel.next hlt hb (by rw [nodesOkL, HV.out, Bool.true_and])⟩, by simp [intOf]; omega⟩
            · have hi := hrel.le
              obtain rfl : i = ts.length := by omega
              go_wp2
              go_ret
              have hs := hrel.rest
              simp only [List.drop_length, nodesOkL] at hs
              exact ⟨ret_bool (by rw [nodesOk, HM.out, ← hs]; rfl), hrel.below⟩

mutual
def cnt : Tm → Nat
  | ⟨_, _, a⟩ => 1 + cntL a
def cntL : List Tm → Nat
  | [] => 0
  | t :: l => cnt t + cntL l
end
theorem wrap_add (a b : Int) : wrap64 (wrap64 a + wrap64 b) = wrap64 (a + b) := by
  unfold wrap64
  omega
mutual
theorem sizeR_eq : ∀ t : Tm, sizeR t = wrap64 (cnt t : Int)
  | ⟨_, _, a⟩ => by
    have h := sizeRL_eq a 1
    have e : wrap64 ((1 : Nat) : Int) = 1 := by unfold wrap64; omega
    rw [e] at h
    rw [sizeR, cnt, h]
theorem sizeRL_eq : ∀ (l : List Tm) (m : Nat), sizeRL (wrap64 (m : Int)) l = wrap64 ((m + cntL l : Nat) : Int)
  | [], m => by rw [sizeRL, cntL]; rfl
  | t :: l, m => by
    rw [sizeRL, sizeR_eq t, wrap_add, ← Int.natCast_add, sizeRL_eq l, cntL, Nat.add_assoc]
end
mutual
theorem nodesW_len : ∀ (t : Tm) (n : Int), (nodesW t n).length = cnt t
  | ⟨k, h, a⟩, n => by rw [nodesW, cnt, List.length_cons, nodesL_len]; omega
theorem nodesL_len : ∀ (b : Bool) (l : List Tm) (n : Int), (nodesL b l n).length = cntL l
  | _, [], _ => rfl
  | b, t :: l, n => by rw [nodesL, cntL, List.length_append, nodesW_len, nodesL_len]
end
theorem sizeW_eq (t : Tm) : sizeW t = sizeR t := by rw [sizeW, nodesW_len, sizeR_eq]
mutual
theorem nodesW_ok : ∀ (t : Tm) (n : Int), ((nodesW t n).all fun x => mayN x.2.k x.2.h x.2.a.length) = nodesOk t
  | ⟨k, h, a⟩, n => by rw [nodesW, nodesOk, List.all_cons, nodesL_ok]
theorem nodesL_ok : ∀ (b : Bool) (l : List Tm) (n : Int), ((nodesL b l n).all fun x => mayN x.2.k x.2.h x.2.a.length) = nodesOkL l
  | _, [], _ => rfl
  | b, t :: l, n => by rw [nodesL, nodesOkL, List.all_append, nodesW_ok, nodesL_ok]
end
theorem mayB_eq (t : Tm) : mayB t = (decide (depthW t ≤ 60) && (decide (sizeR t ≤ 4000) && nodesOk t)) := by rw [mayB, sizeW_eq, nodesW_ok]

def lightB (t : Tm) (n d : Int) : Bool := lowB t && (decide (sizeR t ≤ n) && decide (depthW t ≤ d))

set_option maxHeartbeats 1000000 in
theorem MayR_calls (t : Tm) (A : Option Addr) (c : Nat) (w : World) (hr : Reads (fun _ => False) w A t.a) (hc : t.a.length ≤ c) :
    Calls Try.prog 23 #[.agg #[.int .i64 t.k, .int .i64 t.h, .slice A t.a.length c]] w fun e w' => e = .returned (.bool (mayB t)) ∧ Below w.heap.size w w' := by
  have hbo : Below w.heap.size w (w.alloc (.cells #[.int .i64 t.k, .int .i64 t.h, .slice A t.a.length c] 24)) := bl_alloc (Below.refl _ _) _
  have HB := Lib.hid hbo
  have hbk := Blk.new w #[.int .i64 t.k, .int .i64 t.h, .slice A t.a.length c] 24
  have HK := Lib.hid hbk
  have hD := fun (W : World) (hb : Below w.heap.size w W) => nodesR_calls t A c W (hr.mov hb) hc
  have hS := fun (W : World) (hb : Below w.heap.size w W) => SizeR_calls t A c W (hr.mov hb) hc
  have hA := fun (W : World) (hb : Below w.heap.size w W) => DepthR_calls t A c W (hr.mov hb) hc
  have HD := Lib.hid hD
  have HS := Lib.hid hS
  have HA := Lib.hid hA
  clear hbo hbk hD hS hA
  have hm : mayB t = (nodesOk t && (decide (sizeR t ≤ 4000) && decide (depthW t ≤ 60))) := (by rw [mayB_eq]; cases nodesOk t <;> simp [Bool.and_comm])
  generalize sizeR t = sz at *
  generalize depthW t = de at *
  generalize nodesOk t = al at *
  cases al
  · have HM := Lib.hid hm
    clear hm
    go_enter Try.func23, Try.ntmps23
    go_wp2_with (go_at_call 40; refine (HD.out _ HB.out).mono ?_; clear HD; rintro e w1 ⟨rfl, hb⟩)
    go_ret
    exact ⟨ret_bool (by rw [HM.out]; rfl), bl_then HB.out hb⟩
  · cases h2 : decide (sz ≤ 4000)
    · rw [h2] at hm
      have HM := Lib.hid hm
      clear hm
      go_enter Try.func23, Try.ntmps23
      go_wp2_with (first
        | (go_at_call 40; refine (HD.out _ HB.out).mono ?_; clear HD; rintro e w1 ⟨rfl, hb⟩; have q := HK.out.mov hb; have q0 := q.cell 0; have q1 := q.cell 1; have q2 := q.cell 2; clear q)
        | (go_at_call 18; refine (HS.out _ (bl_then HB.out hb)).mono ?_; clear HS; rintro e w2 ⟨rfl, hb2⟩))
      go_ret
      exact ⟨ret_bool (by rw [HM.out]; rfl), bl_then (bl_then HB.out hb) hb2⟩
    · rw [h2] at hm
      have HM := Lib.hid hm
      clear hm
      go_enter Try.func23, Try.ntmps23
      go_wp2_with (first
        | (go_at_call 40; refine (HD.out _ HB.out).mono ?_; clear HD; rintro e w1 ⟨rfl, hb⟩; have q := HK.out.mov hb; have q0 := q.cell 0; have q1 := q.cell 1; have q2 := q.cell 2; clear q)
        | (go_at_call 18; refine (HS.out _ (bl_then HB.out hb)).mono ?_; clear HS; rintro e w2 ⟨rfl, hb2⟩; have p := (HK.out.mov hb).mov hb2; have p0 := p.cell 0; have p1 := p.cell 1; have p2 := p.cell 2; clear p)
        | (go_at_call 19; refine (HA.out _ (bl_then (bl_then HB.out hb) hb2)).mono ?_; clear HA; rintro e w3 ⟨rfl, hb3⟩))
      go_ret
      exact ⟨ret_bool (by rw [HM.out]; rfl), bl_then (bl_then (bl_then HB.out hb) hb2) hb3⟩

set_option maxHeartbeats 1000000 in
theorem Light_calls (t : Tm) (A : Option Addr) (c : Nat) (n d : Int) (w : World) (hr : Reads (fun _ => False) w A t.a) (hc : t.a.length ≤ c) :
    Calls Try.prog 8 #[.agg #[.int .i64 t.k, .int .i64 t.h, .slice A t.a.length c], .int .i64 n, .int .i64 d] w fun e w' => e = .returned (.bool (lightB t n d)) ∧ Below w.heap.size w w' := by
  have hbo : Below w.heap.size w (w.alloc (.cells #[.int .i64 t.k, .int .i64 t.h, .slice A t.a.length c] 24)) := bl_alloc (Below.refl _ _) _
  have HB := Lib.hid hbo
  have hbk := Blk.new w #[.int .i64 t.k, .int .i64 t.h, .slice A t.a.length c] 24
  have HK := Lib.hid hbk
  have hD := fun (W : World) (hb : Below w.heap.size w W) => low_calls t A c W (hr.mov hb) hc
  have hS := fun (W : World) (hb : Below w.heap.size w W) => SizeR_calls t A c W (hr.mov hb) hc
  have hA := fun (W : World) (hb : Below w.heap.size w W) => DepthR_calls t A c W (hr.mov hb) hc
  have HD := Lib.hid hD
  have HS := Lib.hid hS
  have HA := Lib.hid hA
  clear hbo hbk hD hS hA
  have hm : lightB t n d = (lowB t && (decide (sizeR t ≤ n) && decide (depthW t ≤ d))) := rfl
  generalize sizeR t = sz at *
  generalize depthW t = de at *
  generalize lowB t = al at *
  cases al
  · have HM := Lib.hid hm
    clear hm
    go_enter Try.func8, Try.ntmps8
    go_wp2_with (go_at_call 17; refine (HD.out _ HB.out).mono ?_; clear HD; rintro e w1 ⟨rfl, hb⟩)
    go_ret
    exact ⟨ret_bool (by rw [HM.out]; rfl), bl_then HB.out hb⟩
  · cases h2 : decide (sz ≤ n)
    · rw [h2] at hm
      have HM := Lib.hid hm
      clear hm
      go_enter Try.func8, Try.ntmps8
      go_wp2_with (first
        | (go_at_call 17; refine (HD.out _ HB.out).mono ?_; clear HD; rintro e w1 ⟨rfl, hb⟩; have q := HK.out.mov hb; have q0 := q.cell 0; have q1 := q.cell 1; have q2 := q.cell 2; clear q)
        | (go_at_call 18; refine (HS.out _ (bl_then HB.out hb)).mono ?_; clear HS; rintro e w2 ⟨rfl, hb2⟩))
      go_ret
      exact ⟨ret_bool (by rw [HM.out]; rfl), bl_then (bl_then HB.out hb) hb2⟩
    · rw [h2] at hm
      have HM := Lib.hid hm
      clear hm
      go_enter Try.func8, Try.ntmps8
      go_wp2_with (first
        | (go_at_call 17; refine (HD.out _ HB.out).mono ?_; clear HD; rintro e w1 ⟨rfl, hb⟩; have q := HK.out.mov hb; have q0 := q.cell 0; have q1 := q.cell 1; have q2 := q.cell 2; clear q)
        | (go_at_call 18; refine (HS.out _ (bl_then HB.out hb)).mono ?_; clear HS; rintro e w2 ⟨rfl, hb2⟩; have p := (HK.out.mov hb).mov hb2; have p0 := p.cell 0; have p1 := p.cell 1; have p2 := p.cell 2; clear p)
        | (go_at_call 19; refine (HA.out _ (bl_then (bl_then HB.out hb) hb2)).mono ?_; clear HA; rintro e w3 ⟨rfl, hb3⟩))
      go_ret
      exact ⟨ret_bool (by rw [HM.out]; rfl), bl_then (bl_then (bl_then HB.out hb) hb2) hb3⟩
end Go.Proofs.Ytaliphgdahpagaa
