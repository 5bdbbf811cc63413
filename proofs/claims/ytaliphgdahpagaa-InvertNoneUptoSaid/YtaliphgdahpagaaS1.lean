/- Under what a renaming leaves a term as it is; the law InvertSame. -/
import Derived.Test.YtaliphgdahpagaaI6
import Derived.Test.YtaliphgdahpagaaBI
import Derived.Test.YtaliphgdahpagaaRU
namespace Go.Proofs.Ytaliphgdahpagaa
open Go.RowKit Go.Shelf

mutual
/-- All variables are such numbers as this bound tells. -/
def headsB (b : Int) : Tm → Prop
  | ⟨k, h, a⟩ => (k = 4 → 0 ≤ h ∧ h ≤ b) ∧ headsBL b a
def headsBL (b : Int) : List Tm → Prop
  | [] => True
  | t :: l => headsB b t ∧ headsBL b l
end

mutual
theorem renW_same (rn : Int → Option Int) (hrn : ∀ j, 0 ≤ j → j ≤ 9223372036854775807 → rn j = some j) : ∀ (t : Tm) (n : Int), headsB 9223372036854775807 t → 0 ≤ n → n + cnt t ≤ 4611686018427387904 → renW rn t n = some t
  | ⟨k, h, a⟩, n, hh, h0, h1 => by
    rw [headsB] at hh
    rw [cnt] at h1
    have e : headR rn k h n = some h := by
      unfold headR
      split
      · rename_i hk
        have := hh.1 hk.1
        have hw : wrap64 (h - n) = h - n := by unfold wrap64; omega
        rw [hw, hrn _ (by omega) (by omega)]
        simp only [Option.map_some]
        have : wrap64 (h - n + n) = h := by unfold wrap64; omega
        rw [this]
      · rfl
    rw [renW, e, Option.bind_some, renL_same rn hrn (isB k) a n hh.2 h0 (by omega)]
    rfl
theorem renL_same (rn : Int → Option Int) (hrn : ∀ j, 0 ≤ j → j ≤ 9223372036854775807 → rn j = some j) : ∀ (b : Bool) (l : List Tm) (n : Int), headsBL 9223372036854775807 l → 0 ≤ n → n + cntL l + 1 ≤ 4611686018427387904 → renL rn b l n = some l
  | b, [], n, _, _, _ => by rw [renL]
  | b, t :: l, n, hh, h0, h1 => by
    rw [headsBL] at hh
    rw [cntL] at h1
    have hl : 0 ≤ lastN b l n ∧ lastN b l n ≤ n + 1 := by
      unfold lastN
      split
      · have : wrap64 (n + 1) = n + 1 := by unfold wrap64; omega
        omega
      · omega
    rw [renL, renW_same rn hrn t (lastN b l n) hh.1 hl.1 (by omega), Option.bind_some, renL_same rn hrn b l n hh.2 h0 (by omega)]
    rfl
end

/-- n-1, n-2, .., k of them. -/
def downs (n : Int) (k : Nat) : List Int := (List.range k).map fun (j : Nat) => n - 1 - (j : Int)
theorem downs_succ (n : Int) (k : Nat) : downs n k ++ [n - 1 - (k : Int)] = downs n (k + 1) := by unfold downs; rw [List.range_succ, List.map_append]; rfl
theorem downs_len (n : Int) (k : Nat) : (downs n k).length = k := by simp [downs]
theorem downs_at {n : Int} {k i : Nat} (hi : i < (downs n k).length) : (downs n k)[i] = n - 1 - (i : Int) := by simp [downs]

theorem downs_may {n : Int} (h0 : 0 ≤ n) (h1 : n ≤ 1000) : MayV (downs n n.toNat) n := by
  refine ⟨h0, h1, fun i hi => ?_⟩
  have hi' := hi
  rw [downs_len] at hi'
  rw [downs_at hi]
  refine ⟨by omega, by omega, fun q => ?_⟩
  obtain ⟨j, hj, hji, e⟩ := mem_take q
  rw [downs_at hj] at e
  omega

theorem downs_rn {n : Int} (h0 : 0 ≤ n) (h1 : n ≤ 1000) {j : Int} (hj : 0 ≤ j) (hj2 : j ≤ 9223372036854775807) : rnV (downs n n.toNat) n j = some j := by
  have hl := downs_len n n.toNat
  unfold rnV
  rw [hl]
  split
  · have : wrap64 (wrap64 (j - n) + (n.toNat : Int)) = j := by unfold wrap64; omega
    rw [this]
  · have hix : ∀ m i : Nat, i + m = (n - j).toNat - 1 → idxFrom j i ((downs n n.toNat).drop i) = n - 1 - j := by
      intro m
      induction m with
      | zero =>
        intro i hi
        have hlt : i < (downs n n.toNat).length := by omega
        rw [idxFrom_at hlt, downs_at hlt, if_pos (by omega)]
        omega
      | succ m ih =>
        intro i hi
        have hlt : i < (downs n n.toNat).length := by omega
        rw [idxFrom_at hlt, downs_at hlt, if_neg (by omega)]
        exact ih (i + 1) (by omega)
    have hmem : j ∈ downs n n.toNat := by
      have hlt : (n - 1 - j).toNat < (downs n n.toNat).length := by omega
      have e := downs_at hlt
      rw [show n - 1 - ((n - 1 - j).toNat : Int) = j from by omega] at e
      exact e ▸ List.getElem_mem hlt
    have := hix ((n - j).toNat - 1) 0 (by omega)
    rw [List.drop_zero] at this
    rw [if_pos hmem, this]
    congr 1
    omega

theorem none_may : MayV [] 0 := ⟨by omega, by omega, fun i hi => absurd hi (Nat.not_lt_zero i)⟩
theorem none_rn {j : Int} (hj : 0 ≤ j) (hj2 : j ≤ 9223372036854775807) : rnV [] 0 j = some j := by
  unfold rnV
  rw [if_pos hj]
  have : wrap64 (wrap64 (j - 0) + (([] : List Int).length : Int)) = j := by simp only [List.length_nil]; unfold wrap64; omega
  rw [this]

mutual
/-- What may be, and has whole numbers of 64 bits, has such variables. -/
theorem heads_of : ∀ t, nodesOk t = true → okT t → headsB 9223372036854775807 t
  | ⟨k, h, a⟩, hm, hk => by
    rw [nodesOk, Bool.and_eq_true] at hm
    rw [okT] at hk
    rw [headsB]
    refine ⟨fun e => ?_, headsL_of a hm.2 hk.2.2⟩
    subst e
    have := hm.1
    simp [mayN] at this
    omega
theorem headsL_of : ∀ l, nodesOkL l = true → okL l → headsBL 9223372036854775807 l
  | [], _, _ => by rw [headsBL]; trivial
  | t :: l, hm, hk => by
    rw [nodesOkL, Bool.and_eq_true] at hm
    rw [okL] at hk
    rw [headsBL]
    exact ⟨heads_of t hm.1 hk.1, headsL_of l hm.2 hk.2⟩
end

theorem inv_same_all {t : Tm} {n : Int} (hm : mayB t = true) (hk : okT t) (hc : cnt t ≤ 1048576) (h0 : 0 ≤ n) (h1 : n ≤ 1000) : invV t (downs n n.toNat) n = (some t, 0) := by
  have hh : nodesOk t = true := by rw [mayB_eq] at hm; simp at hm; exact hm.2.2
  rw [invV, hm, mayV_true (downs_may h0 h1), renW_same _ (fun j a b => downs_rn h0 h1 a b) t 0 (heads_of t hh hk) (by omega) (by omega)]
  rfl
theorem inv_same_none {t : Tm} (hm : mayB t = true) (hk : okT t) (hc : cnt t ≤ 1048576) : invV t [] 0 = (some t, 0) := by
  have hh : nodesOk t = true := by rw [mayB_eq] at hm; simp at hm; exact hm.2.2
  rw [invV, hm, mayV_true none_may, renW_same _ (fun j a b => none_rn a b) t 0 (heads_of t hh hk) (by omega) (by omega)]
  rfl

structure DownRel (w : World) (g0 : Nat) (cs : Array Value) (n : Int) (k : Nat) (v : Value) (wr : World) : Prop where
  le : (k : Int) ≤ n
  below : Below w.heap.size w wr
  blk : Blk wr g0 cs 24
  mine : MineI (g0 + 1) wr v (downs n k)

set_option maxHeartbeats 4000000 in
theorem InvertSame_calls (t : Tm) (A : Option Addr) (c : Nat) (n : Int) (w : World) (hr : Reads (fun _ => False) w A t.a) (hc : t.a.length ≤ c) (hk : okT t) (hcn : cnt t ≤ 1048576) :
    Calls Try.prog 4 #[.agg #[.int .i64 t.k, .int .i64 t.h, .slice A t.a.length c], .int .i64 n] w fun e w' => e = .returned (.bool true) ∧ Below w.heap.size w w' := by
  have hb0 : Below w.heap.size w (w.alloc (.cells #[.int .i64 t.k, .int .i64 t.h, .slice A t.a.length c] 24)) := bl_alloc (Below.refl _ _) _
  have e0 := Blk.new w #[.int .i64 t.k, .int .i64 t.h, .slice A t.a.length c] 24
  have HB0 := Lib.hid hb0
  have E0 := Lib.hid e0
  have HL := Lib.hid (fun (W : World) (hb : Below w.heap.size w W) => Light_calls t A c 3000 60 W (hr.mov hb) hc)
  have HM := Lib.hid (fun (W : World) (hb : Below w.heap.size w W) => May_calls t A c W (hr.mov hb) hc)
  have HI := Lib.hid (fun (xs : List Int) (A2 : Option Addr) (c2 : Nat) (m : Int) (W : World) (hb : Below w.heap.size w W) (hr2 : RdI (fun _ => False) W A2 xs) (hc2 : xs.length ≤ c2) => Invert_calls (fun _ => False) t A c xs A2 c2 m W (fun _ q => q.elim) (hr.mov hb) hc hr2 hc2)
  have HR := Lib.hid (fun (W : World) (hb : Below w.heap.size w W) => hr.mov hb)
  have hinv1 : mayB t = true → 0 ≤ n → n ≤ 100 → invV t (downs n n.toNat) n = (some t, 0) := fun a b d => inv_same_all a hk hcn b (by omega)
  have hinv2 : mayB t = true → invV t [] 0 = (some t, 0) := fun a => inv_same_none a hk hcn
  have HV1 := Lib.hid hinv1
  have HV2 := Lib.hid hinv2
  clear hb0 e0 hinv1 hinv2
  generalize lightB t 3000 60 = lb at *
  generalize mayB t = mb at *
  go_enter Try.func4, Try.ntmps4
  go_wp2_with (first
    | (go_at_call 7; refine (awake_calls _).mono ?_; rintro e w1 ⟨rfl, hb1⟩; have p := E0.out.mov hb1; have p0 := p.cell 0; have p1 := p.cell 1; have p2 := p.cell 2; clear p)
    | (go_at_call 8; refine (HL.out _ (bl_then HB0.out hb1)).mono ?_; clear HL; rintro e w2 ⟨rfl, hb2⟩; have hb := bl_then hb1 hb2; have q := E0.out.mov hb; have q0 := q.cell 0; have q1 := q.cell 1; have q2 := q.cell 2; clear q p0 p1 p2)
    | (go_at_call 12; refine (HM.out _ (bl_then HB0.out hb)).mono ?_; clear HM; rintro e w3 ⟨rfl, hb3⟩; have hw3 := bl_then hb hb3; have q := E0.out.mov hw3; have q0 := q.cell 0; have q1 := q.cell 1; have q2 := q.cell 2; clear q))
  all_goals first
    | (go_ret; first | exact ⟨rfl, bl_then HB0.out hw3⟩ | exact ⟨rfl, bl_then HB0.out hb⟩)
    | skip
  have hmb : mb = true := by assumption
  have hn0 : 0 ≤ n := by omega
  have hn1 : n ≤ 100 := by omega
  subst hmb
  have q := E0.out.mov hw3
  have hrel0 : DownRel w w.heap.size #[.int .i64 t.k, .int .i64 t.h, .slice A t.a.length c] n 0 (.slice none 0 0) w3 := ⟨by omega, bl_then HB0.out hw3, q, MineI.nil _ _⟩
  clear q q0 q1 q2
  have hrel1 := Lib.hid hrel0
  clear hrel0
  go_loopw [7, 8] (fun v x wr => ∃ k : Nat, x = .int .i64 (n - 1 - (k : Int)) ∧ DownRel w w.heap.size #[.int .i64 t.k, .int .i64 t.h, .slice A t.a.length c] n k v wr) (fun _ x _ => (intOf x + 1).toNat)
  case atStart => exact ⟨0, by simp, hrel1.out⟩
  case round =>
    clear hrel1
    obtain ⟨k, rfl, hrel⟩ := hrel
    have hml := hrel.mine.lt
    have hmg := hrel.mine.ge
    have hbw := hrel.below
    have hbl := hrel.blk.lt
    by_cases hlt : (k : Int) < n
    · go_wp2_with (first
        | (at_builtin; refine append_int rfl _ _ rfl (w.heap.size + 1) u7 (downs n k) (n - 1 - (k : Int)) rfl rfl (by simp) hrel.mine ?bb ?ll ?_
           case bb => exact hbl
           case ll => (rw [downs_len]; unfold limI; omega)
           rintro v1 w1 hm1 hg1 hat
           rw [downs_succ] at hm1))
      refine ⟨⟨k + 1, by go_num, by omega, bl_grown hbw hg1 (fun j e => Nat.le_trans (Nat.le_succ _) (hmg j e)), hrel.blk.grown hg1 (fun e => by have := hmg _ e.symm; omega), hm1⟩, by simp [intOf]; omega⟩
    · have hkn : k = n.toNat := by have := hrel.le; omega
      subst hkn
      obtain ⟨A2, c2, rfl, hc2, hr2⟩ := hrel.mine.reads (by rw [downs_len]; unfold limI; omega)
      have HR2 := Lib.hid hr2
      have HBK := Lib.hid hrel.blk
      have hinv1 := HV1.out rfl hn0 hn1
      have hinv2 := HV2.out rfl
      have HJ1 := Lib.hid (HI.out (downs n n.toNat) A2 c2 n wr hbw hr2 hc2)
      have HJ2 := Lib.hid (fun (W : World) (hb : Below w.heap.size w W) => HI.out [] none 0 0 W hb ⟨Nat.zero_le _, fun i hi => absurd hi (Nat.not_lt_zero i)⟩ (Nat.le_refl _))
      rw [hinv1] at HJ1
      rw [hinv2] at HJ2
      have p := hrel.blk
      have p0 := p.cell 0
      have p1 := p.cell 1
      have p2 := p.cell 2
      clear HI HV1 HV2 hinv1 hinv2 p hr2
      go_wp2_with (first
        | (go_at_call 9; refine HJ1.out.mono ?_; clear HJ1; rintro e w4 ⟨hb4, (⟨hn, _⟩ | ⟨u, B4, c4, hs, rfl, hc4, hr4⟩)⟩; (exact absurd hn (by simp)); (obtain rfl := Option.some.inj hs); clear hs; have q := HBK.out.mov hb4; have q0 := q.cell 0; have q1 := q.cell 1; have q2 := q.cell 2; have ql := q.lt; have HQ := Lib.hid q; clear q p0 p1 p2)
        | (go_at_call 9; refine (HJ2.out _ (bl_alloc (bl_then hbw hb4) _)).mono ?_; clear HJ2; rintro e w5 ⟨hb5, (⟨hn, _⟩ | ⟨u, B5, c5, hs, rfl, hc5, hr5⟩)⟩; (exact absurd hn (by simp)); (obtain rfl := Option.some.inj hs); clear hs q0 q1 q2 ql
           have q := (HQ.out.mov (bl_alloc (Below.refl _ _) _)).mov hb5; have q0 := q.cell 0; have q1 := q.cell 1; have q2 := q.cell 2; have ql := q.lt; have HQ2 := Lib.hid q
           have r := (Blk.new w4 #[.int .i64 t.k, .int .i64 t.h, .slice B4 t.a.length c4] 24).mov hb5; have r0 := r.cell 0; have r1 := r.cell 1; have r2 := r.cell 2; have rl := r.lt
           have hr4' := (hr4.mov (bl_alloc (Below.refl _ _) (.cells #[.int .i64 t.k, .int .i64 t.h, .slice B4 t.a.length c4] 24))).mov hb5
           have hw5 := bl_then (bl_alloc (bl_then hbw hb4) (.cells #[.int .i64 t.k, .int .i64 t.h, .slice B4 t.a.length c4] 24)) hb5
           clear q r)
        | (go_at_call 13; refine (Same_calls t t B4 c4 A c _ (hr4'.mov (bl_alloc (Below.refl _ _) _)) hc4 (HR.out _ (bl_alloc hw5 _)) hc).mono ?_; clear hr4'; rintro e w6 ⟨rfl, hb6⟩; rw [sameB_refl]
           clear q0 q1 q2 ql r0 r1 r2 rl
           have q := (HQ2.out.mov (bl_alloc (Below.refl _ _) _)).mov hb6; have q0 := q.cell 0; have q1 := q.cell 1; have q2 := q.cell 2; have ql := q.lt
           have r := (Blk.new w5 #[.int .i64 t.k, .int .i64 t.h, .slice B5 t.a.length c5] 24).mov hb6; have r0 := r.cell 0; have r1 := r.cell 1; have r2 := r.cell 2; have rl := r.lt
           have hr5' := (hr5.mov (bl_alloc (Below.refl _ _) (.cells #[.int .i64 t.k, .int .i64 t.h, .slice B5 t.a.length c5] 24))).mov hb6
           have hw6 := bl_then (bl_alloc hw5 (.cells #[.int .i64 t.k, .int .i64 t.h, .slice B5 t.a.length c5] 24)) hb6
           clear q r)
        | (go_at_call 13; refine (Same_calls t t B5 c5 A c _ hr5' hc5 (HR.out _ hw6) hc).mono ?_; rintro e w7 ⟨rfl, hb7⟩; rw [sameB_refl]))
      go_ret
      exact ⟨rfl, bl_then hw6 hb7⟩

theorem InvertSame_row (w : World) (t : Tm) (A : Option Addr) (c : Nat) (hr : Reads (fun _ => False) w A t.a) (hc : t.a.length ≤ c) (g : okT t) (n : Int) (_ : -9223372036854775808 ≤ n ∧ n ≤ 9223372036854775807) (hcn : cnt t ≤ 1048576) :
    Calls Try.prog 4 #[.agg #[.int .i64 t.k, .int .i64 t.h, .slice A t.a.length c], .int .i64 n] w fun e w' => e = .returned (.bool true) ∧ Below w.heap.size w w' :=
  InvertSame_calls t A c n w hr hc g hcn
end Go.Proofs.Ytaliphgdahpagaa
