/- Under no variables: as down; the law InvertNone. -/
import Derived.Test.YtaliphgdahpagaaS1
import Derived.Test.YtaliphgdahpagaaC4
namespace Go.Proofs.Ytaliphgdahpagaa
open Go.RowKit Go.Shelf

mutual
theorem ren_down (m : Int) (hm : 0 ≤ m ∧ m ≤ 1000) : ∀ (t : Tm) (n : Int), headsB 9223372036854775807 t → 0 ≤ n → n + cnt t ≤ 4611686018427387904 → renW (rnV [] m) t n = chgW (downV m 0) t n
  | ⟨k, h, a⟩, n, hh, h0, h1 => by
    rw [headsB] at hh
    rw [cnt] at h1
    have e : headR (rnV [] m) k h n = if k = 4 then downV m 0 h n else some h := by
      unfold headR
      by_cases hk : k = 4
      · have hb := hh.1 hk
        rw [if_pos hk]
        unfold downV
        have w1 : wrap64 (0 + n) = n := by unfold wrap64; omega
        have w2 : wrap64 (n + m) = n + m := by unfold wrap64; omega
        rw [w1, w2]
        by_cases hn : n ≤ h
        · rw [if_pos ⟨hk, hn⟩, if_neg (by omega)]
          have w3 : wrap64 (h - n) = h - n := by unfold wrap64; omega
          rw [w3]
          unfold rnV
          by_cases hm2 : m ≤ h - n
          · rw [if_pos hm2, if_neg (by omega)]
            simp only [Option.map_some, List.length_nil]
            congr 1
            unfold wrap64
            omega
          · rw [if_neg hm2, if_neg (by simp), if_pos (by omega)]
            rfl
        · rw [if_neg (fun q => hn q.2), if_pos (by omega)]
      · rw [if_neg (fun q => hk q.1), if_neg hk]
    rw [renW, chgW, e, renL_down m hm (isB k) a n hh.2 h0 (by omega)]
theorem renL_down (m : Int) (hm : 0 ≤ m ∧ m ≤ 1000) : ∀ (b : Bool) (l : List Tm) (n : Int), headsBL 9223372036854775807 l → 0 ≤ n → n + cntL l + 1 ≤ 4611686018427387904 → renL (rnV [] m) b l n = chgL (downV m 0) b l n
  | b, [], n, _, _, _ => by rw [renL, chgL]
  | b, t :: l, n, hh, h0, h1 => by
    rw [headsBL] at hh
    rw [cntL] at h1
    have hl : 0 ≤ lastN b l n ∧ lastN b l n ≤ n + 1 := by
      unfold lastN
      split
      · have : wrap64 (n + 1) = n + 1 := by unfold wrap64; omega
        omega
      · omega
    rw [renL, chgL, ren_down m hm t (lastN b l n) hh.1 hl.1 (by omega), renL_down m hm b l n hh.2 h0 (by omega)]
end

theorem nil_may {n : Int} (h0 : 0 ≤ n) (h1 : n ≤ 1000) : MayV [] n := ⟨h0, h1, fun i hi => absurd hi (Nat.not_lt_zero i)⟩

theorem inv_none {t : Tm} {n : Int} (hm : mayB t = true) (hk : okT t) (hc : cnt t ≤ 1048576) (h0 : 0 ≤ n) (h1 : n ≤ 1000) :
    (∃ u, invV t [] n = (some u, 0) ∧ downT t n 0 = some u) ∨ (invV t [] n = (none, 7) ∧ downT t n 0 = none) := by
  have hh : nodesOk t = true := by rw [mayB_eq] at hm; simp at hm; exact hm.2.2
  have hs : mayS t n 0 = true := by unfold mayS; rw [hm]; simp; omega
  rw [invV, hm, mayV_true (nil_may h0 h1), downT, if_pos hs, ren_down n ⟨h0, h1⟩ t 0 (heads_of t hh hk) (by omega) (by omega)]
  cases chgW (downV n 0) t 0 with
  | none => exact .inr ⟨rfl, rfl⟩
  | some u => exact .inl ⟨u, rfl, rfl⟩


set_option maxHeartbeats 4000000 in
theorem InvertNone_calls (t : Tm) (A : Option Addr) (c : Nat) (n : Int) (w : World) (hr : Reads (fun _ => False) w A t.a) (hc : t.a.length ≤ c) (hk : okT t) (hcn : cnt t ≤ 1048576) :
    Calls Try.prog 5 #[.agg #[.int .i64 t.k, .int .i64 t.h, .slice A t.a.length c], .int .i64 n] w fun e w' => e = .returned (.bool true) ∧ Below w.heap.size w w' := by
  have hb0 : Below w.heap.size w (w.alloc (.cells #[.int .i64 t.k, .int .i64 t.h, .slice A t.a.length c] 24)) := bl_alloc (Below.refl _ _) _
  have e0 := Blk.new w #[.int .i64 t.k, .int .i64 t.h, .slice A t.a.length c] 24
  have HB0 := Lib.hid hb0
  have E0 := Lib.hid e0
  have HL := Lib.hid (fun (W : World) (hb : Below w.heap.size w W) => Light_calls t A c 3000 60 W (hr.mov hb) hc)
  have HM := Lib.hid (fun (W : World) (hb : Below w.heap.size w W) => May_calls t A c W (hr.mov hb) hc)
  have HI := Lib.hid (fun (W : World) (hb : Below w.heap.size w W) => Invert_calls (fun _ => False) t A c [] none 0 n W (fun _ q => q.elim) (hr.mov hb) hc ⟨Nat.zero_le _, fun i hi => absurd hi (Nat.not_lt_zero i)⟩ (Nat.le_refl _))
  have HD := Lib.hid (fun (W : World) (hb : Below w.heap.size w W) => Down_calls (fun _ => False) t A c n 0 W (fun _ q => q.elim) (hr.mov hb) hc)
  have hinv : mayB t = true → 0 ≤ n → n ≤ 100 → (∃ u, invV t [] n = (some u, 0) ∧ downT t n 0 = some u) ∨ (invV t [] n = (none, 7) ∧ downT t n 0 = none) := fun a b d => inv_none a hk hcn b (by omega)
  have HV := Lib.hid hinv
  clear hb0 e0 hinv
  generalize lightB t 3000 60 = lb at *
  generalize mayB t = mb at *
  generalize invV t [] n = iv at *
  generalize downT t n 0 = dv at *
  have hcase : (mb = true ∧ 0 ≤ n ∧ n ≤ 100) ∨ ¬ (mb = true ∧ 0 ≤ n ∧ n ≤ 100) := Classical.em _
  rcases hcase with ⟨rfl, hn0, hn1⟩ | hno
  · rcases HV.out rfl hn0 hn1 with ⟨u, rfl, rfl⟩ | ⟨rfl, rfl⟩
    · clear HV
      go_enter Try.func5, Try.ntmps5
      go_wp2_with (first
        | (go_at_call 7; refine (awake_calls _).mono ?_; rintro e w1 ⟨rfl, hb1⟩; have p := E0.out.mov hb1; have p0 := p.cell 0; have p1 := p.cell 1; have p2 := p.cell 2; clear p)
        | (go_at_call 8; refine (HL.out _ (bl_then HB0.out hb1)).mono ?_; clear HL; rintro e w2 ⟨rfl, hb2⟩; have hb := bl_then hb1 hb2; have q := E0.out.mov hb; have q0 := q.cell 0; have q1 := q.cell 1; have q2 := q.cell 2; clear q p0 p1 p2)
        | (go_at_call 12; refine (HM.out _ (bl_then HB0.out hb)).mono ?_; clear HM; rintro e w3 ⟨rfl, hb3⟩; have hw3 := bl_then hb hb3; clear q0 q1 q2; have q := E0.out.mov hw3; have q0 := q.cell 0; have q1 := q.cell 1; have q2 := q.cell 2; clear q)
        | (go_at_call 9; refine (HI.out _ (bl_then HB0.out hw3)).mono ?_; clear HI; rintro e w4 ⟨hb4, (⟨hn, _⟩ | ⟨u1, B4, c4, hs, rfl, hc4, hr4⟩)⟩; (exact absurd hn (by simp)); (obtain rfl := Option.some.inj hs); clear hs q0 q1 q2; have hw4 := bl_then hw3 hb4; have q := E0.out.mov hw4; have q0 := q.cell 0; have q1 := q.cell 1; have q2 := q.cell 2; have ql := q.lt; clear q)
        | (go_at_call 14; refine (HD.out _ (bl_alloc (bl_then HB0.out hw4) _)).mono ?_; clear HD; rintro e w5 ⟨hb5, (⟨hn, _⟩ | ⟨u2, B5, c5, hs, rfl, hc5, hr5⟩)⟩; (exact absurd hn (by simp)); (obtain rfl := Option.some.inj hs); clear hs q0 q1 q2 ql
           have r := (Blk.new w4 #[.int .i64 u.k, .int .i64 u.h, .slice B4 u.a.length c4] 24).mov hb5; have r0 := r.cell 0; have r1 := r.cell 1; have r2 := r.cell 2; have rl := r.lt
           have hr4' := (hr4.mov (bl_alloc (Below.refl _ _) (.cells #[.int .i64 u.k, .int .i64 u.h, .slice B4 u.a.length c4] 24))).mov hb5
           have hw5 := bl_then (bl_alloc (bl_then HB0.out hw4) (.cells #[.int .i64 u.k, .int .i64 u.h, .slice B4 u.a.length c4] 24)) hb5
           clear r)
        | (go_at_call 13; refine (Same_calls u u B4 c4 B5 c5 _ (hr4'.mov (bl_alloc (Below.refl _ _) _)) hc4 (hr5.mov (bl_alloc (Below.refl _ _) _)) hc5).mono ?_; rintro e w6 ⟨rfl, hb6⟩; rw [sameB_refl]))
      all_goals first
        | (go_ret; first | exact ⟨rfl, bl_then (bl_alloc hw5 _) hb6⟩ | exact ⟨rfl, bl_then HB0.out hw3⟩ | exact ⟨rfl, bl_then HB0.out hb⟩)
    · clear HV
      go_enter Try.func5, Try.ntmps5
      go_wp2_with (first
        | (go_at_call 7; refine (awake_calls _).mono ?_; rintro e w1 ⟨rfl, hb1⟩; have p := E0.out.mov hb1; have p0 := p.cell 0; have p1 := p.cell 1; have p2 := p.cell 2; clear p)
        | (go_at_call 8; refine (HL.out _ (bl_then HB0.out hb1)).mono ?_; clear HL; rintro e w2 ⟨rfl, hb2⟩; have hb := bl_then hb1 hb2; have q := E0.out.mov hb; have q0 := q.cell 0; have q1 := q.cell 1; have q2 := q.cell 2; clear q p0 p1 p2)
        | (go_at_call 12; refine (HM.out _ (bl_then HB0.out hb)).mono ?_; clear HM; rintro e w3 ⟨rfl, hb3⟩; have hw3 := bl_then hb hb3; clear q0 q1 q2; have q := E0.out.mov hw3; have q0 := q.cell 0; have q1 := q.cell 1; have q2 := q.cell 2; clear q)
        | (go_at_call 9; refine (HI.out _ (bl_then HB0.out hw3)).mono ?_; clear HI; rintro e w4 ⟨hb4, (⟨_, rfl⟩ | ⟨u1, B4, c4, hs, _, _, _⟩)⟩; rotate_left; (exact absurd hs (by simp)); clear q0 q1 q2; have hw4 := bl_then hw3 hb4; have q := E0.out.mov hw4; have q0 := q.cell 0; have q1 := q.cell 1; have q2 := q.cell 2; have ql := q.lt; clear q)
        | (go_at_call 14; refine (HD.out _ (bl_alloc (bl_then HB0.out hw4) _)).mono ?_; clear HD; rintro e w5 ⟨hb5, (⟨_, rfl⟩ | ⟨u1, B5, c5, hs, _, _, _⟩)⟩; rotate_left; (exact absurd hs (by simp)); clear q0 q1 q2 ql
           have r := (Blk.new w4 #[.int .i64 0, .int .i64 0, .slice none 0 0] 24).mov hb5; have r0 := r.cell 0; have r1 := r.cell 1; have r2 := r.cell 2; have rl := r.lt
           have hw5 := bl_then (bl_alloc (bl_then HB0.out hw4) (.cells #[.int .i64 0, .int .i64 0, .slice none 0 0] 24)) hb5
           clear r)
        | (go_at_call 13; refine (Same_calls ⟨0, 0, []⟩ ⟨0, 0, []⟩ none 0 none 0 _ (.nil _) (Nat.le_refl _) (.nil _) (Nat.le_refl _)).mono ?_; rintro e w6 ⟨rfl, hb6⟩; rw [sameB_refl]))
      all_goals first
        | (go_ret; first | exact ⟨rfl, bl_then (bl_alloc hw5 _) hb6⟩ | exact ⟨rfl, bl_then HB0.out hw3⟩ | exact ⟨rfl, bl_then HB0.out hb⟩)
  · have HNO := Lib.hid hno
    clear HV hno HI HD
    go_enter Try.func5, Try.ntmps5
    go_wp2_with (first
      | (go_at_call 7; refine (awake_calls _).mono ?_; rintro e w1 ⟨rfl, hb1⟩; have p := E0.out.mov hb1; have p0 := p.cell 0; have p1 := p.cell 1; have p2 := p.cell 2; clear p)
      | (go_at_call 8; refine (HL.out _ (bl_then HB0.out hb1)).mono ?_; clear HL; rintro e w2 ⟨rfl, hb2⟩; have hb := bl_then hb1 hb2; have q := E0.out.mov hb; have q0 := q.cell 0; have q1 := q.cell 1; have q2 := q.cell 2; clear q p0 p1 p2)
      | (go_at_call 12; refine (HM.out _ (bl_then HB0.out hb)).mono ?_; clear HM; rintro e w3 ⟨rfl, hb3⟩; have hw3 := bl_then hb hb3; clear q0 q1 q2; have q := E0.out.mov hw3; have q0 := q.cell 0; have q1 := q.cell 1; have q2 := q.cell 2; clear q))
    all_goals first
      | (go_ret; first | exact ⟨rfl, bl_then HB0.out hw3⟩ | exact ⟨rfl, bl_then HB0.out hb⟩)
      | (exfalso; refine HNO.out ⟨by assumption, by omega, by omega⟩)

theorem InvertNone_row (w : World) (t : Tm) (A : Option Addr) (c : Nat) (hr : Reads (fun _ => False) w A t.a) (hc : t.a.length ≤ c) (g : okT t) (n : Int) (_ : -9223372036854775808 ≤ n ∧ n ≤ 9223372036854775807) (hcn : cnt t ≤ 1048576) :
    Calls Try.prog 5 #[.agg #[.int .i64 t.k, .int .i64 t.h, .slice A t.a.length c], .int .i64 n] w fun e w' => e = .returned (.bool true) ∧ Below w.heap.size w w' :=
  InvertNone_calls t A c n w hr hc g hcn
end Go.Proofs.Ytaliphgdahpagaa
