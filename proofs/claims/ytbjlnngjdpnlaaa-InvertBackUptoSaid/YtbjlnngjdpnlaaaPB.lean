/- The law InvertBack. -/
import Derived.Test.YtbjlnngjdpnlaaaPV
import Derived.Test.YtbjlnngjdpnlaaaO7
import Derived.Test.YtbjlnngjdpnlaaaI6
import Derived.Test.YtbjlnngjdpnlaaaRU
import Derived.Deep.RegionHeld2
import Derived.Deep.RegionLaw
namespace Go.Proofs.Ytbjlnngjdpnlaaa
open Go.RowKit Go.Shelf
set_option linter.unusedVariables false
set_option linter.unusedSimpArgs false

theorem bl_drewNb {a w : World} (h : Below a.heap.size a w) (n : Nat) : Below a.heap.size a (w.drewN n) := ⟨h.os, h.tape, h.output, h.size, h.block⟩
theorem in_takeb {ms : List Int} {h : Int} {i : Nat} (hi : i < ms.length) : decide (h ∈ ms.take (i + 1)) = (decide (h ∈ ms.take i) || (ms[i] == h)) := by
  rw [List.take_add_one, List.getElem?_eq_getElem hi, Bool.eq_iff_iff]
  simp only [Option.toList, decide_eq_true_eq, Bool.or_eq_true, beq_iff_eq, List.mem_append, List.mem_singleton]
  constructor
  · rintro (h | h)
    · exact .inl h
    · exact .inr h.symm
  · rintro (h | h)
    · exact .inl h
    · exact .inr h.symm
theorem miss_take {l xs : List Int} {n : Int} {i : Nat} (hi : i < l.length) : missV (l.take (i + 1)) xs n = (missV (l.take i) xs n || !(decide (n ≤ l[i]) || decide (l[i] ∈ xs))) := by
  unfold missV
  rw [List.take_add_one, List.getElem?_eq_getElem hi, List.any_append]
  simp
structure MsRel (l xs : List Int) (n : Int) (w : World) (i : Nat) (v : Bool) (wr : World) : Prop where
  le : i ≤ l.length
  below : Below w.heap.size w wr
  is : v = missV (l.take i) xs n
structure InRelb (h : Int) (xs : List Int) (n : Int) (w : World) (k : Nat) (v : Bool) (wr : World) : Prop where
  le : k ≤ xs.length
  below : Below w.heap.size w wr
  is : v = (decide (n ≤ h) || decide (h ∈ xs.take k))


set_option maxRecDepth 100000 in
set_option maxHeartbeats 16000000 in
theorem InvertBack_row (w : World) (t : Tm) (A : Option Addr) (c : Nat) (hr : Reads (fun _ => False) w A t.a) (hc : t.a.length ≤ c) (g : okT t) (xs : List Int) (A2 : Option Addr) (c2 : Nat) (hr2 : RdI (fun _ => False) w A2 xs) (hc2 : xs.length ≤ c2) (_ : ∀ x ∈ xs, -9223372036854775808 ≤ x ∧ x ≤ 9223372036854775807)
    (n : Int) (_ : -9223372036854775808 ≤ n ∧ n ≤ 9223372036854775807) (hcn : cnt t + xs.length ≤ 1048576) :
    Calls Try.prog 3 #[.agg #[.int .i64 t.k, .int .i64 t.h, .slice A t.a.length c], .slice A2 xs.length c2, .int .i64 n] w fun e w' => e = .returned (.bool true) ∧ Below w.heap.size w w' := by
  have hb0 : Below w.heap.size w (w.alloc (.cells #[.int .i64 t.k, .int .i64 t.h, .slice A t.a.length c] 24)) := bl_alloc (Below.refl _ _) _
  have e0 := Blk.new w #[.int .i64 t.k, .int .i64 t.h, .slice A t.a.length c] 24
  have HB0 := Lib.hid hb0
  have E0 := Lib.hid e0
  have hxl := hr2.1
  unfold limI at hxl
  have HL := Lib.hid (fun (W : World) (hb : Below w.heap.size w W) => Light_calls t A c 1000 60 W (hr.mov hb) hc)
  have HM := Lib.hid (fun (W : World) (hb : Below w.heap.size w W) => May_calls t A c W (hr.mov hb) hc)
  have HME := Lib.hid (fun (W : World) (hb : Below w.heap.size w W) => Metas_calls t A c W (hr.mov hb) hc g (by unfold limI; omega))
  have HVA := Lib.hid (fun (W : World) (hb : Below w.heap.size w W) => Vars_calls t A c W (hr.mov hb) hc g (by unfold limI; omega))
  have HMO0 := Lib.hid (fun (W : World) (hb : Below w.heap.size w W) => metaOf_calls (fun k => k < W.heap.size) xs A2 c2 W (fun k q => q) (hr2.mov hb) (by omega))
  have HI := Lib.hid (fun (W : World) (hb : Below w.heap.size w W) => Invert_calls (fun _ => False) t A c xs A2 c2 n W (fun _ q => q.elim) (hr.mov hb) hc (hr2.mov hb) hc2)
  have HR := Lib.hid (fun (W : World) (hb : Below w.heap.size w W) => hr.mov hb)
  have HX2 := Lib.hid (fun (W : World) (hb : Below w.heap.size w W) => hr2.mov hb)
  have HP : Hid (lightB t 1000 60 = true → mayB t = true → xs.length ≤ 20 → ∀ u, invV t xs n = (some u, 0) → FillV [u] ⟨6, 0, varsT xs⟩ n = .ok t ∧ MayV xs n ∧ renW (rnV xs n) t 0 = some u ∧ hB 4398046511104 u ∧ cnt u ≤ 1000 ∧ cnt u = cnt t) := fun h1 h2 h3 u h4 => back_pure (by omega) h1 h2 h3 h4
  have HI3 : Hid (mayB t = true → (∃ u, invV t xs n = (some u, 0) ∧ renW (rnV xs n) t 0 = some u) ∨ invV t xs n = (none, 1) ∨ (invV t xs n = (none, 7) ∧ renW (rnV xs n) t 0 = none)) := fun h => inv3 h
  obtain ⟨mt, hmt⟩ : ∃ b, mayB t = b := ⟨_, rfl⟩
  obtain ⟨lb, hlb⟩ : ∃ b, lightB t 1000 60 = b := ⟨_, rfl⟩
  rw [hmt] at HM HI3 HP
  rw [hlb] at HL HP
  clear hb0 e0 hr hmt hlb hr2 g
  have hcond : (lb = true ∧ mt = true ∧ xs.length ≤ 20) ∨ ¬ (lb = true ∧ mt = true ∧ xs.length ≤ 20) := Classical.em _
  rcases hcond with ⟨rfl, rfl, hx20⟩ | hno
  · have hx20' : ¬ (20 : Int) < (xs.length : Int) := by omega
    rcases HI3.out rfl with ⟨u, hu, hren⟩ | hu | ⟨hu, hren⟩
    · obtain ⟨hP1, hP2, hP3, hP4, hP5, hP6⟩ := HP.out rfl rfl hx20 u hu
      have HBX := Lib.hid hP4
      have HVV := Lib.hid (may_le hP2)
      have HXL := Lib.hid hx20
      have HCN := Lib.hid hP5
      have HCE := Lib.hid hP6
      have HREN := Lib.hid hren
      have HFT := Lib.hid hP1
      rw [hu] at HI
      clear HP HI3 hu hren hP1 hP2 hP3 hP4 hP5 hP6
      go_enter Try.func3, Try.ntmps3
      go_wp2_with (first
        | (go_at_call 5; refine (awake_calls _).mono ?_; rintro e w1 ⟨rfl, hb1⟩; have hw1 := bl_then HB0.out hb1; have p := E0.out.mov hb1; have p0 := p.cell 0; have p1 := p.cell 1; have p2 := p.cell 2; clear p)
        | (go_at_call 6; refine (HL.out _ hw1).mono ?_; clear HL p0 p1 p2; rintro e w2 ⟨rfl, hb2⟩; have hw2 := bl_then hw1 hb2; have p := (E0.out.mov hb1).mov hb2; have p0 := p.cell 0; have p1 := p.cell 1; have p2 := p.cell 2; clear p)
        | (go_at_call 7; refine (HM.out _ hw2).mono ?_; clear HM p0 p1 p2; rintro e w3 ⟨rfl, hb3⟩; have hw3 := bl_then hw2 hb3; have p := ((E0.out.mov hb1).mov hb2).mov hb3; have p0 := p.cell 0; have p1 := p.cell 1; have p2 := p.cell 2; clear p)
        | (go_at_call 8; refine (HME.out _ hw3).mono ?_; clear HME p0 p1 p2; rintro e w4 ⟨⟨ml, Bm, cm, rfl, -, -, -, -, -⟩, hb4⟩; have hw4 := bl_then hw3 hb4; have E4 := Lib.hid ((((E0.out.mov hb1).mov hb2).mov hb3).mov hb4); have p0 := E4.out.cell 0; have p1 := E4.out.cell 1; have p2 := E4.out.cell 2)
        | (go_at_call 9; refine (HI.out _ hw4).mono ?_; clear HI p0 p1 p2; rintro e w5 ⟨hb5, (⟨hn, _⟩ | ⟨u5, BU, cU, hs, rfl, hcU, hrU⟩)⟩; (exact absurd hn (by simp)); (obtain rfl := Option.some.inj hs); clear hs; have hw5 := bl_then hw4 hb5; have E5 := Lib.hid (E4.out.mov hb5); have p0 := E5.out.cell 0; have p1 := E5.out.cell 1; have p2 := E5.out.cell 2; have pl := E5.out.lt)
        | (go_at_call 10
           refine (HVA.out _ (bl_alloc hw5 _)).mono ?_
           clear HVA p0 p1 p2
           rintro e w6 ⟨⟨l, B6, c6, rfl, hc6, hl6, hr6, -, hme6⟩, hb6⟩
           have hw6 := bl_then (bl_alloc hw5 _) hb6
           have HR6 := Lib.hid hr6
           have HME6 := Lib.hid hme6
           have HXB := Lib.hid ((Blk.nw w5 #[.int .i64 u.k, .int .i64 u.h, .slice BU u.a.length cU] 24 _ rfl).mov hb6)
           have HTB := Lib.hid ((E5.out.al (.cells #[.int .i64 u.k, .int .i64 u.h, .slice BU u.a.length cU] 24)).mov hb6)
           have hl8 := hr6.1
           unfold limI at hl8
           clear hr6 hme6))
      all_goals first
        | (go_ret; first | exact ⟨rfl, hw4⟩ | exact ⟨rfl, hw3⟩ | exact ⟨rfl, hw2⟩)
        | skip
      go_loopw [12, 13] (fun b j wr => ∃ (i : Nat) (v : Bool), b = .bool v ∧ j = .int .i64 i ∧ MsRel l xs n w6 i v wr) (fun _ j _ => l.length - (intOf j).toNat)
      case atStart => exact ⟨0, false, rfl, rfl, Nat.zero_le _, Below.refl _ _, by simp [missV]⟩
      case round =>
        obtain ⟨i, v, rfl, rfl, hrel⟩ := hrel
        have hbw := hrel.below
        by_cases hli : i < l.length
        · have HREL := Lib.hid hrel
          obtain ⟨ad6, e6, -, m6⟩ := (HR6.out.mov hbw).2 i hli
          cases e6
          have hi1 : (i : Int) < (l.length : Int) := by omega
          clear hrel
          go_wp2_with fail
          go_loopw [14, 15] (fun b k wq => ∃ (k' : Nat) (v2 : Bool), b = .bool v2 ∧ k = .int .i64 k' ∧ InRelb l[i] xs n w6 k' v2 wq) (fun _ k _ => xs.length - (intOf k).toNat)
          case atStart => exact ⟨0, _, rfl, rfl, Nat.zero_le _, hbw, by simp⟩
          case round =>
            obtain ⟨k, v2, rfl, rfl, hin⟩ := hrel
            have hbq := hin.below
            have his := hin.is
            by_cases hlk : k < xs.length
            · obtain ⟨ad2, e2, -, m2⟩ := (HX2.out _ (bl_then hw6 hbq)).2 k hlk
              cases e2
              obtain ⟨ad7, e7, -, m7⟩ := (HR6.out.mov hbq).2 i hli
              cases e7
              have hk1 : (k : Int) < (xs.length : Int) := by omega
              have hnx := in_takeb (h := l[i]) hlk
              have HN := Lib.hid hnx
              have HIS := Lib.hid his
              clear his hnx hin m6
              cases v2
              · go_wp2_with fail
                go_quiet (fail)
                go_wp2_with fail
                exact ⟨⟨k + 1, _, rfl, by go_num, hlk, bl_drewNb hbq _, by rw [HN.out, ← Bool.or_assoc, ← HIS.out]; rfl⟩, by simp [intOf]; omega⟩
              · go_wp2_with fail
                go_quiet (fail)
                go_wp2_with fail
                exact ⟨⟨k + 1, true, rfl, by go_num, hlk, bl_drewNb hbq _, by rw [HN.out, ← Bool.or_assoc, ← HIS.out]; rfl⟩, by simp [intOf]; omega⟩
            · obtain rfl : k = xs.length := by have := hin.le; omega
              rw [List.take_length] at his
              have hmi := HREL.out.is
              have hmt := miss_take (xs := xs) (n := n) hli
              rw [← his, ← hmi] at hmt
              have HMT := Lib.hid hmt
              clear his hmi hmt hin m6
              cases v <;> cases v2
              all_goals
                go_wp2_with fail
                exact ⟨⟨i + 1, _, rfl, by go_num, hli, hbq, HMT.out.symm⟩, by simp [intOf]; omega⟩
        · obtain rfl : i = l.length := by have := hrel.le; omega
          have hmv := hrel.is
          rw [List.take_length, miss_ren HME6.out] at hmv
          have hwr := bl_then hw6 hbw
          clear hrel
          rw [HREN.out] at hmv
          simp at hmv
          subst hmv
          have HMO := Lib.hid (fun (W : World) (hb : Below wr.heap.size wr W) => HMO0.out W (bl_then hwr hb))
          have HXW := Lib.hid (HXB.out.mov hbw)
          have HTW := Lib.hid (HTB.out.mov hbw)
          have HRX := Lib.hid ((hrU.mov (bl_alloc (Below.refl w5.heap.size w5) (.cells #[.int .i64 u.k, .int .i64 u.h, .slice BU u.a.length cU] 24))).mov (bl_then hb6 hbw))
          have HCX := Lib.hid hcU
          have HGE : Hid (w5.heap.size < wr.heap.size) := HXW.out.lt
          go_upto_region 21 with fail
          go_cut [16, 17] (fun sb se wx => ∃ g B7 c7, sb = .pointer (some ⟨g, 0, none⟩) ∧ se = .int .i64 0 ∧ Below wr.heap.size wr wx ∧ Blk wx g #[.int .i64 t.k, .int .i64 t.h, .slice B7 t.a.length c7] 24 ∧ t.a.length ≤ c7 ∧ Reads (fun _ => False) wx B7 t.a)
          case first =>
            have HC : Hid (∀ W, Below wr.heap.size wr W → (Below wr.heap.size wr W ∧ W.cell? ⟨w5.heap.size, 0, none⟩ = some (.int .i64 u.k) ∧ W.cell? ⟨w5.heap.size, 1, none⟩ = some (.int .i64 u.h) ∧ W.cell? ⟨w5.heap.size, 2, none⟩ = some (.slice BU u.a.length cU))) := fun W hb => ⟨hb, (HXW.out.mov hb).cell 0, (HXW.out.mov hb).cell 1, (HXW.out.mov hb).cell 2⟩
            go_region_held2 (fun W => (Below wr.heap.size wr W ∧ W.cell? ⟨w5.heap.size, 0, none⟩ = some (.int .i64 u.k) ∧ W.cell? ⟨w5.heap.size, 1, none⟩ = some (.int .i64 u.h) ∧ W.cell? ⟨w5.heap.size, 2, none⟩ = some (.slice BU u.a.length cU)))
              ((first | exact HC.out _ (bl_set3 hx7 (by (have h5 := hx5.size; (try simp only [World.size_drew, World.size_alloc] at h5 ⊢); omega))) | exact HC.out _ (bl_set3 (bl_alloc hx7 _) hx7.size) | exact HC.out _ hx7 | exact HC.out _ (bl_alloc hx7 _) | exact HC.out _ hx5 | exact HC.out _ (bl_alloc hx5 _) | exact HC.out _ (bl_alloc (bl_alloc hx5 _) _) | exact HC.out _ (Below.refl _ _) | exact HC.out _ (Below.refl _ _).drew | exact HC.out _ (bl_alloc (Below.refl _ _) _).drew | exact HC.out _ (bl_alloc (bl_alloc (Below.refl _ _) _) _).drew))
              (first
                | (go_at_call 12
                   refine (HMO.out _ ?hbm).mono ?_
                   case hbm => first | exact (Below.refl _ _).drew | exact (bl_alloc (Below.refl _ _) _).drew | exact (bl_alloc (bl_alloc (Below.refl _ _) _) _).drew
                   rintro e w5 ⟨hb5, B5, c5, rfl, hc5, hr5⟩
                   have hx5 : Below wr.heap.size wr w5 := by first | exact bl_undrew hb5 | exact bl_then (bl_alloc (Below.refl _ _) _) (bl_undrew hb5) | exact bl_then (bl_alloc (bl_alloc (Below.refl _ _) _) _) (bl_undrew hb5))
                | (go_at_call 11
                   refine (fillVars_calls u t BU cU xs n wr _ w5 _ B5 c5 _ HRX.out HCX.out ?h1 hb5 ?h3 hr5 hc5 ?hs ?hg HFT.out HBX.out HCN.out HVV.out HXL.out).mono ?_
                   case h1 => first | exact (Below.refl _ _).drew | exact (bl_alloc (Below.refl _ _) _).drew | exact (bl_alloc (bl_alloc (Below.refl _ _) _) _).drew
                   case h3 => first | exact Below.refl _ _ | exact bl_alloc (Below.refl _ _) _ | exact bl_alloc (bl_alloc (Below.refl _ _) _) _
                   case hs => first
                     | exact Blk.nw _ _ _ _ (by simp)
                     | exact (Blk.nw _ _ _ _ (by simp)).al _
                     | exact (Blk.drew (Blk.nw _ _ _ _ (by simp))).mov hb5
                     | exact (Blk.drew ((Blk.nw _ _ _ _ (by simp)).al _)).mov hb5
                     | exact ((Blk.drew (Blk.nw _ _ _ _ (by simp))).mov hb5).al _
                   case hg => have h5 := hx5.size; (try simp only [World.size_drew, World.size_alloc] at h5 ⊢); omega
                   rintro e w7 ⟨hb7, B7, c7, rfl, hc7, hr7⟩
                   have hx7 : Below wr.heap.size wr w7 := by first | exact bl_then hx5 hb7 | exact bl_then (bl_alloc hx5 _) hb7 | exact bl_then (bl_alloc (bl_alloc hx5 _) _) hb7
                   have HZ7 : Hid (∀ (g : Nat) (cs : Array Value) (t : TypeId), Blk _ g cs t → Blk w7 g cs t) := fun g cs t h => h.mov hb7
                   have HZ5 : Hid (∀ (g : Nat) (cs : Array Value) (t : TypeId), Blk _ g cs t → Blk w5 g cs t) := fun g cs t h => h.mov hb5
                   first
                     | have zb := HZ7.out _ #[.int .i64 0, .int .i64 0, .slice none 0 0] 24 (Blk.nw _ _ _ _ rfl)
                     | have zb := HZ7.out _ #[.int .i64 0, .int .i64 0, .slice none 0 0] 24 ((Blk.nw _ _ _ _ rfl).al _)
                     | have zb := HZ7.out _ #[.int .i64 0, .int .i64 0, .slice none 0 0] 24 (HZ5.out _ _ _ (Blk.drew (Blk.nw _ _ _ _ rfl)))
                     | have zb := HZ7.out _ #[.int .i64 0, .int .i64 0, .slice none 0 0] 24 (HZ5.out _ _ _ (Blk.drew ((Blk.nw _ _ _ _ rfl).al _)))
                     | have zb := HZ7.out _ #[.int .i64 0, .int .i64 0, .slice none 0 0] 24 ((HZ5.out _ _ _ (Blk.drew (Blk.nw _ _ _ _ rfl))).al _)
                     | skip
                   (try simp only [World.size_drew, World.size_alloc] at zb)
                   (try have z0 := zb.cell 0)
                   (try have z1 := zb.cell 1)
                   (try have z2 := zb.cell 2)
                   (try have g0 := zb.frozen 0)
                   (try have g1 := zb.frozen 1)
                   (try have g2 := zb.frozen 2)
                   (try have HZB := Lib.hid zb)
                   (try clear zb)))
            all_goals
              go_wp2_with fail
              go_meet
              have h5 := hx5.size
              have h6 := hb5.size
              (try simp only [World.size_drew, World.size_alloc] at h5 h6)
              first
                | exact ⟨_, B7, c7, rfl, rfl, bl_set3 hx7 (by omega), HZB.out.set3 _ _ _, hc7, (hr7.set3 (by unfold FS; (try simp only [World.size_drew, World.size_alloc]); omega)).less (fun _ q => q.elim)⟩
                | exact ⟨_, B7, c7, rfl, rfl, bl_alloc hx7 _, Blk.nw w7 _ _ _ rfl, hc7, (hr7.mov (bl_alloc (Below.refl _ _) _)).less (fun _ q => q.elim)⟩
          case rest =>
            obtain ⟨g7, B7, c7, rfl, rfl, hx7, hk7, hc7, hr7⟩ := hcut
            have hx8 := bl_then hwr hx7
            have hq7 := hk7
            have k0 := hk7.cell 0
            have k1 := hk7.cell 1
            have k2 := hk7.cell 2
            obtain ⟨z, hz⟩ : ∃ z, wrap64 (cnt t : Int) = z := ⟨_, rfl⟩
            have HUC : Hid (∀ W, Below wc.heap.size wc W → Blk W w5.heap.size #[.int .i64 u.k, .int .i64 u.h, .slice BU u.a.length cU] 24) := fun W hb => (HXW.out.mov hx7).mov hb
            have HTC : Hid (∀ W, Below wc.heap.size wc W → Blk W w.heap.size #[.int .i64 t.k, .int .i64 t.h, .slice A t.a.length c] 24) := fun W hb => (HTW.out.mov hx7).mov hb
            have HSM := Lib.hid (fun (W : World) (hb : Below wc.heap.size wc W) => Same_calls t t B7 c7 A c W (hr7.mov hb) hc7 (HR.out _ (bl_then hx8 hb)) hc)
            have HS1 : Hid (∀ W, Below wc.heap.size wc W → Calls Try.prog 14 #[.agg #[.int .i64 u.k, .int .i64 u.h, .slice BU u.a.length cU]] W fun e w' => e = .returned (.int .i64 z) ∧ Below W.heap.size W w') := fun W hb => (size_calls u BU cU W ((HRX.out.mov hx7).mov hb) hcU).mono fun e w' ⟨h1, h2⟩ => ⟨by rw [h1, nodesW_len, HCE.out, hz], h2⟩
            have HS2 : Hid (∀ W, Below wc.heap.size wc W → Calls Try.prog 14 #[.agg #[.int .i64 t.k, .int .i64 t.h, .slice A t.a.length c]] W fun e w' => e = .returned (.int .i64 z) ∧ Below W.heap.size W w') := fun W hb => (size_calls t A c W (HR.out _ (bl_then hx8 hb)) hc).mono fun e w' ⟨h1, h2⟩ => ⟨by rw [h1, nodesW_len, hz], h2⟩
            have t0 := (HTC.out _ (Below.refl _ _)).cell 0
            have t1 := (HTC.out _ (Below.refl _ _)).cell 1
            have t2 := (HTC.out _ (Below.refl _ _)).cell 2
            clear hk7 hq7 hz
            go_upto_region 22 with fail
            go_region_with (first
              | (go_at_call 13; refine (HSM.out _ (Below.refl _ _).drew).mono ?_; rw [sameB_refl]; rintro e w9 ⟨rfl, hb9⟩; have hx9 := bl_undrew hb9; have u0 := (HUC.out _ hx9).cell 0; have u1 := (HUC.out _ hx9).cell 1; have u2 := (HUC.out _ hx9).cell 2; have v0 := (HTC.out _ hx9).cell 0; have v1 := (HTC.out _ hx9).cell 1; have v2 := (HTC.out _ hx9).cell 2)
              | (go_at_call_of 14 (u.k)
                 refine (HS1.out _ ?hb).mono ?_
                 case hb => first | exact hx10 | exact hx9
                 rintro e w10 ⟨rfl, hb10⟩
                 have hx10 : Below wc.heap.size wc w10 := by first | exact bl_then hx10 hb10 | exact bl_then hx9 hb10
                 have u0 := (HUC.out _ hx10).cell 0; have u1 := (HUC.out _ hx10).cell 1; have u2 := (HUC.out _ hx10).cell 2; have v0 := (HTC.out _ hx10).cell 0; have v1 := (HTC.out _ hx10).cell 1; have v2 := (HTC.out _ hx10).cell 2)
              | (go_at_call_of 14 (t.k)
                 refine (HS2.out _ ?hb).mono ?_
                 case hb => first | exact hx10 | exact hx9
                 rintro e w10 ⟨rfl, hb10⟩
                 have hx10 : Below wc.heap.size wc w10 := by first | exact bl_then hx10 hb10 | exact bl_then hx9 hb10
                 have u0 := (HUC.out _ hx10).cell 0; have u1 := (HUC.out _ hx10).cell 1; have u2 := (HUC.out _ hx10).cell 2; have v0 := (HTC.out _ hx10).cell 0; have v1 := (HTC.out _ hx10).cell 1; have v2 := (HTC.out _ hx10).cell 2))
            all_goals
              go_wp2_with fail
              go_ret
              exact ⟨rfl, bl_then hx8 hx10⟩
    · rw [hu] at HI
      clear HP HI3 hu
      go_enter Try.func3, Try.ntmps3
      go_wp2_with (first
        | (go_at_call 5; refine (awake_calls _).mono ?_; rintro e w1 ⟨rfl, hb1⟩; have hw1 := bl_then HB0.out hb1; have p := E0.out.mov hb1; have p0 := p.cell 0; have p1 := p.cell 1; have p2 := p.cell 2; clear p)
        | (go_at_call 6; refine (HL.out _ hw1).mono ?_; clear HL p0 p1 p2; rintro e w2 ⟨rfl, hb2⟩; have hw2 := bl_then hw1 hb2; have p := (E0.out.mov hb1).mov hb2; have p0 := p.cell 0; have p1 := p.cell 1; have p2 := p.cell 2; clear p)
        | (go_at_call 7; refine (HM.out _ hw2).mono ?_; clear HM p0 p1 p2; rintro e w3 ⟨rfl, hb3⟩; have hw3 := bl_then hw2 hb3; have p := ((E0.out.mov hb1).mov hb2).mov hb3; have p0 := p.cell 0; have p1 := p.cell 1; have p2 := p.cell 2; clear p)
        | (go_at_call 8; refine (HME.out _ hw3).mono ?_; clear HME p0 p1 p2; rintro e w4 ⟨⟨ml, Bm, cm, rfl, -, -, -, -, -⟩, hb4⟩; have hw4 := bl_then hw3 hb4; have E4 := Lib.hid ((((E0.out.mov hb1).mov hb2).mov hb3).mov hb4); have p0 := E4.out.cell 0; have p1 := E4.out.cell 1; have p2 := E4.out.cell 2)
        | (go_at_call 9; refine (HI.out _ hw4).mono ?_; clear HI p0 p1 p2; rintro e w5 ⟨hb5, (⟨_, rfl⟩ | ⟨u', B4, c4, hs, _⟩)⟩; rotate_left; (exact absurd hs (by simp)); have hw5 := bl_then hw4 hb5))
      all_goals
        go_ret
        first | exact ⟨rfl, hw4⟩ | exact ⟨rfl, bl_alloc hw5 _⟩ | exact ⟨rfl, hw3⟩ | exact ⟨rfl, hw2⟩
    · have HREN := Lib.hid hren
      rw [hu] at HI
      clear HP HI3 hu hren
      go_enter Try.func3, Try.ntmps3
      go_wp2_with (first
        | (go_at_call 5; refine (awake_calls _).mono ?_; rintro e w1 ⟨rfl, hb1⟩; have hw1 := bl_then HB0.out hb1; have p := E0.out.mov hb1; have p0 := p.cell 0; have p1 := p.cell 1; have p2 := p.cell 2; clear p)
        | (go_at_call 6; refine (HL.out _ hw1).mono ?_; clear HL p0 p1 p2; rintro e w2 ⟨rfl, hb2⟩; have hw2 := bl_then hw1 hb2; have p := (E0.out.mov hb1).mov hb2; have p0 := p.cell 0; have p1 := p.cell 1; have p2 := p.cell 2; clear p)
        | (go_at_call 7; refine (HM.out _ hw2).mono ?_; clear HM p0 p1 p2; rintro e w3 ⟨rfl, hb3⟩; have hw3 := bl_then hw2 hb3; have p := ((E0.out.mov hb1).mov hb2).mov hb3; have p0 := p.cell 0; have p1 := p.cell 1; have p2 := p.cell 2; clear p)
        | (go_at_call 8; refine (HME.out _ hw3).mono ?_; clear HME p0 p1 p2; rintro e w4 ⟨⟨ml, Bm, cm, rfl, -, -, -, -, -⟩, hb4⟩; have hw4 := bl_then hw3 hb4; have E4 := Lib.hid ((((E0.out.mov hb1).mov hb2).mov hb3).mov hb4); have p0 := E4.out.cell 0; have p1 := E4.out.cell 1; have p2 := E4.out.cell 2)
        | (go_at_call 9; refine (HI.out _ hw4).mono ?_; clear HI p0 p1 p2; rintro e w5 ⟨hb5, (⟨_, rfl⟩ | ⟨u', B4, c4, hs, _⟩)⟩; rotate_left; (exact absurd hs (by simp)); have hw5 := bl_then hw4 hb5; have E5 := Lib.hid (E4.out.mov hb5); have p0 := E5.out.cell 0; have p1 := E5.out.cell 1; have p2 := E5.out.cell 2; have pl := E5.out.lt)
        | (go_at_call 10
           refine (HVA.out _ (bl_alloc hw5 _)).mono ?_
           clear HVA p0 p1 p2
           rintro e w6 ⟨⟨l, B6, c6, rfl, hc6, hl6, hr6, -, hme6⟩, hb6⟩
           have hw6 := bl_then (bl_alloc hw5 _) hb6
           have HR6 := Lib.hid hr6
           have HME6 := Lib.hid hme6
           have HXB := Lib.hid ((Blk.nw w5 #[.int .i64 0, .int .i64 0, .slice none 0 0] 24 _ rfl).mov hb6)
           have HTB := Lib.hid ((E5.out.al (.cells #[.int .i64 0, .int .i64 0, .slice none 0 0] 24)).mov hb6)
           have hl8 := hr6.1
           unfold limI at hl8
           clear hr6 hme6))
      all_goals first
        | (go_ret; first | exact ⟨rfl, hw4⟩ | exact ⟨rfl, hw3⟩ | exact ⟨rfl, hw2⟩)
        | skip
      go_loopw [12, 13] (fun b j wr => ∃ (i : Nat) (v : Bool), b = .bool v ∧ j = .int .i64 i ∧ MsRel l xs n w6 i v wr) (fun _ j _ => l.length - (intOf j).toNat)
      case atStart => exact ⟨0, false, rfl, rfl, Nat.zero_le _, Below.refl _ _, by simp [missV]⟩
      case round =>
        obtain ⟨i, v, rfl, rfl, hrel⟩ := hrel
        have hbw := hrel.below
        by_cases hli : i < l.length
        · have HREL := Lib.hid hrel
          obtain ⟨ad6, e6, -, m6⟩ := (HR6.out.mov hbw).2 i hli
          cases e6
          have hi1 : (i : Int) < (l.length : Int) := by omega
          clear hrel
          go_wp2_with fail
          go_loopw [14, 15] (fun b k wq => ∃ (k' : Nat) (v2 : Bool), b = .bool v2 ∧ k = .int .i64 k' ∧ InRelb l[i] xs n w6 k' v2 wq) (fun _ k _ => xs.length - (intOf k).toNat)
          case atStart => exact ⟨0, _, rfl, rfl, Nat.zero_le _, hbw, by simp⟩
          case round =>
            obtain ⟨k, v2, rfl, rfl, hin⟩ := hrel
            have hbq := hin.below
            have his := hin.is
            by_cases hlk : k < xs.length
            · obtain ⟨ad2, e2, -, m2⟩ := (HX2.out _ (bl_then hw6 hbq)).2 k hlk
              cases e2
              obtain ⟨ad7, e7, -, m7⟩ := (HR6.out.mov hbq).2 i hli
              cases e7
              have hk1 : (k : Int) < (xs.length : Int) := by omega
              have hnx := in_takeb (h := l[i]) hlk
              have HN := Lib.hid hnx
              have HIS := Lib.hid his
              clear his hnx hin m6
              cases v2
              · go_wp2_with fail
                go_quiet (fail)
                go_wp2_with fail
                exact ⟨⟨k + 1, _, rfl, by go_num, hlk, bl_drewNb hbq _, by rw [HN.out, ← Bool.or_assoc, ← HIS.out]; rfl⟩, by simp [intOf]; omega⟩
              · go_wp2_with fail
                go_quiet (fail)
                go_wp2_with fail
                exact ⟨⟨k + 1, true, rfl, by go_num, hlk, bl_drewNb hbq _, by rw [HN.out, ← Bool.or_assoc, ← HIS.out]; rfl⟩, by simp [intOf]; omega⟩
            · obtain rfl : k = xs.length := by have := hin.le; omega
              rw [List.take_length] at his
              have hmi := HREL.out.is
              have hmt := miss_take (xs := xs) (n := n) hli
              rw [← his, ← hmi] at hmt
              have HMT := Lib.hid hmt
              clear his hmi hmt hin m6
              cases v <;> cases v2
              all_goals
                go_wp2_with fail
                exact ⟨⟨i + 1, _, rfl, by go_num, hli, hbq, HMT.out.symm⟩, by simp [intOf]; omega⟩
        · obtain rfl : i = l.length := by have := hrel.le; omega
          have hmv := hrel.is
          rw [List.take_length, miss_ren HME6.out] at hmv
          have hwr := bl_then hw6 hbw
          clear hrel
          rw [HREN.out] at hmv
          simp at hmv
          subst hmv
          go_wp2_with fail
          go_ret
          exact ⟨rfl, hwr⟩
  · clear HP HI3 HI HVA
    go_enter Try.func3, Try.ntmps3
    go_upto_region 5 with (first
      | (go_at_call 5; refine (awake_calls _).mono ?_; rintro e w1 ⟨rfl, hb1⟩; have hw1 := bl_then HB0.out hb1; have p := E0.out.mov hb1; have p0 := p.cell 0; have p1 := p.cell 1; have p2 := p.cell 2; clear p)
      | (go_at_call 6; refine (HL.out _ hw1).mono ?_; clear HL p0 p1 p2; rintro e w2 ⟨rfl, hb2⟩; have hw2 := bl_then hw1 hb2; have p := (E0.out.mov hb1).mov hb2; have p0 := p.cell 0; have p1 := p.cell 1; have p2 := p.cell 2; clear p)
      | (go_at_call 7; refine (HM.out _ hw2).mono ?_; clear HM p0 p1 p2; rintro e w3 ⟨rfl, hb3⟩; have hw3 := bl_then hw2 hb3; have p := ((E0.out.mov hb1).mov hb2).mov hb3; have p0 := p.cell 0; have p1 := p.cell 1; have p2 := p.cell 2; clear p)
      | (go_at_call 8; refine (HME.out _ hw3).mono ?_; clear HME p0 p1 p2; rintro e w4 ⟨⟨ml, Bm, cm, rfl, -, -, -, -, -⟩, hb4⟩; have hw4 := bl_then hw3 hb4; have E4 := Lib.hid ((((E0.out.mov hb1).mov hb2).mov hb3).mov hb4); have p0 := E4.out.cell 0; have p1 := E4.out.cell 1; have p2 := E4.out.cell 2))
    all_goals first
      | (go_ret; first | exact ⟨rfl, hw4⟩ | exact ⟨rfl, hw3⟩ | exact ⟨rfl, hw2⟩)
      | skip
    exfalso
    refine hno ⟨?_, ?_, by omega⟩
    · assumption
    · assumption
end Go.Proofs.Ytbjlnngjdpnlaaa
