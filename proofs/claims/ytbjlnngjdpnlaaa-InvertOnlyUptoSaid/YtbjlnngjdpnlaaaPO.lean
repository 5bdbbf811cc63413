/- The law InvertOnly. -/
import Derived.Test.YtbjlnngjdpnlaaaPV
import Derived.Test.YtbjlnngjdpnlaaaO7
import Derived.Test.YtbjlnngjdpnlaaaI6
import Derived.Test.YtbjlnngjdpnlaaaRU
import Derived.Deep.RegionHeld2
namespace Go.Proofs.Ytbjlnngjdpnlaaa
open Go.RowKit Go.Shelf
set_option linter.unusedVariables false
set_option linter.unusedSimpArgs false

set_option maxRecDepth 100000 in
set_option maxHeartbeats 16000000 in
theorem InvertOnly_row (w : World) (x : Tm) (A : Option Addr) (c : Nat) (hr : Reads (fun _ => False) w A x.a) (hc : x.a.length ≤ c) (g : okT x) (xs : List Int) (A2 : Option Addr) (c2 : Nat) (hr2 : RdI (fun _ => False) w A2 xs) (hc2 : xs.length ≤ c2) (_ : ∀ x ∈ xs, -9223372036854775808 ≤ x ∧ x ≤ 9223372036854775807)
    (n : Int) (_ : -9223372036854775808 ≤ n ∧ n ≤ 9223372036854775807) (hcn : cnt x + xs.length ≤ 1048576) :
    Calls Try.prog 4 #[.agg #[.int .i64 x.k, .int .i64 x.h, .slice A x.a.length c], .slice A2 xs.length c2, .int .i64 n] w fun e w' => e = .returned (.bool true) ∧ Below w.heap.size w w' := by
  have hb0 : Below w.heap.size w (w.alloc (.cells #[.int .i64 x.k, .int .i64 x.h, .slice A x.a.length c] 24)) := bl_alloc (Below.refl _ _) _
  have e0 := Blk.new w #[.int .i64 x.k, .int .i64 x.h, .slice A x.a.length c] 24
  have HB0 := Lib.hid hb0
  have E0 := Lib.hid e0
  have hxl := hr2.1
  unfold limI at hxl
  have HL := Lib.hid (fun (W : World) (hb : Below w.heap.size w W) => Light_calls x A c 1000 60 W (hr.mov hb) hc)
  have HM := Lib.hid (fun (W : World) (hb : Below w.heap.size w W) => May_calls x A c W (hr.mov hb) hc)
  have HME := Lib.hid (fun (W : World) (hb : Below w.heap.size w W) => Metas_calls x A c W (hr.mov hb) hc g (by unfold limI; omega))
  have HMO0 := Lib.hid (fun (W : World) (hb : Below w.heap.size w W) => metaOf_calls (fun k => k < W.heap.size) xs A2 c2 W (fun k q => q) (hr2.mov hb) (by omega))
  have HI := Lib.hid (fun (t : Tm) (B : Option Addr) (d : Nat) (W : World) (hb : Below w.heap.size w W) (h1 : Reads (fun _ => False) W B t.a) (h2 : t.a.length ≤ d) => Invert_calls (fun _ => False) t B d xs A2 c2 n W (fun _ q => q.elim) h1 h2 (hr2.mov hb) hc2)
  have HR := Lib.hid (fun (W : World) (hb : Below w.heap.size w W) => hr.mov hb)
  have HP : Hid (lightB x 1000 60 = true → mayB x = true → xs.length ≤ 20 → MayV xs n → FillV [x] ⟨6, 0, varsT xs⟩ n = .ok (fwT xs n x 0) ∧ invV (fwT xs n x 0) xs n = (some x, 0) ∧ hB 1099511627776 x ∧ cnt x ≤ 1000) := fun h1 h2 h3 h4 => only_pure (by omega) h1 h2 h3 h4
  have HPAT := Lib.hid (fun (B : Option Addr) (d : Nat) (W : World) (h : Reads (fun _ => False) W B (varsT xs)) => Pattern_calls (varsT xs) B d n W h)
  have HPM := Lib.hid (fun (r : List Int) (h0 : 0 ≤ n) (h1 : n ≤ 1000) (q : patV (varsT xs) n = some r) => pat_may h0 h1 q)
  obtain ⟨pv, hpv⟩ : ∃ b, patV (varsT xs) n = b := ⟨_, rfl⟩
  rw [hpv] at HPAT HPM
  obtain ⟨mt, hmt⟩ : ∃ b, mayB x = b := ⟨_, rfl⟩
  rw [hmt] at HM
  obtain ⟨lb, hlb⟩ : ∃ b, lightB x 1000 60 = b := ⟨_, rfl⟩
  rw [hlb] at HL
  rw [hlb, hmt] at HP
  clear hb0 e0 hr hmt hlb hr2 g hpv
  have hfd : ∀ (A : Option Addr) (n c : Nat) (x y : Int) (w : World), (Instr.field 24 (.agg #[.int .i64 x, .int .i64 y, .slice A n c]) 2).run Try.prog w = .ok (.slice A n c) w := fun _ _ _ _ _ _ => by kernel_rfl
  go_enter Try.func4, Try.ntmps4
  go_upto_region 6 with (first
    | (go_at_call 5; refine (awake_calls _).mono ?_; rintro e w1 ⟨rfl, hb1⟩; have p := E0.out.mov hb1; have p0 := p.cell 0; have p1 := p.cell 1; have p2 := p.cell 2; clear p)
    | (go_at_call 6; refine (HL.out _ (bl_then HB0.out hb1)).mono ?_; clear HL p0 p1 p2; rintro e w2 ⟨rfl, hb2⟩; have hw2 := bl_then (bl_then HB0.out hb1) hb2)
    | (go_at_call 12; refine (HMO0.out _ hw2).mono ?_; rintro e w3 ⟨hb3, B3, c3, rfl, hc3, hr3⟩; have hw3 := bl_then hw2 hb3)
    | (go_at_call 15; refine (HPAT.out _ _ _ (hr3.less (fun _ q => q.elim))).mono ?_; clear HPAT; rintro e w4 ⟨hb4, (⟨rfl, rfl⟩ | ⟨vs, B4, c4, rfl, rfl, hc4, hr4⟩)⟩ <;> (have hw4 := bl_then hw3 hb4; have q := ((E0.out.mov hb1).mov hb2).mov (bl_then hb3 hb4); have p0 := q.cell 0; have p1 := q.cell 1; have p2 := q.cell 2; clear q))
    | (go_at_call 7; refine (HM.out _ hw4).mono ?_; clear HM p0 p1 p2; rintro e w5 ⟨rfl, hb5⟩; have hw5 := bl_then hw4 hb5; have q := ((E0.out.mov hb1).mov hb2).mov (bl_then (bl_then hb3 hb4) hb5); have p0 := q.cell 0; have p1 := q.cell 1; have p2 := q.cell 2; clear q)
    | (go_at_call 8; refine (HME.out _ hw5).mono ?_; clear HME p0 p1 p2; rintro e w6 ⟨⟨ml, B6, c6, rfl, hc6, hl6, hr6, -, -⟩, hb6⟩; have hw6 := bl_then hw5 hb6; have HXB := Lib.hid (((E0.out.mov hb1).mov hb2).mov (bl_then (bl_then (bl_then hb3 hb4) hb5) hb6))))
  all_goals first
    | (go_ret; first | exact ⟨rfl, hw6⟩ | exact ⟨rfl, hw5⟩ | exact ⟨rfl, hw4⟩)
    | skip
  have hmb : mt = true := by assumption
  have hlb : lb = true := by assumption
  have hx20 : xs.length ≤ 20 := by omega
  have hn0 : 0 ≤ n := by omega
  have hn1 : n ≤ 1000 := by omega
  subst hmb
  subst hlb
  have hmv := HPM.out vs hn0 hn1 rfl
  obtain ⟨hP1, hP2, hP3, hP4⟩ := HP.out rfl rfl hx20 hmv
  have HBX : Hid (hB 4398046511104 x) := Lib.hid (hP3.mono (by decide))
  have HVV := Lib.hid (may_le hmv)
  have HXL := Lib.hid hx20
  have HCN := Lib.hid hP4
  have HRX := Lib.hid (HR.out _ hw6)
  have HCX := Lib.hid hc
  have HMO := Lib.hid (fun (W : World) (hb : Below w6.heap.size w6 W) => HMO0.out W (bl_then hw6 hb))
  generalize fwT xs n x 0 = t at *
  have HFT := Lib.hid hP1
  have HINV := Lib.hid hP2
  have HGE := Lib.hid hw6.size
  clear HP hP1 hP2 hP3 hP4 hmv HPM HMO0
  go_cut [11, 12] (fun sb se wx => ∃ g B7 c7, sb = .pointer (some ⟨g, 0, none⟩) ∧ se = .int .i64 0 ∧ Below w6.heap.size w6 wx ∧ Blk wx g #[.int .i64 t.k, .int .i64 t.h, .slice B7 t.a.length c7] 24 ∧ t.a.length ≤ c7 ∧ Reads (fun _ => False) wx B7 t.a)
  case first =>
    have HC : Hid (∀ W, Below w6.heap.size w6 W → (Below w6.heap.size w6 W ∧ W.cell? ⟨w.heap.size, 0, none⟩ = some (.int .i64 x.k) ∧ W.cell? ⟨w.heap.size, 1, none⟩ = some (.int .i64 x.h) ∧ W.cell? ⟨w.heap.size, 2, none⟩ = some (.slice A x.a.length c))) := fun W hb => ⟨hb, (HXB.out.mov hb).cell 0, (HXB.out.mov hb).cell 1, (HXB.out.mov hb).cell 2⟩
    go_region_held2 (fun W => (Below w6.heap.size w6 W ∧ W.cell? ⟨w.heap.size, 0, none⟩ = some (.int .i64 x.k) ∧ W.cell? ⟨w.heap.size, 1, none⟩ = some (.int .i64 x.h) ∧ W.cell? ⟨w.heap.size, 2, none⟩ = some (.slice A x.a.length c)))
      ((first | exact HC.out _ (bl_set3 hx7 (by (have h5 := hx5.size; (try simp only [World.size_drew, World.size_alloc] at h5 ⊢); omega))) | exact HC.out _ (bl_set3 (bl_alloc hx7 _) hx7.size) | exact HC.out _ hx7 | exact HC.out _ (bl_alloc hx7 _) | exact HC.out _ hx5 | exact HC.out _ (bl_alloc hx5 _) | exact HC.out _ (bl_alloc (bl_alloc hx5 _) _) | exact HC.out _ (Below.refl _ _) | exact HC.out _ (Below.refl _ _).drew | exact HC.out _ (bl_alloc (Below.refl _ _) _).drew | exact HC.out _ (bl_alloc (bl_alloc (Below.refl _ _) _) _).drew))
      (first
        | (go_at_call 12
           refine (HMO.out _ ?hbm).mono ?_
           case hbm => first | exact (Below.refl _ _).drew | exact (bl_alloc (Below.refl _ _) _).drew | exact (bl_alloc (bl_alloc (Below.refl _ _) _) _).drew
           rintro e w5 ⟨hb5, B5, c5, rfl, hc5, hr5⟩
           have hx5 : Below w6.heap.size w6 w5 := by first | exact bl_undrew hb5 | exact bl_then (bl_alloc (Below.refl _ _) _) (bl_undrew hb5) | exact bl_then (bl_alloc (bl_alloc (Below.refl _ _) _) _) (bl_undrew hb5))
        | (go_at_call 11
           refine (fillVars_calls x t A c xs n w6 _ w5 _ B5 c5 _ HRX.out HCX.out ?h1 hb5 ?h3 hr5 hc5 ?hs ?hg HFT.out HBX.out HCN.out HVV.out HXL.out).mono ?_
           case h1 => first | exact (Below.refl _ _).drew | exact (bl_alloc (Below.refl _ _) _).drew | exact (bl_alloc (bl_alloc (Below.refl _ _) _) _).drew
           case h3 => first | exact Below.refl _ _ | exact bl_alloc (Below.refl _ _) _ | exact bl_alloc (bl_alloc (Below.refl _ _) _) _
           case hs => first
             | exact Blk.nw _ _ _ _ (by simp)
             | exact (Blk.nw _ _ _ _ (by simp)).al _
             | exact (Blk.drew (Blk.nw _ _ _ _ (by simp))).mov hb5
             | exact (Blk.drew ((Blk.nw _ _ _ _ (by simp)).al _)).mov hb5
             | exact ((Blk.drew (Blk.nw _ _ _ _ (by simp))).mov hb5).al _
           case hg => have h5 := hx5.size; (try simp only [World.size_drew, World.size_alloc] at h5 ⊢); omega
           rintro e w7 ⟨hb7, B7, c7, rfl, hc7, hr7⟩
           have hx7 : Below w6.heap.size w6 w7 := by first | exact bl_then hx5 hb7 | exact bl_then (bl_alloc hx5 _) hb7 | exact bl_then (bl_alloc (bl_alloc hx5 _) _) hb7
           have HZ7 : Hid (∀ (g : Nat) (cs : Array Value) (t : TypeId), Blk _ g cs t → Blk w7 g cs t) := fun g cs t h => h.mov hb7
           have HZ5 : Hid (∀ (g : Nat) (cs : Array Value) (t : TypeId), Blk _ g cs t → Blk w5 g cs t) := fun g cs t h => h.mov hb5
           first
             | have zb := HZ7.out _ #[.int .i64 0, .int .i64 0, .slice none 0 0] 24 (Blk.nw _ _ _ _ rfl)
             | have zb := HZ7.out _ #[.int .i64 0, .int .i64 0, .slice none 0 0] 24 ((Blk.nw _ _ _ _ rfl).al _)
             | have zb := HZ7.out _ #[.int .i64 0, .int .i64 0, .slice none 0 0] 24 (HZ5.out _ _ _ (Blk.drew (Blk.nw _ _ _ _ rfl)))
             | have zb := HZ7.out _ #[.int .i64 0, .int .i64 0, .slice none 0 0] 24 (HZ5.out _ _ _ (Blk.drew ((Blk.nw _ _ _ _ rfl).al _)))
             | have zb := HZ7.out _ #[.int .i64 0, .int .i64 0, .slice none 0 0] 24 ((HZ5.out _ _ _ (Blk.drew (Blk.nw _ _ _ _ rfl))).al _)
             | skip
           (try simp only [World.size_drew, World.size_alloc] at zb)
           (try have z0 := zb.cell 0)
           (try have z1 := zb.cell 1)
           (try have z2 := zb.cell 2)
           (try have g0 := zb.frozen 0)
           (try have g1 := zb.frozen 1)
           (try have g2 := zb.frozen 2)
           (try have HZB := Lib.hid zb)
           (try clear zb)))
    all_goals
      go_wp2_with fail
      go_meet
      have h5 := hx5.size
      have h6 := hb5.size
      (try simp only [World.size_drew, World.size_alloc] at h5 h6)
      first
        | exact ⟨_, B7, c7, rfl, rfl, bl_set3 hx7 (by omega), HZB.out.set3 _ _ _, hc7, (hr7.set3 (by unfold FS; (try simp only [World.size_drew, World.size_alloc]); omega)).less (fun _ q => q.elim)⟩
        | exact ⟨_, B7, c7, rfl, rfl, bl_alloc hx7 _, Blk.nw w7 _ _ _ rfl, hc7, (hr7.mov (bl_alloc (Below.refl _ _) _)).less (fun _ q => q.elim)⟩
  case rest =>
    obtain ⟨g7, B7, c7, rfl, rfl, hx7, hk7, hc7, hr7⟩ := hcut
    have hx8 := bl_then hw6 hx7
    have k0 := hk7.cell 0
    have k1 := hk7.cell 1
    have k2 := hk7.cell 2
    have HK7 := Lib.hid hk7
    have HXB7 := Lib.hid (HXB.out.mov hx7)
    clear hk7
    go_wp2_with (first
      | (go_at_call 9; refine (HI.out t B7 c7 _ hx8 hr7 hc7).mono ?_; rw [HINV.out]; rintro e w8 ⟨hb8, (⟨hn, _⟩ | ⟨u8, B8, c8, hs, rfl, hc8, hr8⟩)⟩; (exact absurd hn (by simp)); (obtain rfl := Option.some.inj hs); clear hs; have hw8 := bl_then hx8 hb8; have q := HXB7.out.mov hb8; have q0 := q.cell 0; have q1 := q.cell 1; have q2 := q.cell 2; have ql := q.lt; clear q k0 k1 k2)
      | (go_at_call 13; refine (Same_calls x x A c B8 c8 _ (HR.out _ (bl_alloc hw8 _)) hc (hr8.mov (bl_alloc (Below.refl _ _) _)) hc8).mono ?_; rintro e w9 ⟨rfl, hb9⟩; rw [sameB_refl]))
    go_ret
    exact ⟨rfl, bl_then (bl_alloc hw8 _) hb9⟩
end Go.Proofs.Ytbjlnngjdpnlaaa
