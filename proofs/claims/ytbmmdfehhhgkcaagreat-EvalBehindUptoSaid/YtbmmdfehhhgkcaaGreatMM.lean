/- The contract of (*matching).meta. -/
import Derived.Test.YtbmmdfehhhgkcaaGreatMV
import Derived.Test.YtbmmdfehhhgkcaaGreatMN
import Derived.Test.YtbmmdfehhhgkcaaGreatI2
import Derived.Test.YtbmmdfehhhgkcaaGreatPJ
import Derived.Deep.RegionWith
namespace Go.Proofs.YtbmmdfehhhgkcaaGreat
open Go.RowKit Go.Shelf
set_option linter.unusedVariables false
set_option linter.unusedSimpArgs false

mutual
theorem metas_pos {B : Int} : ∀ {t : Tm} {n : Int}, hB B t → ∀ x ∈ metasOf (nodesW t n), 0 ≤ x
  | ⟨k, h, a⟩, n, q, x, hx => by
    rw [hB] at q
    rw [nodesW, metasOf, List.filterMap_cons] at hx
    split at hx
    · exact metas_posL q.2.2 x hx
    · rename_i b hb
      split at hb
      · cases hb
        rcases List.mem_cons.1 hx with rfl | hx
        · exact mayN_head q.1
        · exact metas_posL q.2.2 x hx
      · cases hb
theorem metas_posL {B : Int} : ∀ {b : Bool} {l : List Tm} {n : Int}, hBL B l → ∀ x ∈ metasOf (nodesL b l n), 0 ≤ x
  | b, [], n, q, x, hx => by rw [nodesL] at hx; cases hx
  | b, t :: l, n, q, x, hx => by
    rw [hBL] at q
    rw [nodesL, metasOf, List.filterMap_append] at hx
    rcases List.mem_append.1 hx with hx | hx
    · exact metas_pos q.1 x hx
    · exact metas_posL q.2 x hx
end
theorem okL_mem : ∀ {l : List Tm}, okL l → ∀ {e : Tm}, e ∈ l → okT e
  | [], _, e, he => by cases he
  | t :: l, q, e, he => by
    rw [okL] at q
    rcases List.mem_cons.1 he with rfl | he
    · exact q.1
    · exact okL_mem q.2 he
/-- A row of truth values that lies elsewhere. -/
def RowBs (g : Nat) (w : World) (A : Option Addr) (bs : List Bool) : Prop :=
  bs.length ≤ lim ∧ ∀ i, (hi : i < bs.length) → ∃ ad : Addr, A = some ad ∧ ad.block ≠ g ∧ w.cell? (ad.add i) = some (.bool bs[i])
theorem RowBs.mov {g : Nat} {w w' : World} {A : Option Addr} {bs : List Bool} (h : RowBs g w A bs) (hb : Below w.heap.size w w') : RowBs g w' A bs :=
  ⟨h.1, fun i hi => by obtain ⟨ad, e, hn, hc⟩ := h.2 i hi; exact ⟨ad, e, hn, cell_mov hc hb⟩⟩
theorem RowBs.plain {g : Nat} {w : World} {A : Option Addr} {bs : List Bool} (h : RowBs g w A bs) : RowBo w A bs :=
  ⟨h.1, fun i hi => by obtain ⟨ad, e, hn, hc⟩ := h.2 i hi; exact ⟨ad, e, hc⟩⟩
theorem RowBs.set {g : Nat} {w : World} {A : Option Addr} {bs : List Bool} (h : RowBs g w A bs) {p : Addr} (hp : p.block = g) (u : Value) : RowBs g (w.setCell p u) A bs :=
  ⟨h.1, fun i hi => by
    obtain ⟨ad, e, hn, hc⟩ := h.2 i hi
    refine ⟨ad, e, hn, ?_⟩
    have hlt := World.block_lt_of_cell? w _ hc
    exact (World.cell?_of_block (a := ad.add i) (Below.heap_setCell w p u (ad.add i).block (by rw [add_block, hp]; exact hn))).trans hc⟩
theorem inv_some {t u : Tm} {xs : List Int} {n : Int} (hc : cnt t ≤ 4000) (hb : hB 288230376151711744 t) (h : invV t xs n = (some u, 0)) : hB 576460752303423488 u ∧ cnt u = cnt t := by
  unfold invV at h
  cases hm : mayB t with
  | false => rw [hm] at h; simp at h
  | true =>
    cases hq : mayV xs n with
    | false => rw [hm, hq] at h; simp at h
    | true =>
      rw [hm, hq] at h
      simp only [Bool.and_self, if_true] at h
      cases hr : renW (rnV xs n) t 0 with
      | none => rw [hr] at h; simp at h
      | some z =>
        rw [hr] at h
        simp at h
        subst h
        obtain ⟨q1, q2, -⟩ := ren_may (mayV_prop hq) t z 0 hr hb (by omega)
        exact ⟨q1, q2⟩
def bindB : Int := 576460752303423488
structure MI (gm gb cb : Nat) (P : Option Addr) (cp : Nat) (R : Option Addr) (cr : Nat) (params rigid : List Bool) (N : Nat) (bs : List Bd) (w : World) : Prop where
  len : bs.length = N
  pl : params.length = N
  ne : gm ≠ gb
  bm : Blk w gm #[.slice (some ⟨gb, 0, none⟩) N cb, .slice P params.length cp, .slice R rigid.length cr] 83
  ob : OB w gb bs
  hp : RowBs gb w P params
  hr : RowBs gb w R rigid
  each : ∀ x ∈ bs, x.is = true → (mayB x.t = true → hB bindB x.t) ∧ cnt x.t ≤ 1048576
theorem MI.mov {gm gb cb : Nat} {P : Option Addr} {cp : Nat} {R : Option Addr} {cr : Nat} {params rigid : List Bool} {N : Nat} {bs : List Bd} {w w' : World} (h : MI gm gb cb P cp R cr params rigid N bs w) (hb : Below w.heap.size w w') : MI gm gb cb P cp R cr params rigid N bs w' :=
  ⟨h.len, h.pl, h.ne, h.bm.mov hb, h.ob.mov hb, h.hp.mov hb, h.hr.mov hb, h.each⟩
/-- A meta held against a term. -/
noncomputable def metaF (params rigid : List Bool) (p t : Tm) (n : Int) (bs : List Bd) : Except Int (List Bd) :=
  if (bs.length : Int) ≤ p.h then .error 2
  else if ((bs[p.h.toNat]?).map Bd.is).getD false = true then (if knownV bs p t n = 0 then .ok bs else .error (knownV bs p t n))
  else match patV p.a n with
    | none => .error 5
    | some vs => match (invV t vs n).1 with
      | none => .error 6
      | some u => if (boolAt params p.h && !variV rigid t) = true then .error 6 else .ok (bs.set p.h.toNat ⟨true, u⟩)
def QM (p t : Tm) (n : Int) : Prop := (hB bindB p ∧ okT p ∧ cnt p ≤ 4000) ∧ hB 288230376151711744 t ∧ cnt t ≤ 4000

set_option maxRecDepth 100000 in
set_option maxHeartbeats 16000000 in
theorem meta_calls (gm gb cb : Nat) (P : Option Addr) (cp : Nat) (R : Option Addr) (cr : Nat) (params rigid : List Bool) (N : Nat) (p t : Tm) (n : Int) (bs : List Bd) (A : Option Addr) (c : Nat) (A2 : Option Addr) (c2 : Nat) (w : World)
    (hk : p.k = 6) (hq : QM p t n) (hr : Reads (fun k => k = gb) w A p.a) (hc : p.a.length ≤ c) (hr2 : Reads (fun k => k = gb) w A2 t.a) (hc2 : t.a.length ≤ c2) (hI : MI gm gb cb P cp R cr params rigid N bs w) :
    Calls Tryz.prog 62 #[.pointer (some ⟨gm, 0, none⟩), .agg #[.int .i64 p.k, .int .i64 p.h, .slice A p.a.length c], .agg #[.int .i64 t.k, .int .i64 t.h, .slice A2 t.a.length c2], .int .i64 n] w (RetN (some gb) (MI gm gb cb P cp R cr params rigid N) (metaF params rigid p t n bs) w) := by
  obtain ⟨k, h, a⟩ := p
  dsimp only at hk
  subst hk
  obtain ⟨⟨hpB, hpok, hpc⟩, htB, htc⟩ := hq
  have hh0 : 0 ≤ h := hpB.head.1
  obtain ⟨j, rfl⟩ := Int.eq_ofNat_of_zero_le hh0
  have hpBL : hBL bindB a := by
    have := hpB
    rw [hB] at this
    exact this.2.2
  have hpok : okL a := by
    rw [okT] at hpok
    exact hpok.2.2
  dsimp only at hr hc ⊢
  have hB2 : Below w.heap.size w ((w.alloc (.cells #[.int .i64 6, .int .i64 j, .slice A a.length c] 25)).alloc (.cells #[.int .i64 t.k, .int .i64 t.h, .slice A2 t.a.length c2] 25)) := bl_alloc (bl_alloc (Below.refl _ _) _) _
  have HB2 := Lib.hid hB2
  have hgm := hI.bm.lt
  have hgb := hI.ob.lt
  have m0 := hI.bm.cell 0
  have m1 := hI.bm.cell 1
  have hNl : N ≤ lim := by rw [← hI.len]; exact hI.ob.1
  unfold lim at hNl
  have HII := Lib.hid hI
  have HLEN := Lib.hid hI.len
  by_cases hjl : j < bs.length
  · have hjN : (j : Int) < (N : Int) := by have := hI.len; omega
    have hj0 : (0 : Int) ≤ (j : Int) := by omega
    obtain ⟨_, cur, g1, g2, g3⟩ := hI.ob
    obtain ⟨Bj, dj, z0, -⟩ := g3 j hjl
    have k0 := (g1.cell (j * 4)).trans z0
    have hnle : ¬ (N : Int) ≤ (j : Int) := by omega
    cases his : bs[j].is
    · rw [his] at k0
      have HPAT := Lib.hid (fun (W : World) (hb : Below w.heap.size w W) => Pattern_calls a A c n W ((hr.less (fun _ q => q.elim)).mov hb))
      have HIV := Lib.hid (fun (vs : List Int) (B : Option Addr) (d : Nat) (W : World) (hb : Below w.heap.size w W) (h1 : RdI (fun _ => False) W B vs) (h2 : vs.length ≤ d) => Invert_calls (fun k => k = gb) t A2 c2 vs B d n W (fun k q => by rw [q]; have := hb.size; omega) (hr2.mov hb) hc2 h1 h2)
      have HF : Hid (metaF params rigid ⟨6, j, a⟩ t n bs = match patV a n with
        | none => .error 5
        | some vs => match (invV t vs n).1 with
          | none => .error 6
          | some u => if (boolAt params j && !variV rigid t) = true then .error 6 else .ok (bs.set j ⟨true, u⟩)) := Lib.hid (by
        unfold metaF
        rw [if_neg (by show ¬ (bs.length : Int) ≤ (j : Int); omega)]
        simp only [Int.toNat_natCast]
        rw [List.getElem?_eq_getElem hjl, Option.map_some, his]
        rfl)
      obtain ⟨adp, eP, hnp, pc0⟩ := hI.hp.2 j (by rw [hI.pl]; omega)
      have hbp : boolAt params j = params[j]'(by rw [hI.pl]; omega) := by
        unfold boolAt
        rw [Int.toNat_natCast, List.getElem?_eq_getElem (by rw [hI.pl]; omega), Option.getD_some]
      obtain ⟨pj, hpj⟩ : ∃ b, boolAt params j = b := ⟨_, rfl⟩
      rw [← hbp, hpj] at pc0
      rw [hpj] at HF
      have HPC := Lib.hid pc0
      have HEP := Lib.hid eP
      obtain ⟨pv, hpv⟩ : ∃ v, patV a n = v := ⟨_, rfl⟩
      rw [hpv] at HPAT HF
      have HK0 := Lib.hid k0
      clear hI g1 g2 g3 z0 his pc0 eP hpj hbp hpv
      cases pv with
      | none =>
        go_enter Tryz.func62, Tryz.ntmps62
        go_wp2_with fail
        go_quiet (fail)
        go_wp2_with fail
        go_quiet (fail)
        go_wp2_with (go_at_call 79; refine (HPAT.out _ (bl_drewNv HB2.out _)).mono ?_; clear HPAT; rintro e w4 ⟨hb4, (⟨_, rfl⟩ | ⟨vs, B4, c4, hs, _⟩)⟩; rotate_left; (exact absurd hs (by simp)))
        go_ret
        exact ⟨grown_but (bl_grownBy (bl_then (bl_drewNv HB2.out _) hb4)) _, 5, rfl, .inl ⟨HF.out, by decide⟩⟩
      | some vs =>
        have hF1 := HF.out
        dsimp only at hF1
        rcases (inv_err : (∃ u, invV t vs n = (some u, 0)) ∨ ∃ e, invV t vs n = (none, e) ∧ e ≠ 0) with ⟨u, hu⟩ | ⟨er, hu, he⟩
        · obtain ⟨hub, huc⟩ := inv_some htc htB hu
          rw [hu] at hF1
          dsimp only at hF1
          have HF1 := Lib.hid hF1
          have HIV2 := Lib.hid (HIV.out vs)
          rw [hu] at HIV2
          have HUB := Lib.hid hub
          have HUC := Lib.hid huc
          have h60 : t.k = 6 → 0 ≤ t.h := fun _ => htB.head.1
          clear HF hF1 HIV hu hub huc
          go_enter Tryz.func62, Tryz.ntmps62
          go_wp2_with fail
          go_quiet (fail)
          go_wp2_with fail
          go_quiet (fail)
          go_upto_region 9 with (first
            | (go_at_call 79; refine (HPAT.out _ (bl_drewNv HB2.out _)).mono ?_; clear HPAT; rintro e w4 ⟨hb4, (⟨hn, _⟩ | ⟨vs', B4, c4, hs, rfl, hc4, hr4⟩)⟩; (exact absurd hn (by simp)); (obtain rfl := Option.some.inj hs); clear hs; have hw4 := bl_then (bl_drewNv HB2.out _) hb4; have HT4 := Lib.hid (((Blk.nw (w.alloc (.cells #[.int .i64 6, .int .i64 j, .slice A a.length c] 25)) #[.int .i64 t.k, .int .i64 t.h, .slice A2 t.a.length c2] 25 (w.heap.size + 1) (by simp)).mov (bl_drewNv (Below.refl _ _) _)).mov hb4); have HP4 := Lib.hid ((((Blk.nw w #[.int .i64 6, .int .i64 j, .slice A a.length c] 25 w.heap.size rfl).al (.cells #[.int .i64 t.k, .int .i64 t.h, .slice A2 t.a.length c2] 25)).mov (bl_drewNv (Below.refl _ _) _)).mov hb4); have q0 := HT4.out.cell 0; have q1 := HT4.out.cell 1; have q2 := HT4.out.cell 2)
            | (go_at_call 80; refine (HIV2.out B4 c4 _ hw4 hr4 hc4).mono ?_; clear HIV2 q0 q1 q2; rintro e w5 ⟨hb5, (⟨hn, _⟩ | ⟨u', B5, c5, hs, rfl, hc5, hr5⟩)⟩; (exact absurd hn (by simp)); (obtain rfl := Option.some.inj hs); clear hs; have hw5 := bl_then hw4 hb5))
          have HX9 : Hid (Blk (w5.alloc (.cells #[.int .i64 u.k, .int .i64 u.h, .slice B5 u.a.length c5] 25)) w5.heap.size #[.int .i64 u.k, .int .i64 u.h, .slice B5 u.a.length c5] 25) := Blk.nw _ _ _ _ rfl
          have HW9 := Lib.hid (bl_alloc hw5 (.cells #[.int .i64 u.k, .int .i64 u.h, .slice B5 u.a.length c5] 25))
          have HT9 := Lib.hid ((HT4.out.mov hb5).al (.cells #[.int .i64 u.k, .int .i64 u.h, .slice B5 u.a.length c5] 25))
          have HP9 := Lib.hid ((HP4.out.mov hb5).al (.cells #[.int .i64 u.k, .int .i64 u.h, .slice B5 u.a.length c5] 25))
          have HR9 := Lib.hid (hr5.mov (bl_alloc (Below.refl _ _) (.cells #[.int .i64 u.k, .int .i64 u.h, .slice B5 u.a.length c5] 25)))
          generalize w5.heap.size = gx at *
          generalize (w5.alloc (.cells #[.int .i64 u.k, .int .i64 u.h, .slice B5 u.a.length c5] 25)) = w9 at *
          have HI9 := Lib.hid (HII.out.mov HW9.out)
          have i0 := HI9.out.bm.cell 0
          have i1 := HI9.out.bm.cell 1
          have r0 := HP9.out.cell 1
          have s0 := HT9.out.cell 0
          have s1 := HT9.out.cell 1
          have s2 := HT9.out.cell 2
          have pc9 := cell_mov HPC.out HW9.out
          have hep := HEP.out
          subst hep
          have hjp : (j : Int) < (params.length : Int) := by have := HII.out.pl; omega
          clear m0 m1 k0
          go_cut [70] (fun s70 wx => s70 = .bool (pj && !variV rigid t) ∧ Below w9.heap.size w9 wx)
          case first =>
            cases pj
            · go_quiet (fail)
              go_wp2_with fail
              go_meet
              exact ⟨rfl, bl_drewNv (Below.refl _ _) _⟩
            · have HVR := Lib.hid (fun (W : World) (hb : Below w9.heap.size w9 W) => variable_calls t A2 c2 gm _ _ R cr rigid W (HI9.out.bm.mov hb) (HI9.out.hr.mov hb).plain h60)
              go_region_with (go_at_call 81; refine (HVR.out _ (Below.refl _ _).drew).mono ?_; rintro e w10 ⟨rfl, hb10⟩; have hx10 := bl_undrew hb10)
              all_goals
                go_wp2_with fail
                go_meet
                exact ⟨rfl, hx10⟩
          case rest =>
            obtain ⟨rfl, hx9⟩ := hcut
            have hw9 := bl_then HW9.out hx9
            obtain ⟨tb, htb⟩ : ∃ tb, (pj && !variV rigid t) = tb := ⟨_, rfl⟩
            have hF2 := HF1.out
            rw [htb] at hF2 ⊢
            have HF2 := Lib.hid hF2
            have HIW := Lib.hid (HI9.out.mov hx9)
            have HRW := Lib.hid (HR9.out.mov hx9)
            have n0 := HIW.out.bm.cell 0
            have y1 := (HP9.out.mov hx9).cell 1
            have x0 := (HX9.out.mov hx9).cell 0
            have x1 := (HX9.out.mov hx9).cell 1
            have x2 := (HX9.out.mov hx9).cell 2
            obtain ⟨_, cur, g1, g2, g3⟩ := HIW.out.ob
            obtain ⟨Bj, dj, z0, z1, z2, z3, -, -⟩ := g3 j hjl
            have gl := g1.lt
            have b0 := (g1.cell (j * 4)).trans z0
            have b1 := (g1.cell (j * 4 + 1)).trans z1
            have b2 := (g1.cell (j * 4 + 2)).trans z2
            have b3 := (g1.cell (j * 4 + 3)).trans z3
            have f0 := g1.frozen (j * 4)
            have f1 := g1.frozen (j * 4 + 1)
            have f2 := g1.frozen (j * 4 + 2)
            have f3 := g1.frozen (j * 4 + 3)
            clear i0 i1 r0 s0 s1 s2 pc9 g1 g2 g3 z0 z1 z2 z3 hF2 htb
            cases tb
            · go_upto_region 11 with fail
              go_region
              all_goals
                go_wp2_with fail
                go_ret
                refine ⟨gb_then (gb_set (gb_set (gb_set (gb_set (grown_but (bl_grownBy hw9) (some gb)) (j * 4) _) (j * 4 + 1) _) (j * 4 + 2) _) (j * 4 + 3) _) (Below.refl _ _).drew, 0, rfl, .inr ⟨rfl, bs.set j ⟨true, u⟩, HF2.out.trans (if_neg (by decide)), MI.mov (w := (((wc.setCell ⟨gb, j * 4, none⟩ (.bool true)).setCell ⟨gb, j * 4 + 1, none⟩ (.int .i64 u.k)).setCell ⟨gb, j * 4 + 2, none⟩ (.int .i64 u.h)).setCell ⟨gb, j * 4 + 3, none⟩ (.slice B5 u.a.length c5)) ?_ (Below.refl _ _).drew⟩⟩
                exact {
                  len := by rw [List.length_set]; exact HIW.out.len
                  pl := HIW.out.pl
                  ne := HIW.out.ne
                  bm := (((HIW.out.bm.far (p := ⟨gb, j * 4, none⟩) HIW.out.ne _).far (p := ⟨gb, j * 4 + 1, none⟩) HIW.out.ne _).far (p := ⟨gb, j * 4 + 2, none⟩) HIW.out.ne _).far (p := ⟨gb, j * 4 + 3, none⟩) HIW.out.ne _
                  ob := HIW.out.ob.put hjl ⟨true, u⟩ B5 c5 hc5 HRW.out
                  hp := (((HIW.out.hp.set (p := ⟨gb, j * 4, none⟩) rfl _).set (p := ⟨gb, j * 4 + 1, none⟩) rfl _).set (p := ⟨gb, j * 4 + 2, none⟩) rfl _).set (p := ⟨gb, j * 4 + 3, none⟩) rfl _
                  hr := (((HIW.out.hr.set (p := ⟨gb, j * 4, none⟩) rfl _).set (p := ⟨gb, j * 4 + 1, none⟩) rfl _).set (p := ⟨gb, j * 4 + 2, none⟩) rfl _).set (p := ⟨gb, j * 4 + 3, none⟩) rfl _
                  each := fun x hx hi => by
                    rcases List.mem_or_eq_of_mem_set hx with hx | rfl
                    · exact HIW.out.each x hx hi
                    · exact ⟨fun _ => HUB.out, by rw [HUC.out]; omega⟩ }
            · go_wp2_with fail
              go_ret
              exact ⟨grown_but (bl_grownBy hw9) _, 6, rfl, .inl ⟨HF2.out, by decide⟩⟩
        · rw [hu] at hF1
          have HF1 := Lib.hid hF1
          have HIV2 := Lib.hid (HIV.out vs)
          rw [hu] at HIV2
          have he3 : (er != 0) = true := by simpa using he
          clear HF hF1 HIV hu
          go_enter Tryz.func62, Tryz.ntmps62
          go_wp2_with fail
          go_quiet (fail)
          go_wp2_with fail
          go_quiet (fail)
          go_wp2_with (first
            | (go_at_call 79; refine (HPAT.out _ (bl_drewNv HB2.out _)).mono ?_; clear HPAT; rintro e w4 ⟨hb4, (⟨hn, _⟩ | ⟨vs', B4, c4, hs, rfl, hc4, hr4⟩)⟩; (exact absurd hn (by simp)); (obtain rfl := Option.some.inj hs); clear hs; have hw4 := bl_then (bl_drewNv HB2.out _) hb4; have q := ((Blk.nw (w.alloc (.cells #[.int .i64 6, .int .i64 j, .slice A a.length c] 25)) #[.int .i64 t.k, .int .i64 t.h, .slice A2 t.a.length c2] 25 (w.heap.size + 1) (by simp)).mov (bl_drewNv (Below.refl _ _) _)).mov hb4; have q0 := q.cell 0; have q1 := q.cell 1; have q2 := q.cell 2; have ql := q.lt; clear q)
            | (go_at_call 80; refine (HIV2.out B4 c4 _ hw4 hr4 hc4).mono ?_; clear HIV2; rintro e w5 ⟨hb5, (⟨_, rfl⟩ | ⟨u', B5, c5, hs, _⟩)⟩; rotate_left; (exact absurd hs (by simp)); have hw5 := bl_then hw4 hb5))
          go_quiet (fail)
          go_wp2_with fail
          go_ret
          exact ⟨grown_but (bl_grownBy (bl_drewNv (bl_alloc hw5 _) _)) _, 6, rfl, .inl ⟨HF1.out, by decide⟩⟩
    · rw [his] at k0
      have HKN := Lib.hid (fun (W : World) (hb : Below w.heap.size w W) => known_calls bindB (by decide) (by decide) ⟨6, j, a⟩ t A c A2 c2 n gm gb cb (.slice P params.length cp) (.slice R rigid.length cr) bs W (by rw [HLEN.out]; exact HII.out.bm.mov hb) (HII.out.ob.mov hb) (hr.mov hb) hc (hr2.mov hb) hc2 (fun _ => hpB) (by omega) HII.out.each (fun e he => okL_mem hpok he) (fun e he x hx => metas_pos (hBL_iff.1 hpBL e he) x hx))
      have HF : Hid (metaF params rigid ⟨6, j, a⟩ t n bs = if knownV bs ⟨6, j, a⟩ t n = 0 then .ok bs else .error (knownV bs ⟨6, j, a⟩ t n)) := Lib.hid (by
        unfold metaF
        rw [if_neg (by show ¬ (bs.length : Int) ≤ (j : Int); omega)]
        simp [hjl, his])
      generalize knownV bs ⟨6, j, a⟩ t n = kv at *
      clear hI g1 g2 g3 z0 his
      go_enter Tryz.func62, Tryz.ntmps62
      go_wp2_with fail
      go_quiet (fail)
      go_wp2_with fail
      go_quiet (fail)
      go_wp2_with (go_at_call 78; refine (HKN.out _ (bl_drewNv HB2.out _)).mono ?_; clear HKN; rintro e w1 ⟨rfl, hb1⟩)
      go_ret
      refine ⟨grown_but (bl_grownBy (bl_then (bl_drewNv HB2.out _) hb1)) _, kv, rfl, ?_⟩
      rw [HF.out]
      by_cases h0 : kv = 0
      · rw [if_pos h0]
        exact .inr ⟨h0, bs, rfl, HII.out.mov (bl_then (bl_drewNv HB2.out _) hb1)⟩
      · rw [if_neg h0]
        exact .inl ⟨rfl, h0⟩
  · have HF : Hid (metaF params rigid ⟨6, j, a⟩ t n bs = .error 2) := Lib.hid (by
      unfold metaF
      rw [if_pos (by show (bs.length : Int) ≤ (j : Int); omega)])
    have hle : (N : Int) ≤ (j : Int) := by have := hI.len; omega
    clear hI
    go_enter Tryz.func62, Tryz.ntmps62
    go_wp2_with fail
    go_quiet (fail)
    go_wp2_with fail
    go_ret
    exact ⟨grown_but (bl_grownBy (bl_drewNv HB2.out _)) _, 2, rfl, .inl ⟨HF.out, by decide⟩⟩
end Go.Proofs.YtbmmdfehhhgkcaaGreat
