/- (*work).spine. -/
import Derived.Test.YtbmmdfehhhgkcaaGreatU3
import Derived.Test.YtbmmdfehhhgkcaaGreatGR
import Derived.Deep.RegionHeld2
namespace Go.Proofs.YtbmmdfehhhgkcaaGreat
open Go.RowKit Go.Shelf
set_option linter.unusedVariables false
set_option linter.unusedSimpArgs false

theorem reads_tail {S : Nat → Prop} {w : World} {ad : Addr} {a : Tm} {l : List Tm} (h : Reads S w (some ad) (a :: l)) : Reads S w (some (ad.add 3)) l := by
  cases h with
  | row b o ts f c hS hl hc hr =>
    rw [add_plain]
    refine .row b (o + 3) l (fun i => f (i + 1)) (fun i => c (i + 1)) hS (by simp at hl; omega) (fun i hi => ?_) (fun i hi => ?_)
    · have h1 := hc (i + 1) (by simp; omega)
      rw [show o + 3 * (i + 1) = o + 3 + 3 * i from by omega] at h1
      simpa using h1
    · have h1 := hr (i + 1) (by simp; omega)
      simpa using h1
theorem reads_head {S : Nat → Prop} {w : World} {A : Option Addr} {a : Tm} {l : List Tm} (h : Reads S w A (a :: l)) : Reads S w A [a] := by
  cases h with
  | row b o ts f c hS hl hc hr =>
    refine .row b o [a] f c hS (by simp [lim]) (fun i hi => ?_) (fun i hi => ?_)
    · have : i = 0 := by simp at hi; omega
      subst this
      exact hc 0 (by simp)
    · have : i = 0 := by simp at hi; omega
      subst this
      exact hr 0 (by simp)

set_option maxHeartbeats 16000000 in
theorem spine_calls (l : List Tm) : ∀ (n : Nat), (∀ m, n ≤ m → AP m) → ∀ (S : Nat → Prop) (t : Tm) (A : Option Addr) (c : Nat) (A2 : Option Addr) (c2 gw : Nat) (w : World), (∀ k, S k → k < w.heap.size) → S gw → Blk w gw #[.int .i64 (n : Int)] 141 →
    Reads S w A t.a → t.a.length ≤ c → Reads S w A2 l → l.length ≤ c2 → Fit (.spi n t l) →
    Calls Tryz.prog 105 #[.pointer (some ⟨gw, 0, none⟩), .agg #[.int .i64 t.k, .int .i64 t.h, .slice A t.a.length c], .slice A2 l.length c2] w (RetW S gw (.spi n t l) w) := by
  induction l with
  | nil =>
    intro n HA S t A c A2 c2 gw w hS hgw hbw hr hc hr2 hc2 hfit
    have hgl := hS gw hgw
    have hz : (([] : List Tm).length : Int) = 0 := rfl
    have e4 := Blk.nw (w.alloc (.cells #[.int .i64 t.k, .int .i64 t.h, .slice A t.a.length c] 25)) #[.int .i64 t.k, .int .i64 t.h, .slice A t.a.length c] 25 (w.heap.size + 1) (by simp)
    have HE := Lib.hid e4
    clear e4
    simp only [List.length_nil]
    go_enter Tryz.func105, Tryz.ntmps105
    go_wp2_with fail
    refine bodyPost_ret (res_tm1 rfl _ _ _ _ _ _ rfl HE.out) rfl ⟨gb_alloc (gb_alloc (gb_refl _ _) _) _, .inr ⟨t, n, A, c, rfl, .done, hc, (hr.mov (bl_alloc (Below.refl _ _) _)).mov (bl_alloc (Below.refl _ _) _), (hbw.al _).al _⟩⟩
  | cons a1 l ih =>
    intro n HA S t A c A2 c2 gw w hS hgw hbw hr hc hr2 hc2 hfit
    obtain ⟨k, h, p⟩ := t
    dsimp only at hr hc ⊢
    have hgl := hS gw hgw
    have hne : ¬ ((a1 :: l).length : Int) = 0 := by simp; omega
    have hlen := hr2.len
    have hlp := hr.len
    unfold lim at hlen hlp
    have IH := Lib.hid ih
    have HF := Lib.hid hfit
    have HSS := Lib.hid hS
    obtain ⟨ln, hln⟩ : ∃ ln, (a1 :: l).length = ln := ⟨_, rfl⟩
    have hl1 : ln = l.length + 1 := by rw [← hln]; rfl
    have hl0 : 0 < ln := by omega
    obtain ⟨ad, B, d, rfl, -, c0, c1, c2', hd, hsub⟩ := hr2.at (i := 0) (by simp)
    rw [Nat.zero_mul] at c0 c1 c2'
    simp only [List.getElem_cons_zero] at c0 c1 c2' hd hsub
    rw [show ad.add 0 = ad from rfl] at c0 c1 c2'
    have hadl := World.block_lt_of_cell? w _ c0
    have hadl1 : ad.block < w.heap.size + 1 := by omega
    rw [hln] at hc2 hne hlen ⊢
    have HL1 := Lib.hid hl1
    clear hl1
    have HR2 := Lib.hid hr2
    have HSUB := Lib.hid hsub
    clear hr2 hsub ih hfit hln
    by_cases hk3 : k = 3
    · subst hk3
      have HM := Lib.hid (fun (W : World) (hb : Below w.heap.size w W) => May_calls a1 B d W ((HSUB.out.less (fun _ q => q.elim)).mov hb) hd)
      obtain ⟨mb, hmb⟩ : ∃ mb, mayB a1 = mb := ⟨_, rfl⟩
      rw [hmb] at HM
      cases mb
      · go_enter Tryz.func105, Tryz.ntmps105
        go_wp2_with (first
          | (go_at_call 38; refine (HM.out _ (bl_alloc (bl_alloc (Below.refl _ _) _) _)).mono ?_; clear HM; rintro e w1 ⟨rfl, hb1⟩)
          | (go_at_call 103; refine (fail_calls 4 _).mono ?_; rintro e w2 ⟨rfl, rfl⟩))
        exact ⟨rfl, gb_then (gb_alloc (gb_alloc (gb_refl _ _) _) _) hb1, .inl ⟨4, rfl, .lamL hmb⟩⟩
      · have HMB := Lib.hid hmb
        obtain ⟨b0, rfl⟩ : ∃ b0, p = [b0] := List.length_eq_one_iff.1 HF.out.2.1.lam
        obtain ⟨ad2, B2, d2, rfl, hns2, e0, e1, e2, hd2, hsub2⟩ := hr.at (i := 0) (by simp)
        rw [Nat.zero_mul] at e0 e1 e2
        simp only [List.getElem_cons_zero] at e0 e1 e2 hd2 hsub2
        rw [show ad2.add 0 = ad2 from rfl] at e0 e1 e2
        have HSUB2 := Lib.hid hsub2
        have hcl : (1 : Int) ≤ (c2 : Int) := by omega
        have hln1 : (1 : Int) ≤ (ln : Int) := by omega
        have hb2 : Below w.heap.size w ((w.alloc (.cells #[.int .i64 3, .int .i64 h, .slice (some ad2) 1 c] 25)).alloc (.cells #[.int .i64 0, .int .i64 0, .slice none 0 0] 25)) := bl_alloc (bl_alloc (Below.refl _ _) _) _
        have hbt : Blk ((w.alloc (.cells #[.int .i64 3, .int .i64 h, .slice (some ad2) 1 c] 25)).alloc (.cells #[.int .i64 0, .int .i64 0, .slice none 0 0] 25)) w.heap.size #[.int .i64 3, .int .i64 h, .slice (some ad2) 1 c] 25 := (Blk.nw _ _ _ _ rfl).al _
        have hbz : Blk ((w.alloc (.cells #[.int .i64 3, .int .i64 h, .slice (some ad2) 1 c] 25)).alloc (.cells #[.int .i64 0, .int .i64 0, .slice none 0 0] 25)) (w.heap.size + 1) #[.int .i64 0, .int .i64 0, .slice none 0 0] 25 := Blk.nw _ _ _ _ (by simp)
        have HB2 := Lib.hid hb2
        have HBT := Lib.hid hbt
        have HBZ := Lib.hid hbz
        clear hb2 hbt hbz hsub2 hmb hr
        go_enter Tryz.func105, Tryz.ntmps105
        go_upto_region 7 with (go_at_call 38; refine (HM.out _ HB2.out).mono ?_; clear HM; rintro e w1 ⟨rfl, hb1⟩)
        have hw1 := bl_then HB2.out hb1
        have HG1 := Lib.hid (grown_but (bl_grownBy hw1) (some gw))
        have hbt1 := HBT.out.mov hb1
        have q2 := hbt1.cell 2
        have e0' := cell_mov e0 hw1
        have e1' := cell_mov e1 hw1
        have e2' := cell_mov e2 hw1
        have HBT1 := Lib.hid hbt1
        have HBZ1 := Lib.hid (HBZ.out.mov hb1)
        have hzl := HBZ1.out.lt
        have had2 := World.block_lt_of_cell? w _ e0
        have HKEEP : Hid (∀ W, w.grownBy W (some gw) → Blk W w.heap.size #[.int .i64 3, .int .i64 h, .slice (some ad2) 1 c] 25 → (w.grownBy W (some gw) ∧ W.cell? ⟨w.heap.size, 2, none⟩ = some (.slice (some ad2) 1 c) ∧ W.cell? ad2 = some (.int .i64 b0.k) ∧ W.cell? ⟨ad2.block, ad2.off + 1, none⟩ = some (.int .i64 b0.h) ∧ W.cell? ⟨ad2.block, ad2.off + 2, none⟩ = some (.slice B2 b0.a.length d2))) := fun W hg hb => by
          have hrk := hg.block ad2.block had2 (fun e => by cases e; exact hns2 hgw)
          exact ⟨hg, hb.cell 2, (World.cell?_of_block (a := ad2) hrk).trans e0, (World.cell?_of_block (a := ⟨ad2.block, ad2.off + 1, none⟩) hrk).trans e1, (World.cell?_of_block (a := ⟨ad2.block, ad2.off + 2, none⟩) hrk).trans e2⟩
        have hT : ∀ k, k < w.heap.size → ¬ S k → ¬ (S k ∨ k = w.heap.size + 1) := fun k hk hn q => q.elim hn (fun q => by omega)
        have HT := Lib.hid hT
        have hS' : ∀ k, (S k ∨ k = w.heap.size + 1) → k < w1.heap.size := fun k q => q.elim (fun q => Nat.lt_of_lt_of_le (HSS.out k q) hw1.size) (fun q => q ▸ hzl)
        have HS' := Lib.hid hS'
        have HAPP : Hid (∀ W, Below w1.heap.size w1 W → Calls Tryz.prog 85 #[.pointer (some ⟨gw, 0, none⟩), .agg #[.int .i64 b0.k, .int .i64 b0.h, .slice B2 b0.a.length d2], .agg #[.slice (some ad) 1 c2, .int .i64 0]] W (RetW (fun k => S k ∨ k = w.heap.size + 1) gw (.app n b0 ⟨[a1], 0⟩) W)) :=
          fun W hb => HA n (Nat.le_refl _) _ b0 ⟨[a1], 0⟩ B2 d2 (some ad) c2 gw W (fun k q => Nat.lt_of_lt_of_le (HS'.out k q) hb.size) (.inl hgw) (hbw.mov (bl_then hw1 hb)) (HSUB2.out.step HT.out (fun k hk _ => (bl_then hw1 hb).block k hk)) hd2 ((reads_head HR2.out).step HT.out (fun k hk _ => (bl_then hw1 hb).block k hk)) (by simp; omega) (HF.out.body HMB.out)
        clear c0 c1 c2' hadl hadl1 had2 hbt1 hT hS' e0 e1 e2
        by_cases hc1 : c2 = 1
        · subst hc1
          obtain rfl : l = [] := List.eq_nil_of_length_eq_zero (by have := HL1.out; omega)
          have HIH : Hid (∀ (u : Tm) (m' : Nat) (B3 : Option Addr) (c4 : Nat) (W : World), n ≤ m' → w.grownBy W (some gw) → Blk W gw #[.int .i64 (m' : Int)] 141 → Reads (fun k => S k ∨ k = w.heap.size + 1) W B3 u.a → u.a.length ≤ c4 → Fit (.spi m' u []) → w1.grownBy W (some gw) → Calls Tryz.prog 105 #[.pointer (some ⟨gw, 0, none⟩), .agg #[.int .i64 u.k, .int .i64 u.h, .slice B3 u.a.length c4], .slice (some ad) 0 0] W (RetW (fun k => S k ∨ k = w.heap.size + 1) gw (.spi m' u []) W)) :=
            fun u m' B3 c4 W hm hg hb hru hcu hf hg1 => IH.out m' (fun q hq => HA q (Nat.le_trans hm hq)) _ u B3 c4 (some ad) 0 gw W (fun k q => Nat.lt_of_lt_of_le (HS'.out k q) hg1.size) (.inl hgw) hb hru hcu (.nil _) (Nat.le_refl _) hf
          go_region_held2 (fun W => (w.grownBy W (some gw) ∧ W.cell? ⟨w.heap.size, 2, none⟩ = some (.slice (some ad2) 1 c) ∧ W.cell? ad2 = some (.int .i64 b0.k) ∧ W.cell? ⟨ad2.block, ad2.off + 1, none⟩ = some (.int .i64 b0.h) ∧ W.cell? ⟨ad2.block, ad2.off + 2, none⟩ = some (.slice B2 b0.a.length d2)))
            ((first | exact hs5 | exact hs4 | exact hs3 | exact HKEEP.out _ (gb_drew HG1.out) (Blk.drew HBT1.out) | exact HKEEP.out _ HG1.out HBT1.out))
            (first
              | (go_at_call 85; refine (HAPP.out _ (Below.refl _ _).drew).mono ?_; rintro e w2 ⟨hg2, h2⟩; have hg2' := gb_undrew hg2; have hbt2 := HBT1.out.grown hg2' (fun e => by cases e; omega); have hs3 := HKEEP.out w2 (World.grownBy.trans HG1.out hg2') hbt2; have HBT2 := Lib.hid hbt2; have HBZ2 := Lib.hid (HBZ1.out.grown hg2' (fun e => by cases e; omega)); clear hbt2; rcases h2 with ⟨xe, rfl, hev⟩ | ⟨u, m', B3, c4, rfl, hev, hc4, hr4, hbw2⟩; (exact ⟨rfl, hs3.1, .inl ⟨xe, rfl, .lamE HMB.out hev⟩⟩))
              | (go_at_call 105
                 have hfr := hev.fit (HF.out.body HMB.out)
                 refine (HIH.out u m' B3 c4 w2 (Nat.le_of_lt hfr.1) (World.grownBy.trans HG1.out hg2') hbw2 hr4 hc4 (HF.out.tail (Nat.le_of_lt hfr.1) hfr.2.1 hfr.2.2.1 hfr.2.2.2) hg2').mono ?_
                 rintro e w3 ⟨hg3, h3⟩
                 have hbt3 := HBT2.out.grown hg3 (fun e => by cases e; omega)
                 have hs4 := HKEEP.out w3 (World.grownBy.trans hs3.1 hg3) hbt3
                 have q := HBZ2.out.grown hg3 (fun e => by cases e; omega)
                 have q0 := q.cell 0
                 have q1 := q.cell 1
                 have q2 := q.cell 2
                 have u0 := q.frozen 0
                 have u1 := q.frozen 1
                 have u2 := q.frozen 2
                 have HQ := Lib.hid q
                 have HBT3 := Lib.hid hbt3
                 clear q hbt3
                 rcases h3 with ⟨xe, rfl, hev2⟩ | ⟨z, m2, B4, c5, rfl, hev2, hc5, hr5, hbw3⟩; (exact ⟨rfl, hs4.1, .inl ⟨xe, rfl, .lam HMB.out hev hev2⟩⟩)
                 have hs5 := HKEEP.out _ (gb_new3 hs4.1 (g := w.heap.size + 1) (Nat.le_succ _) (.int .i64 z.k) (.int .i64 z.h) (.slice B4 z.a.length c5)) (far3 HBT3.out (by omega) _ _ _)))
          go_wp2_with fail
          exact bodyPost_ret (res_tm1 rfl _ _ _ _ _ _ rfl (HQ.out.set3 _ _ _)) rfl ⟨hs5.1, .inr ⟨z, m2, B4, c5, rfl, .lam HMB.out hev hev2, hc5, (hr5.set3 (.inr rfl)).less (fun k q => .inl q), far3 hbw3 (by omega) _ _ _⟩⟩
        · have hll : ln - 1 = l.length := by have := HL1.out; omega
          have hlc : l.length ≤ c2 - 1 := by have := HL1.out; omega
          have HIH : Hid (∀ (u : Tm) (m' : Nat) (B3 : Option Addr) (c4 : Nat) (W : World), n ≤ m' → w.grownBy W (some gw) → Blk W gw #[.int .i64 (m' : Int)] 141 → Reads (fun k => S k ∨ k = w.heap.size + 1) W B3 u.a → u.a.length ≤ c4 → Fit (.spi m' u l) → w1.grownBy W (some gw) → Calls Tryz.prog 105 #[.pointer (some ⟨gw, 0, none⟩), .agg #[.int .i64 u.k, .int .i64 u.h, .slice B3 u.a.length c4], .slice (some (ad.add 3)) (ln - 1) (c2 - 1)] W (RetW (fun k => S k ∨ k = w.heap.size + 1) gw (.spi m' u l) W)) :=
            fun u m' B3 c4 W hm hg hb hru hcu hf hg1 => by
              rw [hll]
              exact IH.out m' (fun q hq => HA q (Nat.le_trans hm hq)) _ u B3 c4 (some (ad.add 3)) (c2 - 1) gw W (fun k q => Nat.lt_of_lt_of_le (HS'.out k q) hg1.size) (.inl hgw) hb hru hcu ((reads_tail HR2.out).step HT.out (fun k hk hn => hg.block k hk (fun e => hn (by cases e; exact hgw)))) hlc hf
          clear hll hlc
          go_region_held2 (fun W => (w.grownBy W (some gw) ∧ W.cell? ⟨w.heap.size, 2, none⟩ = some (.slice (some ad2) 1 c) ∧ W.cell? ad2 = some (.int .i64 b0.k) ∧ W.cell? ⟨ad2.block, ad2.off + 1, none⟩ = some (.int .i64 b0.h) ∧ W.cell? ⟨ad2.block, ad2.off + 2, none⟩ = some (.slice B2 b0.a.length d2)))
            ((first | exact hs5 | exact hs4 | exact hs3 | exact HKEEP.out _ (gb_drew HG1.out) (Blk.drew HBT1.out) | exact HKEEP.out _ HG1.out HBT1.out))
            (first
              | (go_at_call 85; refine (HAPP.out _ (Below.refl _ _).drew).mono ?_; rintro e w2 ⟨hg2, h2⟩; have hg2' := gb_undrew hg2; have hbt2 := HBT1.out.grown hg2' (fun e => by cases e; omega); have hs3 := HKEEP.out w2 (World.grownBy.trans HG1.out hg2') hbt2; have HBT2 := Lib.hid hbt2; have HBZ2 := Lib.hid (HBZ1.out.grown hg2' (fun e => by cases e; omega)); clear hbt2; rcases h2 with ⟨xe, rfl, hev⟩ | ⟨u, m', B3, c4, rfl, hev, hc4, hr4, hbw2⟩; (exact ⟨rfl, hs3.1, .inl ⟨xe, rfl, .lamE HMB.out hev⟩⟩))
              | (go_at_call 105
                 have hfr := hev.fit (HF.out.body HMB.out)
                 refine (HIH.out u m' B3 c4 w2 (Nat.le_of_lt hfr.1) (World.grownBy.trans HG1.out hg2') hbw2 hr4 hc4 (HF.out.tail (Nat.le_of_lt hfr.1) hfr.2.1 hfr.2.2.1 hfr.2.2.2) hg2').mono ?_
                 rintro e w3 ⟨hg3, h3⟩
                 have hbt3 := HBT2.out.grown hg3 (fun e => by cases e; omega)
                 have hs4 := HKEEP.out w3 (World.grownBy.trans hs3.1 hg3) hbt3
                 have q := HBZ2.out.grown hg3 (fun e => by cases e; omega)
                 have q0 := q.cell 0
                 have q1 := q.cell 1
                 have q2 := q.cell 2
                 have u0 := q.frozen 0
                 have u1 := q.frozen 1
                 have u2 := q.frozen 2
                 have HQ := Lib.hid q
                 have HBT3 := Lib.hid hbt3
                 clear q hbt3
                 rcases h3 with ⟨xe, rfl, hev2⟩ | ⟨z, m2, B4, c5, rfl, hev2, hc5, hr5, hbw3⟩; (exact ⟨rfl, hs4.1, .inl ⟨xe, rfl, .lam HMB.out hev hev2⟩⟩)
                 have hs5 := HKEEP.out _ (gb_new3 hs4.1 (g := w.heap.size + 1) (Nat.le_succ _) (.int .i64 z.k) (.int .i64 z.h) (.slice B4 z.a.length c5)) (far3 HBT3.out (by omega) _ _ _)))
          go_wp2_with fail
          exact bodyPost_ret (res_tm1 rfl _ _ _ _ _ _ rfl (HQ.out.set3 _ _ _)) rfl ⟨hs5.1, .inr ⟨z, m2, B4, c5, rfl, .lam HMB.out hev hev2, hc5, (hr5.set3 (.inr rfl)).less (fun k q => .inl q), far3 hbw3 (by omega) _ _ _⟩⟩
    · by_cases hk4 : k = 4
      · subst hk4
        have hb2 : Below w.heap.size w ((w.alloc (.cells #[.int .i64 4, .int .i64 h, .slice A p.length c] 25)).alloc (.cells #[.int .i64 0, .int .i64 0, .slice none 0 0] 25)) := bl_alloc (bl_alloc (Below.refl _ _) _) _
        have hbt : Blk ((w.alloc (.cells #[.int .i64 4, .int .i64 h, .slice A p.length c] 25)).alloc (.cells #[.int .i64 0, .int .i64 0, .slice none 0 0] 25)) w.heap.size #[.int .i64 4, .int .i64 h, .slice A p.length c] 25 := (Blk.nw _ _ _ _ rfl).al _
        have hbz : Blk ((w.alloc (.cells #[.int .i64 4, .int .i64 h, .slice A p.length c] 25)).alloc (.cells #[.int .i64 0, .int .i64 0, .slice none 0 0] 25)) (w.heap.size + 1) #[.int .i64 0, .int .i64 0, .slice none 0 0] 25 := Blk.nw _ _ _ _ (by simp)
        have hev : Ev (.spi n ⟨4, h, p⟩ (a1 :: l)) (.one ⟨4, h, p ++ a1 :: l⟩ n) := .head (by simp)
        have hcs : p.length + (a1 :: l).length ≤ lim := by
          have h4 := HF.out.2.2.2
          have h1 := HF.out.1
          have h5 : ∀ z : List Tm, z.length ≤ cntL z := by
            intro z
            induction z with
            | nil => simp
            | cons y z ih =>
              obtain ⟨yk, yh, ya⟩ := y
              rw [cntL, cnt, List.length_cons]
              omega
          have h6 := h5 p
          have h7 := h5 (a1 :: l)
          rw [cnt] at h4
          unfold lim
          omega
        have HC0 : Hid (∀ (W : World) (g : Nat), Below w.heap.size w W → w.heap.size + 1 < W.heap.size → Blk W g #[.slice A p.length c, .slice (some ad) ln c2] 23 → Calls Tryz.prog 117 #[.slice (some ⟨g, 0, none⟩) 2 2] W fun e w' => Below W.heap.size W w' ∧ ∃ C cc, e = .returned (.slice C (p ++ a1 :: l).length cc) ∧ (p ++ a1 :: l).length ≤ cc ∧ Reads (fun k => S k ∨ k = w.heap.size + 1) w' C (p ++ a1 :: l)) :=
          fun W g hb hlt hg => by
            have hT : ∀ k, k < w.heap.size → ¬ S k → ¬ (S k ∨ k = w.heap.size + 1) := fun k hk hn q => q.elim hn (fun q => by omega)
            have hq : ln = (a1 :: l).length := by rw [HL1.out]; rfl
            rw [hq] at hg
            exact Concat_calls _ p (a1 :: l) A (some ad) c c2 g W (fun k q => q.elim (fun q => Nat.lt_of_lt_of_le (HSS.out k q) hb.size) (fun q => q ▸ hlt)) hg (hr.step hT (fun k hk _ => hb.block k hk)) hc (HR2.out.step hT (fun k hk _ => hb.block k hk)) (by rw [← hq]; exact hc2) hcs
        obtain ⟨rs, hrs⟩ : ∃ rs, p ++ a1 :: l = rs := ⟨_, rfl⟩
        rw [hrs] at hev HC0
        have HEV := Lib.hid hev
        have HB2 := Lib.hid hb2
        have HBT := Lib.hid hbt
        have HBZ := Lib.hid hbz
        have hz0 := hbt.cell 0
        have hz1 := hbt.cell 1
        have hz2 := hbt.cell 2
        have HKEEP : Hid (∀ W, Below w.heap.size w W → Blk W w.heap.size #[.int .i64 4, .int .i64 h, .slice A p.length c] 25 → (Below w.heap.size w W ∧ W.cell? ⟨w.heap.size, 0, none⟩ = some (.int .i64 4) ∧ W.cell? ⟨w.heap.size, 1, none⟩ = some (.int .i64 h) ∧ W.cell? ⟨w.heap.size, 2, none⟩ = some (.slice A p.length c))) := fun W h1 h2 => ⟨h1, h2.cell 0, h2.cell 1, h2.cell 2⟩
        clear hb2 hbt hbz hev hrs hcs c0 c1 c2' hadl hadl1
        go_enter Tryz.func105, Tryz.ntmps105
        go_upto_region 11 with fail
        go_region_held2 (fun W => (Below w.heap.size w W ∧ W.cell? ⟨w.heap.size, 0, none⟩ = some (.int .i64 4) ∧ W.cell? ⟨w.heap.size, 1, none⟩ = some (.int .i64 h) ∧ W.cell? ⟨w.heap.size, 2, none⟩ = some (.slice A p.length c)))
          ((first | exact hs5 | exact hs4 | exact HKEEP.out _ HB2.out.drew (Blk.drew HBT.out) | exact HKEEP.out _ HB2.out HBT.out | exact HKEEP.out _ (bl_alloc HB2.out _).drew (Blk.drew (Blk.al HBT.out _)) | exact HKEEP.out _ (bl_alloc HB2.out _) (Blk.al HBT.out _)))
          (first
            | (go_at_call 117; refine (HC0.out _ _ (bl_alloc HB2.out _).drew (by simp only [World.size_drew, World.size_alloc]; omega) (Blk.drew (Blk.nw _ _ _ _ (by simp)))).mono ?_
               rintro e w3 ⟨hb3, C, cc, rfl, hcc, hrr⟩
               have hbt3 := (Blk.drew (HBT.out.al (.cells #[.slice A p.length c, .slice (some ad) ln c2] 23))).mov hb3
               have q := (Blk.drew (HBZ.out.al (.cells #[.slice A p.length c, .slice (some ad) ln c2] 23))).mov hb3
               have hs4 := HKEEP.out w3 (bl_then (bl_alloc HB2.out (.cells #[.slice A p.length c, .slice (some ad) ln c2] 23)).drew hb3) hbt3
               have q0 := q.cell 0
               have q1 := q.cell 1
               have q2 := q.cell 2
               have u0 := q.frozen 0
               have u1 := q.frozen 1
               have u2 := q.frozen 2
               have HQ := Lib.hid q
               have HB3 := Lib.hid hb3
               have hs5 := HKEEP.out _ (bl_set3 hs4.1 (g := w.heap.size + 1) (Nat.le_succ _) (x := .int .i64 4) (y := .int .i64 h) (z := .slice C rs.length cc)) (far3 hbt3 (by omega) _ _ _)
               clear q))
        go_wp2_with fail
        exact bodyPost_ret (res_tm1 rfl _ _ _ _ _ _ rfl (HQ.out.set3 _ _ _)) rfl ⟨grown_but (bl_grownBy hs5.1) _, .inr ⟨⟨4, h, rs⟩, n, C, cc, rfl, HEV.out, hcc, (hrr.set3 (.inr rfl)).less (fun k q => .inl q), far3 (((hbw.al _).al _).al (.cells #[.slice A p.length c, .slice (some ad) ln c2] 23) |>.drew |>.mov HB3.out) (by omega) _ _ _⟩⟩
      · by_cases hk5 : k = 5
        · subst hk5
          have hb2 : Below w.heap.size w ((w.alloc (.cells #[.int .i64 5, .int .i64 h, .slice A p.length c] 25)).alloc (.cells #[.int .i64 0, .int .i64 0, .slice none 0 0] 25)) := bl_alloc (bl_alloc (Below.refl _ _) _) _
          have hbt : Blk ((w.alloc (.cells #[.int .i64 5, .int .i64 h, .slice A p.length c] 25)).alloc (.cells #[.int .i64 0, .int .i64 0, .slice none 0 0] 25)) w.heap.size #[.int .i64 5, .int .i64 h, .slice A p.length c] 25 := (Blk.nw _ _ _ _ rfl).al _
          have hbz : Blk ((w.alloc (.cells #[.int .i64 5, .int .i64 h, .slice A p.length c] 25)).alloc (.cells #[.int .i64 0, .int .i64 0, .slice none 0 0] 25)) (w.heap.size + 1) #[.int .i64 0, .int .i64 0, .slice none 0 0] 25 := Blk.nw _ _ _ _ (by simp)
          have hev : Ev (.spi n ⟨5, h, p⟩ (a1 :: l)) (.one ⟨5, h, p ++ a1 :: l⟩ n) := .head (by simp)
          have hcs : p.length + (a1 :: l).length ≤ lim := by
            have h4 := HF.out.2.2.2
            have h1 := HF.out.1
            have h5 : ∀ z : List Tm, z.length ≤ cntL z := by
              intro z
              induction z with
              | nil => simp
              | cons y z ih =>
                obtain ⟨yk, yh, ya⟩ := y
                rw [cntL, cnt, List.length_cons]
                omega
            have h6 := h5 p
            have h7 := h5 (a1 :: l)
            rw [cnt] at h4
            unfold lim
            omega
          have HC0 : Hid (∀ (W : World) (g : Nat), Below w.heap.size w W → w.heap.size + 1 < W.heap.size → Blk W g #[.slice A p.length c, .slice (some ad) ln c2] 23 → Calls Tryz.prog 117 #[.slice (some ⟨g, 0, none⟩) 2 2] W fun e w' => Below W.heap.size W w' ∧ ∃ C cc, e = .returned (.slice C (p ++ a1 :: l).length cc) ∧ (p ++ a1 :: l).length ≤ cc ∧ Reads (fun k => S k ∨ k = w.heap.size + 1) w' C (p ++ a1 :: l)) :=
            fun W g hb hlt hg => by
              have hT : ∀ k, k < w.heap.size → ¬ S k → ¬ (S k ∨ k = w.heap.size + 1) := fun k hk hn q => q.elim hn (fun q => by omega)
              have hq : ln = (a1 :: l).length := by rw [HL1.out]; rfl
              rw [hq] at hg
              exact Concat_calls _ p (a1 :: l) A (some ad) c c2 g W (fun k q => q.elim (fun q => Nat.lt_of_lt_of_le (HSS.out k q) hb.size) (fun q => q ▸ hlt)) hg (hr.step hT (fun k hk _ => hb.block k hk)) hc (HR2.out.step hT (fun k hk _ => hb.block k hk)) (by rw [← hq]; exact hc2) hcs
          obtain ⟨rs, hrs⟩ : ∃ rs, p ++ a1 :: l = rs := ⟨_, rfl⟩
          rw [hrs] at hev HC0
          have HEV := Lib.hid hev
          have HB2 := Lib.hid hb2
          have HBT := Lib.hid hbt
          have HBZ := Lib.hid hbz
          have hz0 := hbt.cell 0
          have hz1 := hbt.cell 1
          have hz2 := hbt.cell 2
          have HKEEP : Hid (∀ W, Below w.heap.size w W → Blk W w.heap.size #[.int .i64 5, .int .i64 h, .slice A p.length c] 25 → (Below w.heap.size w W ∧ W.cell? ⟨w.heap.size, 0, none⟩ = some (.int .i64 5) ∧ W.cell? ⟨w.heap.size, 1, none⟩ = some (.int .i64 h) ∧ W.cell? ⟨w.heap.size, 2, none⟩ = some (.slice A p.length c))) := fun W h1 h2 => ⟨h1, h2.cell 0, h2.cell 1, h2.cell 2⟩
          clear hb2 hbt hbz hev hrs hcs c0 c1 c2' hadl hadl1
          go_enter Tryz.func105, Tryz.ntmps105
          go_upto_region 11 with fail
          go_region_held2 (fun W => (Below w.heap.size w W ∧ W.cell? ⟨w.heap.size, 0, none⟩ = some (.int .i64 5) ∧ W.cell? ⟨w.heap.size, 1, none⟩ = some (.int .i64 h) ∧ W.cell? ⟨w.heap.size, 2, none⟩ = some (.slice A p.length c)))
            ((first | exact hs5 | exact hs4 | exact HKEEP.out _ HB2.out.drew (Blk.drew HBT.out) | exact HKEEP.out _ HB2.out HBT.out | exact HKEEP.out _ (bl_alloc HB2.out _).drew (Blk.drew (Blk.al HBT.out _)) | exact HKEEP.out _ (bl_alloc HB2.out _) (Blk.al HBT.out _)))
            (first
              | (go_at_call 117; refine (HC0.out _ _ (bl_alloc HB2.out _).drew (by simp only [World.size_drew, World.size_alloc]; omega) (Blk.drew (Blk.nw _ _ _ _ (by simp)))).mono ?_
                 rintro e w3 ⟨hb3, C, cc, rfl, hcc, hrr⟩
                 have hbt3 := (Blk.drew (HBT.out.al (.cells #[.slice A p.length c, .slice (some ad) ln c2] 23))).mov hb3
                 have q := (Blk.drew (HBZ.out.al (.cells #[.slice A p.length c, .slice (some ad) ln c2] 23))).mov hb3
                 have hs4 := HKEEP.out w3 (bl_then (bl_alloc HB2.out (.cells #[.slice A p.length c, .slice (some ad) ln c2] 23)).drew hb3) hbt3
                 have q0 := q.cell 0
                 have q1 := q.cell 1
                 have q2 := q.cell 2
                 have u0 := q.frozen 0
                 have u1 := q.frozen 1
                 have u2 := q.frozen 2
                 have HQ := Lib.hid q
                 have HB3 := Lib.hid hb3
                 have hs5 := HKEEP.out _ (bl_set3 hs4.1 (g := w.heap.size + 1) (Nat.le_succ _) (x := .int .i64 5) (y := .int .i64 h) (z := .slice C rs.length cc)) (far3 hbt3 (by omega) _ _ _)
                 clear q))
          go_wp2_with fail
          exact bodyPost_ret (res_tm1 rfl _ _ _ _ _ _ rfl (HQ.out.set3 _ _ _)) rfl ⟨grown_but (bl_grownBy hs5.1) _, .inr ⟨⟨5, h, rs⟩, n, C, cc, rfl, HEV.out, hcc, (hrr.set3 (.inr rfl)).less (fun k q => .inl q), far3 (((hbw.al _).al _).al (.cells #[.slice A p.length c, .slice (some ad) ln c2] 23) |>.drew |>.mov HB3.out) (by omega) _ _ _⟩⟩
        · by_cases hk2 : k = 2
          · subst hk2
            have hb2 : Below w.heap.size w ((w.alloc (.cells #[.int .i64 2, .int .i64 h, .slice A p.length c] 25)).alloc (.cells #[.int .i64 0, .int .i64 0, .slice none 0 0] 25)) := bl_alloc (bl_alloc (Below.refl _ _) _) _
            have hbt : Blk ((w.alloc (.cells #[.int .i64 2, .int .i64 h, .slice A p.length c] 25)).alloc (.cells #[.int .i64 0, .int .i64 0, .slice none 0 0] 25)) w.heap.size #[.int .i64 2, .int .i64 h, .slice A p.length c] 25 := (Blk.nw _ _ _ _ rfl).al _
            have hbz : Blk ((w.alloc (.cells #[.int .i64 2, .int .i64 h, .slice A p.length c] 25)).alloc (.cells #[.int .i64 0, .int .i64 0, .slice none 0 0] 25)) (w.heap.size + 1) #[.int .i64 0, .int .i64 0, .slice none 0 0] 25 := Blk.nw _ _ _ _ (by simp)
            have hev : Ev (.spi n ⟨2, h, p⟩ (a1 :: l)) (.one ⟨2, h, p ++ a1 :: l⟩ n) := .head (by simp)
            have hcs : p.length + (a1 :: l).length ≤ lim := by
              have h4 := HF.out.2.2.2
              have h1 := HF.out.1
              have h5 : ∀ z : List Tm, z.length ≤ cntL z := by
                intro z
                induction z with
                | nil => simp
                | cons y z ih =>
                  obtain ⟨yk, yh, ya⟩ := y
                  rw [cntL, cnt, List.length_cons]
                  omega
              have h6 := h5 p
              have h7 := h5 (a1 :: l)
              rw [cnt] at h4
              unfold lim
              omega
            have HC0 : Hid (∀ (W : World) (g : Nat), Below w.heap.size w W → w.heap.size + 1 < W.heap.size → Blk W g #[.slice A p.length c, .slice (some ad) ln c2] 23 → Calls Tryz.prog 117 #[.slice (some ⟨g, 0, none⟩) 2 2] W fun e w' => Below W.heap.size W w' ∧ ∃ C cc, e = .returned (.slice C (p ++ a1 :: l).length cc) ∧ (p ++ a1 :: l).length ≤ cc ∧ Reads (fun k => S k ∨ k = w.heap.size + 1) w' C (p ++ a1 :: l)) :=
              fun W g hb hlt hg => by
                have hT : ∀ k, k < w.heap.size → ¬ S k → ¬ (S k ∨ k = w.heap.size + 1) := fun k hk hn q => q.elim hn (fun q => by omega)
                have hq : ln = (a1 :: l).length := by rw [HL1.out]; rfl
                rw [hq] at hg
                exact Concat_calls _ p (a1 :: l) A (some ad) c c2 g W (fun k q => q.elim (fun q => Nat.lt_of_lt_of_le (HSS.out k q) hb.size) (fun q => q ▸ hlt)) hg (hr.step hT (fun k hk _ => hb.block k hk)) hc (HR2.out.step hT (fun k hk _ => hb.block k hk)) (by rw [← hq]; exact hc2) hcs
            obtain ⟨rs, hrs⟩ : ∃ rs, p ++ a1 :: l = rs := ⟨_, rfl⟩
            rw [hrs] at hev HC0
            have HEV := Lib.hid hev
            have HB2 := Lib.hid hb2
            have HBT := Lib.hid hbt
            have HBZ := Lib.hid hbz
            have hz0 := hbt.cell 0
            have hz1 := hbt.cell 1
            have hz2 := hbt.cell 2
            have HKEEP : Hid (∀ W, Below w.heap.size w W → Blk W w.heap.size #[.int .i64 2, .int .i64 h, .slice A p.length c] 25 → (Below w.heap.size w W ∧ W.cell? ⟨w.heap.size, 0, none⟩ = some (.int .i64 2) ∧ W.cell? ⟨w.heap.size, 1, none⟩ = some (.int .i64 h) ∧ W.cell? ⟨w.heap.size, 2, none⟩ = some (.slice A p.length c))) := fun W h1 h2 => ⟨h1, h2.cell 0, h2.cell 1, h2.cell 2⟩
            clear hb2 hbt hbz hev hrs hcs c0 c1 c2' hadl hadl1
            go_enter Tryz.func105, Tryz.ntmps105
            go_upto_region 11 with fail
            go_region_held2 (fun W => (Below w.heap.size w W ∧ W.cell? ⟨w.heap.size, 0, none⟩ = some (.int .i64 2) ∧ W.cell? ⟨w.heap.size, 1, none⟩ = some (.int .i64 h) ∧ W.cell? ⟨w.heap.size, 2, none⟩ = some (.slice A p.length c)))
              ((first | exact hs5 | exact hs4 | exact HKEEP.out _ HB2.out.drew (Blk.drew HBT.out) | exact HKEEP.out _ HB2.out HBT.out | exact HKEEP.out _ (bl_alloc HB2.out _).drew (Blk.drew (Blk.al HBT.out _)) | exact HKEEP.out _ (bl_alloc HB2.out _) (Blk.al HBT.out _)))
              (first
                | (go_at_call 117; refine (HC0.out _ _ (bl_alloc HB2.out _).drew (by simp only [World.size_drew, World.size_alloc]; omega) (Blk.drew (Blk.nw _ _ _ _ (by simp)))).mono ?_
                   rintro e w3 ⟨hb3, C, cc, rfl, hcc, hrr⟩
                   have hbt3 := (Blk.drew (HBT.out.al (.cells #[.slice A p.length c, .slice (some ad) ln c2] 23))).mov hb3
                   have q := (Blk.drew (HBZ.out.al (.cells #[.slice A p.length c, .slice (some ad) ln c2] 23))).mov hb3
                   have hs4 := HKEEP.out w3 (bl_then (bl_alloc HB2.out (.cells #[.slice A p.length c, .slice (some ad) ln c2] 23)).drew hb3) hbt3
                   have q0 := q.cell 0
                   have q1 := q.cell 1
                   have q2 := q.cell 2
                   have u0 := q.frozen 0
                   have u1 := q.frozen 1
                   have u2 := q.frozen 2
                   have HQ := Lib.hid q
                   have HB3 := Lib.hid hb3
                   have hs5 := HKEEP.out _ (bl_set3 hs4.1 (g := w.heap.size + 1) (Nat.le_succ _) (x := .int .i64 2) (y := .int .i64 h) (z := .slice C rs.length cc)) (far3 hbt3 (by omega) _ _ _)
                   clear q))
            go_wp2_with fail
            exact bodyPost_ret (res_tm1 rfl _ _ _ _ _ _ rfl (HQ.out.set3 _ _ _)) rfl ⟨grown_but (bl_grownBy hs5.1) _, .inr ⟨⟨2, h, rs⟩, n, C, cc, rfl, HEV.out, hcc, (hrr.set3 (.inr rfl)).less (fun k q => .inl q), far3 (((hbw.al _).al _).al (.cells #[.slice A p.length c, .slice (some ad) ln c2] 23) |>.drew |>.mov HB3.out) (by omega) _ _ _⟩⟩
          · go_enter Tryz.func105, Tryz.ntmps105
            go_wp2_with (go_at_call 103; refine (fail_calls 3 _).mono ?_; rintro e w2 ⟨rfl, rfl⟩)
            exact ⟨rfl, gb_alloc (gb_alloc (gb_refl _ _) _) _, .inl ⟨3, rfl, .type ⟨hk3, hk4, hk5, hk2⟩⟩⟩
end Go.Proofs.YtbmmdfehhhgkcaaGreat
