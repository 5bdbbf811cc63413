/- (*work).apply, one step. -/
import Derived.Test.YtbmmdfehhhgkcaaGreatU3
import Derived.Deep.RegionHeld2
import Derived.Deep.RegionLaw
namespace Go.Proofs.YtbmmdfehhhgkcaaGreat
open Go.RowKit Go.Shelf
set_option linter.unusedVariables false
set_option linter.unusedSimpArgs false

set_option maxHeartbeats 16000000 in
theorem apply_step (n : Nat) (HA : ∀ m, n < m → AP m) (HSP : ∀ m, n < m → SP m) : AP n := by
  intro S t x A c A2 c2 gw w hS hgw hbw hr hc hr2 hc2 hfit
  obtain ⟨k, h, a⟩ := t
  dsimp only at hr hc ⊢
  have hn4 := hfit.1
  have hlen := hr.len
  have hlen2 := hr2.len
  have hlx := hfit.2.2.len
  have hs0 := hfit.2.2.s0
  have hs1 := hfit.2.2.s1
  have hgl := hS gw hgw
  have hgl1 : gw < w.heap.size + 1 := by omega
  have hgl2 : gw < w.heap.size + 1 + 1 := by omega
  unfold lim at hlen hlen2
  have HSS := Lib.hid hS
  have HF := Lib.hid hfit
  have b0 := hbw.cell 0
  have f0 := hbw.frozen 0
  have hw1 : IntKind.i64.wrap ((n : Int) + 1) = ((n + 1 : Nat) : Int) := by rw [IntWalk.i64_in _ (by omega)]; push_cast; rfl
  rcases Nat.lt_or_ge 40000 (n + 1) with hlim | hlim
  · have hgt : (40000 : Int) < ((n + 1 : Nat) : Int) := by omega
    generalize ((n + 1 : Nat) : Int) = n1 at *
    go_enter Tryz.func85, Tryz.ntmps85
    go_wp2_with (go_at_call 103; refine (fail_calls 4 _).mono ?_; rintro e w1 ⟨rfl, rfl⟩)
    exact ⟨rfl, gb_alloc (gb_alloc (gb_alloc (gb_set (gb_refl _ _) 0 _) _) _) _, .inl ⟨4, rfl, .lim (by omega)⟩⟩
  · have hn1e : ∃ z : Int, ((n + 1 : Nat) : Int) = z := ⟨_, rfl⟩
    obtain ⟨n1, hn1⟩ := hn1e
    rw [hn1] at hw1
    have hgt : n1 ≤ 40000 := by omega
    have hsz : (w.setCell ⟨gw, 0, none⟩ (.int .i64 n1)).heap.size = w.heap.size := by simp [World.setCell]
    have hg0 : w.grownBy (w.setCell ⟨gw, 0, none⟩ (.int .i64 n1)) (some gw) := gb_set (gb_refl _ _) 0 _
    have hrel0 : ApRel S n k h a x A c A2 c2 gw w 0 (n + 1) [] (.slice none 0 0) ((((((w.setCell ⟨gw, 0, none⟩ (.int .i64 n1)).alloc (.cells #[.int .i64 k, .int .i64 h, .slice A a.length c] 25)).alloc (.cells #[.slice A2 x.l.length c2, .int .i64 x.s] 108)).alloc (.cells #[.int .i64 0, .int .i64 0, .slice none 0 0] 25)).alloc (.cells #[.int .i64 k, .int .i64 h, .slice none 0 0] 25))) := {
      le := Nat.zero_le _
      grown := gb_alloc (gb_alloc (gb_alloc (gb_alloc hg0 _) _) _) _
      b0 := (((Blk.nw _ _ _ _ hsz.symm).al _).al _).al _
      b1 := ((Blk.nw _ _ _ _ (by simp only [World.size_alloc]; rw [hsz])).al _).al _
      b2 := (Blk.nw _ _ _ _ (by simp only [World.size_alloc]; rw [hsz])).al _
      bw := ((((hn1 ▸ hbw.set 0 (.int .i64 n1) : Blk _ gw #[.int .i64 ((n + 1 : Nat) : Int)] _).al _).al _).al _).al _
      bo := Blk.nw _ _ _ _ (by simp only [World.size_alloc]; rw [hsz])
      mine := Mine.nil _ _ _
      len := rfl
      m0 := Nat.le_refl _
      m1 := hlim
      each := trivial
      size := by simp [cntL]
      ev := fun r hr => by cases r <;> simpa [preR] using hr }
    have HR0 := Lib.hid hrel0
    clear hrel0 hg0 hsz
    go_enter Tryz.func85, Tryz.ntmps85
    go_wp2_with fail
    go_loopw [32] (fun j wr => ∃ (i m : Nat) (us : List Tm) (v : Value), j = .int .i64 i ∧ ApRel S n k h a x A c A2 c2 gw w i m us v wr) (fun j _ => a.length - (intOf j).toNat)
    case atStart => exact ⟨0, _, _, _, rfl, HR0.out⟩
    case round =>
      clear HR0 b0 f0
      obtain ⟨i, m, us, v, rfl, hrel⟩ := hrel
      have HREL := Lib.hid hrel
      have hb0 := hrel.b0
      have hb1 := hrel.b1
      have hbo := hrel.bo
      have q0 := hb0.cell 0
      have q1 := hb0.cell 1
      have q2 := hb0.cell 2
      have p0 := hb1.cell 0
      have p1 := hb1.cell 1
      have l0 := hb0.lt
      have l1 := hb1.lt
      have lo := hbo.lt
      have l0' : w.heap.size < wr.heap.size + 1 := by omega
      have l1' : w.heap.size + 1 < wr.heap.size + 1 := by omega
      have hgr := hrel.grown
      have hmine := hrel.mine
      have hml := hmine.lt
      have hmg := hmine.ge
      by_cases hlt : i < a.length
      · have hS5 : ∀ k, (S4 S w.heap.size k ∨ v.ownBlock = some k) → k < wr.heap.size := by
          rintro k ((q | q) | q)
          · have := HSS.out k q; have := hgr.size; omega
          · omega
          · exact hml k q
        have hT5 : ∀ k, k < w.heap.size → ¬ S k → ¬ (S4 S w.heap.size k ∨ v.ownBlock = some k) := by
          rintro k hk hn ((q | q) | q)
          · exact hn q
          · omega
          · have := hmg k q; omega
        have hU5 : ∀ k, k < w.heap.size → ¬ S k → wr.heap[k]? = w.heap[k]? := fun k hk hn => hgr.block k hk (fun e => hn (by cases e; exact hgw))
        have hr5 : Reads (fun k => S4 S w.heap.size k ∨ v.ownBlock = some k) wr A a := hr.step hT5 hU5
        have hr6 : Reads (fun k => S4 S w.heap.size k ∨ v.ownBlock = some k) wr A2 x.l := hr2.step hT5 hU5
        obtain ⟨ad, B, d, rfl, -, c0, c1, c2', hd, hsub⟩ := hr5.at hlt
        have hfa : Fit (.app m a[i] (if (isB k && (a.drop (i + 1)).isEmpty) = true then underS x else x)) := by
          have h1 := HF.out.args hlim (b := isB k)
          have h2 : Fit (.apps (isB k) m (a.drop i) x) := ⟨hrel.m1, hBL_iff.2 (fun t ht => (hBL_iff.1 h1.2.1 t (List.mem_of_mem_drop ht)).mono (bnd_mono hrel.m0)), h1.2.2.less hrel.m0⟩
          rw [List.drop_eq_getElem_cons hlt] at h2
          exact h2.first _
        obtain ⟨y, hy⟩ : ∃ y, (if (isB k && (a.drop (i + 1)).isEmpty) = true then underS x else x) = y := ⟨_, rfl⟩
        rw [hy] at hfa
        have HFA := Lib.hid hfa
        have HS5 := Lib.hid hS5
        have HSUB := Lib.hid hsub
        have HR6 := Lib.hid hr6
        have HU : Hid (∀ W : World, Below wr.heap.size wr W → wr.heap.size + 1 < W.heap.size → Calls Tryz.prog 104 #[.agg #[.slice A2 x.l.length c2, .int .i64 x.s]] W (RetSu (fun k => (S4 S w.heap.size k ∨ v.ownBlock = some k) ∨ k = wr.heap.size + 1) (underS x) W)) :=
          fun W hb hlt => Under_calls _ x.l x.s A2 c2 W (fun k q => q.elim (fun q => Nat.lt_of_lt_of_le (HS5.out k q) hb.size) (fun q => q ▸ hlt)) (HR6.out.step (fun k hk hn q => q.elim hn (fun q => by omega)) (fun k hk _ => hb.block k hk)) hc2 (by omega)
        clear hS5 hT5 hU5 hr5 hr6 hsub hfa hrel hb0 hb1 hbo hgr hmine hml hmg
        have hii : IntKind.i64.wrap ((a.length : Int) - 1) = (a.length : Int) - 1 := IntWalk.i64_in _ (by omega)
        have hem : (a.drop (i + 1)).isEmpty = decide (i + 1 = a.length) := by
          rw [Bool.eq_iff_iff]
          simp
          omega
        have hB1 : Below wr.heap.size wr ((wr.alloc (.cells #[.int .i64 a[i].k, .int .i64 a[i].h, .slice B a[i].a.length d] 25)).alloc (.cells #[.slice A2 x.l.length c2, .int .i64 x.s] 108)) := bl_alloc (bl_alloc (Below.refl _ _) _) _
        have hba : Blk ((wr.alloc (.cells #[.int .i64 a[i].k, .int .i64 a[i].h, .slice B a[i].a.length d] 25)).alloc (.cells #[.slice A2 x.l.length c2, .int .i64 x.s] 108)) wr.heap.size #[.int .i64 a[i].k, .int .i64 a[i].h, .slice B a[i].a.length d] 25 := (Blk.nw _ _ _ _ rfl).al _
        have hbs : Blk ((wr.alloc (.cells #[.int .i64 a[i].k, .int .i64 a[i].h, .slice B a[i].a.length d] 25)).alloc (.cells #[.slice A2 x.l.length c2, .int .i64 x.s] 108)) (wr.heap.size + 1) #[.slice A2 x.l.length c2, .int .i64 x.s] 108 := Blk.nw _ _ _ _ (by simp)
        have HBB := Lib.hid hB1
        have HBA := Lib.hid hba
        have HBS := Lib.hid hbs
        have HY := Lib.hid hy
        rw [hem] at hy
        clear hB1 hba hbs hem
        obtain ⟨tb, htb⟩ : ∃ tb, (isB k && decide (i + 1 = a.length)) = tb := ⟨_, rfl⟩
        rw [htb] at hy
        go_upto_region 9 with fail
        go_cut [53] (fun s53 wx => s53 = .bool tb ∧ wx = ((wr.alloc (.cells #[.int .i64 a[i].k, .int .i64 a[i].h, .slice B a[i].a.length d] 25)).alloc (.cells #[.slice A2 x.l.length c2, .int .i64 x.s] 108)))
        case first =>
          have hti : decide ((i : Int) = (a.length : Int) - 1) = decide (i + 1 = a.length) := by rw [Bool.eq_iff_iff]; simp; omega
          by_cases hk1 : k = 1
          · subst hk1
            go_wp2_with fail
            go_meet
            refine ⟨?_, rfl⟩
            rw [← htb]
            simp [isB]
            omega
          · by_cases hk3 : k = 3
            · subst hk3
              go_wp2_with fail
              go_meet
              refine ⟨?_, rfl⟩
              rw [← htb]
              simp [isB]
              omega
            · go_wp2_with fail
              go_meet
              refine ⟨?_, rfl⟩
              rw [← htb]
              simp [isB, hk1, hk3]
        case rest =>
          obtain ⟨rfl, rfl⟩ := hcut
          cases tb
          · simp only [Bool.false_eq_true, if_false] at hy
            subst hy
            go_upto_region 11 with fail
            have hct : CutA (fun k => S4 S w.heap.size k ∨ v.ownBlock = some k) a[i] B d x wr ((wr.alloc (.cells #[.int .i64 a[i].k, .int .i64 a[i].h, .slice B a[i].a.length d] 25)).alloc (.cells #[.slice A2 x.l.length c2, .int .i64 x.s] 108)) := ⟨HBB.out, HBA.out, A2, c2, HBS.out, hc2, HR6.out.mov HBB.out⟩
            revert hct
            generalize ((wr.alloc (.cells #[.int .i64 a[i].k, .int .i64 a[i].h, .slice B a[i].a.length d] 25)).alloc (.cells #[.slice A2 x.l.length c2, .int .i64 x.s] 108)) = wx
            intro hct
            clear HBB HBA HBS HU HR6
            have hbx := hct.below
            obtain ⟨A3, c3, hbs, hc3, hr3⟩ := hct.out
            have HAP : Hid (∀ W, Below wx.heap.size wx W → Calls Tryz.prog 85 #[.pointer (some ⟨gw, 0, none⟩), .agg #[.int .i64 a[i].k, .int .i64 a[i].h, .slice B a[i].a.length d], .agg #[.slice A3 x.l.length c3, .int .i64 x.s]] W (RetW (fun k => S4 S w.heap.size k ∨ v.ownBlock = some k) gw (.app m a[i] x) W)) :=
              fun W hb => HA m HREL.out.m0 _ a[i] x B d A3 c3 gw W (fun k q => Nat.lt_of_lt_of_le (HS5.out k q) (bl_then hbx hb).size) (.inl (.inl hgw)) ((HREL.out.bw.mov hbx).mov hb) ((HSUB.out.mov hbx).mov hb) hd (hr3.mov hb) hc3 HFA.out
            have hgx : w.grownBy wx (some gw) := gb_then HREL.out.grown hbx
            have hbo := HREL.out.bo.mov hbx
            have x2 := hbo.cell 2
            have y2 := hbo.frozen 2
            have hba := hct.ba
            have z0 := hba.cell 0
            have z1 := hba.cell 1
            have z2 := hba.cell 2
            have s0 := hbs.cell 0
            have s1 := hbs.cell 1
            have hgws := HREL.out.grown.size
            have hmlt := HREL.out.mine.lt
            have HKEEP : Hid (∀ W, w.grownBy W (some gw) → Blk W wr.heap.size #[.int .i64 a[i].k, .int .i64 a[i].h, .slice B a[i].a.length d] 25 → Blk W (wr.heap.size + 1) #[.slice A3 x.l.length c3, .int .i64 x.s] 108 → (w.grownBy W (some gw) ∧ W.cell? ⟨wr.heap.size, 0, none⟩ = some (.int .i64 a[i].k) ∧ W.cell? ⟨wr.heap.size, 1, none⟩ = some (.int .i64 a[i].h) ∧ W.cell? ⟨wr.heap.size, 2, none⟩ = some (.slice B a[i].a.length d) ∧ W.cell? ⟨wr.heap.size + 1, 0, none⟩ = some (.slice A3 x.l.length c3) ∧ W.cell? ⟨wr.heap.size + 1, 1, none⟩ = some (.int .i64 x.s))) :=
              fun W h1 h2 h3 => ⟨h1, h2.cell 0, h2.cell 1, h2.cell 2, h3.cell 0, h3.cell 1⟩
            have HG3 : Hid (∀ W, wx.grownBy W (some gw) → (w.grownBy W (some gw) ∧ W.cell? ⟨wr.heap.size, 0, none⟩ = some (.int .i64 a[i].k) ∧ W.cell? ⟨wr.heap.size, 1, none⟩ = some (.int .i64 a[i].h) ∧ W.cell? ⟨wr.heap.size, 2, none⟩ = some (.slice B a[i].a.length d) ∧ W.cell? ⟨wr.heap.size + 1, 0, none⟩ = some (.slice A3 x.l.length c3) ∧ W.cell? ⟨wr.heap.size + 1, 1, none⟩ = some (.int .i64 x.s)) ∧ Blk W wr.heap.size #[.int .i64 a[i].k, .int .i64 a[i].h, .slice B a[i].a.length d] 25 ∧ Blk W (wr.heap.size + 1) #[.slice A3 x.l.length c3, .int .i64 x.s] 108 ∧ Blk W (w.heap.size + 1 + 1 + 1) #[.int .i64 k, .int .i64 h, v] 25 ∧ Mine w.heap.size (S4 S w.heap.size) W v us) := fun W hg => by
              have k1 := hba.grown hg (fun e => by cases e; omega)
              have k2 := hbs.grown hg (fun e => by cases e; omega)
              exact ⟨HKEEP.out _ (World.grownBy.trans hgx hg) k1 k2, k1, k2, hbo.grown hg (fun e => by cases e; omega), mine_grown (HREL.out.mine.mov hbx) hg (.inl hgw)⟩
            have HNO : Hid (∀ k, S4 S w.heap.size k ∨ wr.heap.size ≤ k → some k ≠ v.ownBlock) := fun k q e => q.elim (fun q => HREL.out.mine.2.1 _ e.symm q) (fun q => by have := hmlt _ e.symm; omega)
            have HGX := Lib.hid hgx
            have HCT := Lib.hid hct
            have HBAX := Lib.hid hba
            have HBSX := Lib.hid hbs
            have hlx2 : wr.heap.size < wx.heap.size := hba.lt
            have hlx3 := hbo.lt
            have hwx := hbx.size
            clear hgx hct hba hbs hbo hr3 hbx hmlt
            go_region_law
              (first
                | (rw [if_pos (by rfl)]; go_simp; go_at_call 85; refine (HAP.out _ (Below.refl _ _).drew).mono ?_; rintro e w3 ⟨hg3, h3⟩; have hg4 := gb_undrew hg3; have hq3 := HG3.out w3 hg4; have hs3 := hq3.1; have HQ3 := Lib.hid hq3; have o2 := hq3.2.2.2.1.cell 2; have lo3 := hq3.2.2.2.1.lt; have lg3 := hg4.size; clear hq3; rcases h3 with ⟨xe, rfl, hev⟩ | ⟨u, m', B3, c4, rfl, hev, hc4, hr4, hbw3⟩; (exact ⟨rfl, hs3.1, .inl ⟨xe, rfl, HREL.out.stop hlt hlim (by rw [HY.out]; exact hev)⟩⟩))
                | (refine step_append_tms rfl (.tmp 57) (.tmp 62) rfl w.heap.size (S4 S w.heap.size) v us [u] (some ⟨w3.heap.size, 0, none⟩) 1 (by rfl) (by rfl) (HQ3.out.2.2.2.2.mov (bl_alloc (Below.refl _ _) _)) (reads_one (Blk.new w3 _ _) (fun q => by have h1 := HS5.out w3.heap.size q; omega) (hr4.mov (bl_alloc (Below.refl _ _) _)) hc4) (fun k q => by have h1 := HS5.out k (.inl q); simp only [World.size_alloc]; omega) (by simp only [World.size_alloc]; omega) (by have h1 := HREL.out.len; simp only [List.length_cons, List.length_nil]; unfold lim; omega) ?_
                   intro v1 w4 hm1 hg1 hat1; clear hat1; obtain ⟨A1, c1, ev1⟩ := hm1.slice; rw [show (us ++ [u]).length = us.length + 1 from by simp] at ev1; subst ev1
                   have hqa := (HQ3.out.2.1.al (.cells #[.int .i64 u.k, .int .i64 u.h, .slice B3 u.a.length c4] 25)).grown hg1 (HNO.out _ (.inr (Nat.le_refl _)))
                   have hqb := (HQ3.out.2.2.1.al (.cells #[.int .i64 u.k, .int .i64 u.h, .slice B3 u.a.length c4] 25)).grown hg1 (HNO.out _ (.inr (Nat.le_succ _)))
                   have hqo := (HQ3.out.2.2.2.1.al (.cells #[.int .i64 u.k, .int .i64 u.h, .slice B3 u.a.length c4] 25)).grown hg1 (HNO.out _ (.inl (.inr ⟨by omega, by omega⟩)))
                   have HQA := Lib.hid hqa
                   have HQB := Lib.hid hqb
                   have r2 := hqo.cell 2
                   have rf := hqo.frozen 2
                   have HQO := Lib.hid hqo
                   have hs4 := HKEEP.out w4 (gb_own (gb_alloc hs3.1 (.cells #[.int .i64 u.k, .int .i64 u.h, .slice B3 u.a.length c4] 25)) hg1 (fun k e => HREL.out.mine.ge k e)) hqa hqb
                   clear hqa hqb hqo))
            all_goals
              go_wp2_with fail
              have hfr := hev.fit HFA.out
              have hx : ∀ (g : Nat) (cs : Array Value) (t : TypeId), (S4 S w.heap.size g ∨ wr.heap.size ≤ g) → g ≠ w.heap.size + 1 + 1 + 1 → g ≠ gw → g < wx.heap.size → Blk wx g cs t → Blk (w4.setCell ⟨w.heap.size + 1 + 1 + 1, 2, none⟩ (.slice A1 (us.length + 1) c1)) g cs t := fun g cs t hn h1 h2 h3 hb =>
                (((hb.grown hg4 (fun e => h2 (by cases e; rfl))).al (.cells #[.int .i64 u.k, .int .i64 u.h, .slice B3 u.a.length c4] 25)).grown hg1 (HNO.out _ hn)).far (p := ⟨w.heap.size + 1 + 1 + 1, 2, none⟩) h1 _
              have hgs := hs4.1.size
              have hdr := HREL.out.each
              refine ⟨⟨i + 1, m', us ++ [u], .slice A1 (us.length + 1) c1, by go_num, ?_⟩, by simp [intOf]; omega⟩
              exact {
                le := hlt
                grown := gb_new hs4.1 (p := ⟨w.heap.size + 1 + 1 + 1, 2, none⟩) (by show w.heap.size ≤ w.heap.size + 1 + 1 + 1; omega) _
                b0 := hx _ _ _ (.inl (.inr ⟨by omega, by omega⟩)) (by omega) (by omega) (by omega) (HREL.out.b0.mov HCT.out.below)
                b1 := hx _ _ _ (.inl (.inr ⟨by omega, by omega⟩)) (by omega) (by omega) (by omega) (HREL.out.b1.mov HCT.out.below)
                b2 := hx _ _ _ (.inl (.inr ⟨by omega, by omega⟩)) (by omega) (by omega) (by omega) (HREL.out.b2.mov HCT.out.below)
                bw := ((hbw3.al (.cells #[.int .i64 u.k, .int .i64 u.h, .slice B3 u.a.length c4] 25)).grown hg1 (HNO.out _ (.inl (.inl hgw)))).far (p := ⟨w.heap.size + 1 + 1 + 1, 2, none⟩) (by show gw ≠ w.heap.size + 1 + 1 + 1; omega) _
                bo := HQO.out.set 2 _
                mine := hm1.set (p := ⟨w.heap.size + 1 + 1 + 1, 2, none⟩) (.inr ⟨by show w.heap.size ≤ w.heap.size + 1 + 1 + 1; omega, by show w.heap.size + 1 + 1 + 1 ≤ w.heap.size + 3; omega⟩) _
                len := by rw [List.length_append, HREL.out.len]; rfl
                m0 := by have := HREL.out.m0; have := hfr.1; omega
                m1 := hfr.2.1
                each := hBL_iff.2 (fun t ht => by
                  rcases List.mem_append.1 ht with ht | ht
                  · exact (hBL_iff.1 hdr t ht).mono (bnd_mono (Nat.le_of_lt hfr.1))
                  · simp at ht; subst ht; exact hfr.2.2.1)
                size := by
                  have h1 := HREL.out.size
                  have h2 := hfr.2.2.2
                  have h3 := hfr.1
                  have h4 := HREL.out.m0
                  rw [cntL_app]
                  simp only [cntL]
                  omega
                ev := HREL.out.next hlt (by rw [HY.out]; exact hev) }
          · simp only [if_true] at hy
            go_upto_region 11 with (go_at_call 104; refine (HU.out _ HBB.out (by simp)).mono ?_; rintro e w1 ⟨hb3, A3, c3, rfl, hc3, hr3⟩; have z := HBS.out.mov hb3; have z0 := z.cell 0; have z1 := z.cell 1; have y0 := z.frozen 0; have y1 := z.frozen 1; have HZ := Lib.hid z; clear z)
            rw [hy] at hc3 hr3
            have hct : CutA (fun k => S4 S w.heap.size k ∨ v.ownBlock = some k) a[i] B d y wr ((w1.setCell ⟨wr.heap.size + 1, 0, none⟩ (.slice A3 y.l.length c3)).setCell ⟨wr.heap.size + 1, 1, none⟩ (.int .i64 y.s)) := ⟨bl_set (bl_set (bl_then HBB.out hb3) (p := ⟨wr.heap.size + 1, 0, none⟩) (Nat.le_succ _) _) (p := ⟨wr.heap.size + 1, 1, none⟩) (Nat.le_succ _) _, ((HBA.out.mov hb3).far (p := ⟨wr.heap.size + 1, 0, none⟩) (by show wr.heap.size ≠ wr.heap.size + 1; omega) _).far (p := ⟨wr.heap.size + 1, 1, none⟩) (by show wr.heap.size ≠ wr.heap.size + 1; omega) _, A3, c3, (HZ.out.set 0 _).set 1 _, hc3, ((hr3.set (p := ⟨wr.heap.size + 1, 0, none⟩) (.inr rfl) _).set (p := ⟨wr.heap.size + 1, 1, none⟩) (.inr rfl) _).less (fun k q => .inl q)⟩
            clear z0 z1 y0 y1 HZ hb3 hc3 hr3 HBB HBA HBS HU HR6
            revert hct
            generalize ((w1.setCell ⟨wr.heap.size + 1, 0, none⟩ (.slice A3 y.l.length c3)).setCell ⟨wr.heap.size + 1, 1, none⟩ (.int .i64 y.s)) = wx
            intro hct
            have hbx := hct.below
            obtain ⟨A3, c3, hbs, hc3, hr3⟩ := hct.out
            have HAP : Hid (∀ W, Below wx.heap.size wx W → Calls Tryz.prog 85 #[.pointer (some ⟨gw, 0, none⟩), .agg #[.int .i64 a[i].k, .int .i64 a[i].h, .slice B a[i].a.length d], .agg #[.slice A3 y.l.length c3, .int .i64 y.s]] W (RetW (fun k => S4 S w.heap.size k ∨ v.ownBlock = some k) gw (.app m a[i] y) W)) :=
              fun W hb => HA m HREL.out.m0 _ a[i] y B d A3 c3 gw W (fun k q => Nat.lt_of_lt_of_le (HS5.out k q) (bl_then hbx hb).size) (.inl (.inl hgw)) ((HREL.out.bw.mov hbx).mov hb) ((HSUB.out.mov hbx).mov hb) hd (hr3.mov hb) hc3 HFA.out
            have hgx : w.grownBy wx (some gw) := gb_then HREL.out.grown hbx
            have hbo := HREL.out.bo.mov hbx
            have x2 := hbo.cell 2
            have y2 := hbo.frozen 2
            have hba := hct.ba
            have z0 := hba.cell 0
            have z1 := hba.cell 1
            have z2 := hba.cell 2
            have s0 := hbs.cell 0
            have s1 := hbs.cell 1
            have hgws := HREL.out.grown.size
            have hmlt := HREL.out.mine.lt
            have HKEEP : Hid (∀ W, w.grownBy W (some gw) → Blk W wr.heap.size #[.int .i64 a[i].k, .int .i64 a[i].h, .slice B a[i].a.length d] 25 → Blk W (wr.heap.size + 1) #[.slice A3 y.l.length c3, .int .i64 y.s] 108 → (w.grownBy W (some gw) ∧ W.cell? ⟨wr.heap.size, 0, none⟩ = some (.int .i64 a[i].k) ∧ W.cell? ⟨wr.heap.size, 1, none⟩ = some (.int .i64 a[i].h) ∧ W.cell? ⟨wr.heap.size, 2, none⟩ = some (.slice B a[i].a.length d) ∧ W.cell? ⟨wr.heap.size + 1, 0, none⟩ = some (.slice A3 y.l.length c3) ∧ W.cell? ⟨wr.heap.size + 1, 1, none⟩ = some (.int .i64 y.s))) :=
              fun W h1 h2 h3 => ⟨h1, h2.cell 0, h2.cell 1, h2.cell 2, h3.cell 0, h3.cell 1⟩
            have HG3 : Hid (∀ W, wx.grownBy W (some gw) → (w.grownBy W (some gw) ∧ W.cell? ⟨wr.heap.size, 0, none⟩ = some (.int .i64 a[i].k) ∧ W.cell? ⟨wr.heap.size, 1, none⟩ = some (.int .i64 a[i].h) ∧ W.cell? ⟨wr.heap.size, 2, none⟩ = some (.slice B a[i].a.length d) ∧ W.cell? ⟨wr.heap.size + 1, 0, none⟩ = some (.slice A3 y.l.length c3) ∧ W.cell? ⟨wr.heap.size + 1, 1, none⟩ = some (.int .i64 y.s)) ∧ Blk W wr.heap.size #[.int .i64 a[i].k, .int .i64 a[i].h, .slice B a[i].a.length d] 25 ∧ Blk W (wr.heap.size + 1) #[.slice A3 y.l.length c3, .int .i64 y.s] 108 ∧ Blk W (w.heap.size + 1 + 1 + 1) #[.int .i64 k, .int .i64 h, v] 25 ∧ Mine w.heap.size (S4 S w.heap.size) W v us) := fun W hg => by
              have k1 := hba.grown hg (fun e => by cases e; omega)
              have k2 := hbs.grown hg (fun e => by cases e; omega)
              exact ⟨HKEEP.out _ (World.grownBy.trans hgx hg) k1 k2, k1, k2, hbo.grown hg (fun e => by cases e; omega), mine_grown (HREL.out.mine.mov hbx) hg (.inl hgw)⟩
            have HNO : Hid (∀ k, S4 S w.heap.size k ∨ wr.heap.size ≤ k → some k ≠ v.ownBlock) := fun k q e => q.elim (fun q => HREL.out.mine.2.1 _ e.symm q) (fun q => by have := hmlt _ e.symm; omega)
            have HGX := Lib.hid hgx
            have HCT := Lib.hid hct
            have HBAX := Lib.hid hba
            have HBSX := Lib.hid hbs
            have hlx2 : wr.heap.size < wx.heap.size := hba.lt
            have hlx3 := hbo.lt
            have hwx := hbx.size
            clear hgx hct hba hbs hbo hr3 hbx hmlt
            go_region_law
              (first
                | (rw [if_pos (by rfl)]; go_simp; go_at_call 85; refine (HAP.out _ (Below.refl _ _).drew).mono ?_; rintro e w3 ⟨hg3, h3⟩; have hg4 := gb_undrew hg3; have hq3 := HG3.out w3 hg4; have hs3 := hq3.1; have HQ3 := Lib.hid hq3; have o2 := hq3.2.2.2.1.cell 2; have lo3 := hq3.2.2.2.1.lt; have lg3 := hg4.size; clear hq3; rcases h3 with ⟨xe, rfl, hev⟩ | ⟨u, m', B3, c4, rfl, hev, hc4, hr4, hbw3⟩; (exact ⟨rfl, hs3.1, .inl ⟨xe, rfl, HREL.out.stop hlt hlim (by rw [HY.out]; exact hev)⟩⟩))
                | (refine step_append_tms rfl (.tmp 57) (.tmp 62) rfl w.heap.size (S4 S w.heap.size) v us [u] (some ⟨w3.heap.size, 0, none⟩) 1 (by rfl) (by rfl) (HQ3.out.2.2.2.2.mov (bl_alloc (Below.refl _ _) _)) (reads_one (Blk.new w3 _ _) (fun q => by have h1 := HS5.out w3.heap.size q; omega) (hr4.mov (bl_alloc (Below.refl _ _) _)) hc4) (fun k q => by have h1 := HS5.out k (.inl q); simp only [World.size_alloc]; omega) (by simp only [World.size_alloc]; omega) (by have h1 := HREL.out.len; simp only [List.length_cons, List.length_nil]; unfold lim; omega) ?_
                   intro v1 w4 hm1 hg1 hat1; clear hat1; obtain ⟨A1, c1, ev1⟩ := hm1.slice; rw [show (us ++ [u]).length = us.length + 1 from by simp] at ev1; subst ev1
                   have hqa := (HQ3.out.2.1.al (.cells #[.int .i64 u.k, .int .i64 u.h, .slice B3 u.a.length c4] 25)).grown hg1 (HNO.out _ (.inr (Nat.le_refl _)))
                   have hqb := (HQ3.out.2.2.1.al (.cells #[.int .i64 u.k, .int .i64 u.h, .slice B3 u.a.length c4] 25)).grown hg1 (HNO.out _ (.inr (Nat.le_succ _)))
                   have hqo := (HQ3.out.2.2.2.1.al (.cells #[.int .i64 u.k, .int .i64 u.h, .slice B3 u.a.length c4] 25)).grown hg1 (HNO.out _ (.inl (.inr ⟨by omega, by omega⟩)))
                   have HQA := Lib.hid hqa
                   have HQB := Lib.hid hqb
                   have r2 := hqo.cell 2
                   have rf := hqo.frozen 2
                   have HQO := Lib.hid hqo
                   have hs4 := HKEEP.out w4 (gb_own (gb_alloc hs3.1 (.cells #[.int .i64 u.k, .int .i64 u.h, .slice B3 u.a.length c4] 25)) hg1 (fun k e => HREL.out.mine.ge k e)) hqa hqb
                   clear hqa hqb hqo))
            all_goals
              go_wp2_with fail
              have hfr := hev.fit HFA.out
              have hx : ∀ (g : Nat) (cs : Array Value) (t : TypeId), (S4 S w.heap.size g ∨ wr.heap.size ≤ g) → g ≠ w.heap.size + 1 + 1 + 1 → g ≠ gw → g < wx.heap.size → Blk wx g cs t → Blk (w4.setCell ⟨w.heap.size + 1 + 1 + 1, 2, none⟩ (.slice A1 (us.length + 1) c1)) g cs t := fun g cs t hn h1 h2 h3 hb =>
                (((hb.grown hg4 (fun e => h2 (by cases e; rfl))).al (.cells #[.int .i64 u.k, .int .i64 u.h, .slice B3 u.a.length c4] 25)).grown hg1 (HNO.out _ hn)).far (p := ⟨w.heap.size + 1 + 1 + 1, 2, none⟩) h1 _
              have hgs := hs4.1.size
              have hdr := HREL.out.each
              refine ⟨⟨i + 1, m', us ++ [u], .slice A1 (us.length + 1) c1, by go_num, ?_⟩, by simp [intOf]; omega⟩
              exact {
                le := hlt
                grown := gb_new hs4.1 (p := ⟨w.heap.size + 1 + 1 + 1, 2, none⟩) (by show w.heap.size ≤ w.heap.size + 1 + 1 + 1; omega) _
                b0 := hx _ _ _ (.inl (.inr ⟨by omega, by omega⟩)) (by omega) (by omega) (by omega) (HREL.out.b0.mov HCT.out.below)
                b1 := hx _ _ _ (.inl (.inr ⟨by omega, by omega⟩)) (by omega) (by omega) (by omega) (HREL.out.b1.mov HCT.out.below)
                b2 := hx _ _ _ (.inl (.inr ⟨by omega, by omega⟩)) (by omega) (by omega) (by omega) (HREL.out.b2.mov HCT.out.below)
                bw := ((hbw3.al (.cells #[.int .i64 u.k, .int .i64 u.h, .slice B3 u.a.length c4] 25)).grown hg1 (HNO.out _ (.inl (.inl hgw)))).far (p := ⟨w.heap.size + 1 + 1 + 1, 2, none⟩) (by show gw ≠ w.heap.size + 1 + 1 + 1; omega) _
                bo := HQO.out.set 2 _
                mine := hm1.set (p := ⟨w.heap.size + 1 + 1 + 1, 2, none⟩) (.inr ⟨by show w.heap.size ≤ w.heap.size + 1 + 1 + 1; omega, by show w.heap.size + 1 + 1 + 1 ≤ w.heap.size + 3; omega⟩) _
                len := by rw [List.length_append, HREL.out.len]; rfl
                m0 := by have := HREL.out.m0; have := hfr.1; omega
                m1 := hfr.2.1
                each := hBL_iff.2 (fun t ht => by
                  rcases List.mem_append.1 ht with ht | ht
                  · exact (hBL_iff.1 hdr t ht).mono (bnd_mono (Nat.le_of_lt hfr.1))
                  · simp at ht; subst ht; exact hfr.2.2.1)
                size := by
                  have h1 := HREL.out.size
                  have h2 := hfr.2.2.2
                  have h3 := hfr.1
                  have h4 := HREL.out.m0
                  rw [cntL_app]
                  simp only [cntL]
                  omega
                ev := HREL.out.next hlt (by rw [HY.out]; exact hev) }
      · obtain rfl : i = a.length := by have := hrel.le; omega
        have hev : Ev (.apps (isB k) (n + 1) a x) (.many us m) := by
          have h1 := hrel.ev (.many [] m)
          rw [List.drop_length] at h1
          simpa [preR] using h1 .nil
        have HEV := Lib.hid hev
        obtain ⟨B, d, rfl, hd2, hrd⟩ := hmine.reads
        have HRD := Lib.hid hrd
        have x0 := hbo.cell 0
        have x1 := hbo.cell 1
        have x2 := hbo.cell 2
        have z := hrel.b2
        have z0 := z.cell 0
        have z1 := z.cell 1
        have z2 := z.cell 2
        have y0 := z.frozen 0
        have y1 := z.frozen 1
        have y2 := z.frozen 2
        have HZ := Lib.hid z
        clear z hrd
        by_cases hk4 : k = 4
        · subst hk4
          have h0 : 0 ≤ h := by
            have h1 := HF.out.2.1
            rw [hB] at h1
            exact mayN_head h1.1
          have hS4 : ∀ q, S4 S w.heap.size q → q < wr.heap.size := by
            rintro q (q1 | q1)
            · have := HSS.out q q1; have := hgr.size; omega
            · omega
          have HS4 := Lib.hid hS4
          have hT5 : ∀ k, k < w.heap.size → ¬ S k → wr.heap[k]? = w.heap[k]? := fun k hk hn => hgr.block k hk (fun e => hn (by cases e; exact hgw))
          have hr6 : Reads (fun _ => False) wr A2 x.l := (hr2.step (S' := S) (fun _ _ q => q) hT5).less (fun _ q => q.elim)
          have HO : Hid (∀ W, Below wr.heap.size wr W → Calls Tryz.prog 106 #[.agg #[.slice A2 x.l.length c2, .int .i64 x.s], .int .i64 h] W (RetU (S4 S w.heap.size) (ofS x h) W)) :=
            fun W hb => of_calls _ x.l x.s A2 c2 h W (fun k q => Nat.lt_of_lt_of_le (HS4.out k q) hb.size) (hr6.mov hb) hc2 h0
          have hfs : Fit (.spi m (ofS x h) us) := HF.out.spine hrel.m0 hrel.m1 hrel.each hrel.size
          have HFS := Lib.hid hfs
          have HSI : Hid (∀ W, Below wr.heap.size wr W → ∀ B1 c1, Reads (S4 S w.heap.size) W B1 (ofS x h).a → (ofS x h).a.length ≤ c1 → Calls Tryz.prog 105 #[.pointer (some ⟨gw, 0, none⟩), .agg #[.int .i64 (ofS x h).k, .int .i64 (ofS x h).h, .slice B1 (ofS x h).a.length c1], .slice B us.length d] W (RetW (S4 S w.heap.size) gw (.spi m (ofS x h) us) W)) :=
            fun W hb B1 c1 h1 h2 => HSP m HREL.out.m0 _ (ofS x h) us B1 c1 B d gw W (fun k q => Nat.lt_of_lt_of_le (HS4.out k q) hb.size) (.inl hgw) (HREL.out.bw.mov hb) h1 h2 (HRD.out.mov hb) hd2 HFS.out
          have HKEEP : Hid (∀ W, w.grownBy W (some gw) → Blk W w.heap.size #[.int .i64 4, .int .i64 h, .slice A a.length c] 25 → Blk W (w.heap.size + 1) #[.slice A2 x.l.length c2, .int .i64 x.s] 108 → Blk W (w.heap.size + 1 + 1 + 1) #[.int .i64 4, .int .i64 h, .slice B us.length d] 25 → (w.grownBy W (some gw) ∧ W.cell? ⟨w.heap.size, 1, none⟩ = some (.int .i64 h) ∧ W.cell? ⟨w.heap.size + 1, 0, none⟩ = some (.slice A2 x.l.length c2) ∧ W.cell? ⟨w.heap.size + 1, 1, none⟩ = some (.int .i64 x.s) ∧ W.cell? ⟨w.heap.size + 1 + 1 + 1, 2, none⟩ = some (.slice B us.length d))) :=
            fun W h1 h2 h3 h4 => ⟨h1, h2.cell 1, h3.cell 0, h3.cell 1, h4.cell 2⟩
          have HGR := Lib.hid hgr
          have HG : Hid (∀ W, wr.grownBy W (some gw) → (w.grownBy W (some gw) ∧ W.cell? ⟨w.heap.size, 1, none⟩ = some (.int .i64 h) ∧ W.cell? ⟨w.heap.size + 1, 0, none⟩ = some (.slice A2 x.l.length c2) ∧ W.cell? ⟨w.heap.size + 1, 1, none⟩ = some (.int .i64 x.s) ∧ W.cell? ⟨w.heap.size + 1 + 1 + 1, 2, none⟩ = some (.slice B us.length d))) := fun W hg => HKEEP.out W (World.grownBy.trans HGR.out hg) (HREL.out.b0.grown hg (fun e => by cases e; omega)) (HREL.out.b1.grown hg (fun e => by cases e; omega)) (HREL.out.bo.grown hg (fun e => by cases e; omega))
          obtain ⟨os, hos⟩ : ∃ os, ofS x h = os := ⟨_, rfl⟩
          rw [hos] at HO HSI
          have HOS := Lib.hid hos
          clear hos
          clear hS4 hT5 hr6 hfs hgr hrel hb0 hb1 hbo hml hmg hev hmine
          go_upto_region 15 with fail
          go_region_held2 (fun W => (w.grownBy W (some gw) ∧ W.cell? ⟨w.heap.size, 1, none⟩ = some (.int .i64 h) ∧ W.cell? ⟨w.heap.size + 1, 0, none⟩ = some (.slice A2 x.l.length c2) ∧ W.cell? ⟨w.heap.size + 1, 1, none⟩ = some (.int .i64 x.s) ∧ W.cell? ⟨w.heap.size + 1 + 1 + 1, 2, none⟩ = some (.slice B us.length d)))
            ((first | exact hs5 | exact hs4 | exact hs3 | exact HG.out _ (gb_drew (gb_refl _ _)) | exact HG.out _ (gb_refl _ _)))
            (first
              | (go_at_call 106; refine (HO.out _ (Below.refl _ _).drew).mono ?_; rintro e w1 ⟨hb1, B1, c1, rfl, hc1, hr1⟩; have hb2 := bl_undrew hb1; have hs3 := HG.out w1 (grown_but (bl_grownBy hb2) _))
              | (go_at_call 105; refine (HSI.out _ hb2 _ _ hr1 hc1).mono ?_; rintro e w2 ⟨hg2, h2⟩; have hg3 := World.grownBy.trans (grown_but (bl_grownBy hb2) (some gw)) hg2; have hs4 := HG.out w2 hg3; have q := HZ.out.grown hg3 (fun e => by cases e; omega); have q0 := q.cell 0; have q1 := q.cell 1; have q2 := q.cell 2; have u0 := q.frozen 0; have u1 := q.frozen 1; have u2 := q.frozen 2; have HQ := Lib.hid q; clear q
                 rcases h2 with ⟨xe, rfl, hev2⟩ | ⟨u, m', B2, c4, rfl, hev2, hc4, hr4, hbw2⟩; (exact ⟨rfl, hs4.1, .inl ⟨xe, rfl, .var hlim HEV.out (by rw [HOS.out]; exact hev2)⟩⟩)
                 have hs5 := HKEEP.out _ (gb_new3 hs4.1 (g := w.heap.size + 1 + 1) (by omega) (.int .i64 u.k) (.int .i64 u.h) (.slice B2 u.a.length c4)) (far3 (HREL.out.b0.grown hg3 (fun e => by cases e; omega)) (by omega) _ _ _) (far3 (HREL.out.b1.grown hg3 (fun e => by cases e; omega)) (by omega) _ _ _) (far3 (HREL.out.bo.grown hg3 (fun e => by cases e; omega)) (by omega) _ _ _)))
          go_wp2_with fail
          exact bodyPost_ret (res_tm1 rfl _ _ _ _ _ _ rfl (HQ.out.set3 _ _ _)) rfl ⟨hs5.1, .inr ⟨u, m', B2, c4, rfl, .var hlim HEV.out (by rw [HOS.out]; exact hev2), hc4, (hr4.set3 (.inr ⟨by omega, by omega⟩)).less (fun k q => .inl q), far3 hbw2 (by omega) _ _ _⟩⟩
        · have HGR := Lib.hid hgr
          go_wp2_with fail
          exact bodyPost_ret (res_tm1 rfl _ _ _ _ _ _ rfl (HZ.out.set3 _ _ _)) rfl ⟨gb_new3 HGR.out (by omega) _ _ _, .inr ⟨⟨k, h, us⟩, m, B, d, rfl, .node hlim HEV.out hk4, hd2, (HRD.out.set3 (.inr ⟨by omega, by omega⟩)).less (fun k q => .inl q), far3 HREL.out.bw (by omega) _ _ _⟩⟩
end Go.Proofs.YtbmmdfehhhgkcaaGreat
