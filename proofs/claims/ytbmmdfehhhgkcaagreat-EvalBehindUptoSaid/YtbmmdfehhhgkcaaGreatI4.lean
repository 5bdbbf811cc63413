/- The contract of amanuensisref06.invert. -/
import Derived.Test.YtbmmdfehhhgkcaaGreatI3
import Derived.Test.YtbmmdfehhhgkcaaGreatF3
import Derived.IntWalk
namespace Go.Proofs.YtbmmdfehhhgkcaaGreat
open Go.RowKit Go.Shelf

/-- What a part's term, or none, has come to, in a variable. -/
structure CutT (S : Nat → Prop) (rv : Option Tm) (wr : World) (bx : Nat) (b : Bool) (wx : World) : Prop where
  below : Below wr.heap.size wr wx
  out : (rv = none ∧ b = false) ∨ ∃ u B c, rv = some u ∧ b = true ∧ Blk wx bx #[.int .i64 u.k, .int .i64 u.h, .slice B u.a.length c] 25 ∧ u.a.length ≤ c ∧ Reads S wx B u.a

/-- The same of what comes back, in one form. -/
def RetX (S : Nat → Prop) (rv : Option Tm) (k h : Int) (B : Option Addr) (n c : Nat) (b : Bool) (w w' : World) : Prop :=
  Below w.heap.size w w' ∧ ((rv = none ∧ b = false) ∨ ∃ u, rv = some u ∧ b = true ∧ k = u.k ∧ h = u.h ∧ n = u.a.length ∧ n ≤ c ∧ Reads S w' B u.a)
theorem RetT.u {S : Nat → Prop} {rv : Option Tm} {w w' : World} {e : Ending} (h : RetT S rv w e w') :
    ∃ k h B n c b, e = .returned (.tuple #[.agg #[.int .i64 k, .int .i64 h, .slice B n c], .bool b]) ∧ RetX S rv k h B n c b w w' := by
  obtain ⟨hb, (⟨h1, h2⟩ | ⟨u, B, c, h1, h2, h3, h4⟩)⟩ := h
  · exact ⟨0, 0, none, 0, 0, false, h2, hb, .inl ⟨h1, rfl⟩⟩
  · exact ⟨u.k, u.h, B, u.a.length, c, true, h2, hb, .inr ⟨u, h1, rfl, rfl, rfl, rfl, h3, h4⟩⟩

set_option maxHeartbeats 8000000 in
theorem invert6_calls (xs : List Int) (A2 : Option Addr) (c2 : Nat) (m : Int) (hm : MayV xs m) (_hc2 : xs.length ≤ c2) (t : Tm) :
    ∀ (S : Nat → Prop) (A : Option Addr) (c : Nat) (n : Int) (w : World), (∀ k, S k → k < w.heap.size) → RdI (fun _ => False) w A2 xs → Reads S w A t.a → t.a.length ≤ c → inI n →
    Calls Tryz.prog 134 #[.agg #[.int .i64 t.k, .int .i64 t.h, .slice A t.a.length c], .slice A2 xs.length c2, .int .i64 m, .int .i64 n] w (RetT S (renW (rnV xs m) t n) w) := by
  induction t using Tm.ind with
  | h t ih =>
  intro S A c n w hS hrx hr hc hn
  obtain ⟨kk, hh, ts⟩ := t
  dsimp only at hr hc ih ⊢
  have hlen := hr.len
  have hll := hlen
  unfold lim at hlen
  have IH := Lib.hid ih
  have HSS := Lib.hid hS
  clear ih hS
  have hb0 : Below w.heap.size w (((w.alloc (.cells #[.int .i64 kk, .int .i64 hh, .slice A ts.length c] 25)).alloc (.cells #[.int .i64 0, .int .i64 0, .slice none 0 0] 25)).alloc (.cells #[.int .i64 kk, .int .i64 hh, .slice none 0 0] 25)) := bl_alloc (bl_alloc (bl_alloc (Below.refl _ _) _) _) _
  have e0 := ((Blk.new w #[.int .i64 kk, .int .i64 hh, .slice A ts.length c] 25).mov (bl_alloc (Below.refl _ _) (.cells #[.int .i64 0, .int .i64 0, .slice none 0 0] 25))).mov (bl_alloc (Below.refl _ _) (.cells #[.int .i64 kk, .int .i64 hh, .slice none 0 0] 25))
  have e1 := (Blk.new (w.alloc (.cells #[.int .i64 kk, .int .i64 hh, .slice A ts.length c] 25)) #[.int .i64 0, .int .i64 0, .slice none 0 0] 25).mov (bl_alloc (Below.refl _ _) (.cells #[.int .i64 kk, .int .i64 hh, .slice none 0 0] 25))
  have e2 := Blk.new ((w.alloc (.cells #[.int .i64 kk, .int .i64 hh, .slice A ts.length c] 25)).alloc (.cells #[.int .i64 0, .int .i64 0, .slice none 0 0] 25)) #[.int .i64 kk, .int .i64 hh, .slice none 0 0] 25
  simp only [World.size_alloc] at e1 e2
  have HB0 := Lib.hid hb0
  have E0 := Lib.hid e0
  have E1 := Lib.hid e1
  have E2 := Lib.hid e2
  clear hb0 e0 e1 e2
  cases h4 : (kk == 4)
  · have hhead : headR (rnV xs m) kk hh n = some hh := if_neg (fun q => by simp [q.1] at h4)
    have HH := Lib.hid hhead
    clear hhead
    go_enter Tryz.func134, Tryz.ntmps134
    go_wp2_with fail
    obtain ⟨h', hh'⟩ : ∃ h', hh = h' := ⟨_, rfl⟩
    have HH2 : Hid (headR (rnV xs m) kk hh n = some h') := Lib.hid (hh' ▸ HH.out)
    have hrel0 : RenRel S (rnV xs m) kk hh h' n A ts c w 0 (((w.alloc (.cells #[.int .i64 kk, .int .i64 hh, .slice A ts.length c] 25)).alloc (.cells #[.int .i64 0, .int .i64 0, .slice none 0 0] 25)).alloc (.cells #[.int .i64 kk, .int .i64 hh, .slice none 0 0] 25)) :=
      ⟨Nat.zero_le _, HB0.out, E0.out, E1.out, .slice none 0 0, [], hh' ▸ E2.out, Mine.nil _ _ _, rfl, by simp⟩
    clear HH
    clear HB0 E0 E1 E2
    have hrel1 := Lib.hid hrel0
    clear hrel0 hh'
    go_loopw [12] (fun v wr => ∃ i : Nat, v = .int .i64 i ∧ RenRel S (rnV xs m) kk hh h' n A ts c w i wr) (fun v _ => ts.length - (intOf v).toNat)
    case atStart => exact ⟨0, rfl, hrel1.out⟩
    case round =>
      clear hrel1
      obtain ⟨i, rfl, hrel⟩ := hrel
      obtain ⟨v, ys, hbo, hmine, hys, hren⟩ := hrel.out
      have hb1 := hrel.b0
      have hb2 := hrel.b1
      have hbw := hrel.below
      have g2 := hb1.cell 2
      by_cases hlt : i < ts.length
      · have hbl := hbo.lt
        have hbl0 := hb1.lt
        have hml := hmine.lt
        have hmg := hmine.ge
        have hS' : ∀ k, (S3 S w.heap.size k ∨ v.ownBlock = some k) → k < wr.heap.size := by
          rintro k ((q | q) | q)
          · have := HSS.out k q; have := hbw.size; omega
          · omega
          · exact hml k q
        have hr' : Reads (fun k => S3 S w.heap.size k ∨ v.ownBlock = some k) wr A ts := hr.step (by
          rintro k hk hn ((q | q) | q)
          · exact hn q
          · omega
          · have := hmg k q; omega) (fun k hk _ => hbw.block k hk)
        obtain ⟨ad, B, d, rfl, -, c0, c1, c2', hd, hsub⟩ := hr'.at hlt
        have HI : Hid (∀ W : World, Below wr.heap.size wr W → Calls Tryz.prog 134 #[.agg #[.int .i64 ts[i].k, .int .i64 ts[i].h, .slice B ts[i].a.length d], .slice A2 xs.length c2, .int .i64 m, .int .i64 (lastN (isB kk) (ts.drop (i + 1)) n)] W
            (RetT (fun k => (S3 S w.heap.size k ∨ v.ownBlock = some k) ∨ (wr.heap.size ≤ k ∧ k < W.heap.size)) (renW (rnV xs m) ts[i] (lastN (isB kk) (ts.drop (i + 1)) n)) W)) :=
          fun W hb => IH.out ts[i] (List.getElem_mem hlt) _ B d _ W (fun k q => q.elim (fun q => Nat.lt_of_lt_of_le (hS' k q) hb.size) (fun q => q.2)) (hrx.mov (bl_then hbw hb)) (hsub.step (fun k hk hn q => q.elim hn (fun q => by omega)) (fun k hk _ => hb.block k hk)) hd (lastN_in hn)
        have HBI : Hid (∀ W : World, Calls Tryz.prog 92 #[.agg #[.int .i64 kk, .int .i64 hh, .slice (some ad) ts.length c], .int .i64 (i : Int)] W fun e w' => e = .returned (.int .i64 (bindsI kk i ts.length)) ∧ Below W.heap.size W w') :=
          fun W => Binds_calls kk hh (some ad) ts.length c i W hll
        have hnn := lastN_binds (kk := kk) hlt hn
        have hw1 : IntKind.i64.wrap (n + bindsI kk i ts.length) = lastN (isB kk) (ts.drop (i + 1)) n := (IntWalk.i64_left _).trans hnn
        have hren2 := hren
        rw [renL_at hlt] at hren2
        have HR2 := Lib.hid hren2
        have HYS := Lib.hid hys
        have HRR := Lib.hid hrel
        have q0 := hb1.cell 0
        have q1 := hb1.cell 1
        have hrvd : ∃ rv, renW (rnV xs m) ts[i] (lastN (isB kk) (ts.drop (i + 1)) n) = rv := ⟨_, rfl⟩
        obtain ⟨rv, hrv⟩ := hrvd
        rw [hrv] at HI HR2
        clear hrv
        generalize lastN (isB kk) (ts.drop (i + 1)) n = nn at *
        generalize bindsI kk i ts.length = bi at *
        have HS3 : Hid (∀ k, S3 S w.heap.size k → k < wr.heap.size) := fun k q => hS' k (.inl q)
        clear hren hren2 hys hrel hml hmg hS' hr'
        have hcells : ∀ W : World, Below wr.heap.size wr W → (Below wr.heap.size wr W ∧ W.cell? ⟨w.heap.size, 0, none⟩ = some (.int .i64 kk) ∧ W.cell? ⟨w.heap.size, 1, none⟩ = some (.int .i64 hh) ∧ W.cell? ⟨w.heap.size, 2, none⟩ = some (.slice (some ad) ts.length c) ∧
          W.cell? (ad.add (i * 3)) = some (.int .i64 ts[i].k) ∧ W.cell? ⟨(ad.add (i * 3)).block, (ad.add (i * 3)).off + 1, none⟩ = some (.int .i64 ts[i].h) ∧ W.cell? ⟨(ad.add (i * 3)).block, (ad.add (i * 3)).off + 2, none⟩ = some (.slice B ts[i].a.length d)) :=
          fun W hb => ⟨hb, cell_mov q0 hb, cell_mov q1 hb, cell_mov g2 hb, cell_mov c0 hb, cell_mov c1 hb, cell_mov c2' hb⟩
        have HCE := Lib.hid hcells
        clear hcells hnn
        have hi0 : (0 : Int) ≤ (i : Int) := by omega
        have hi1 : (i : Int) < (ts.length : Int) := by omega
        go_upto_region 10 with fail
        go_cut [13, 14] (fun s13 s14 wx => ∃ bx b, s13 = .pointer (some ⟨bx, 0, none⟩) ∧ s14 = .bool b ∧ CutT (fun k => S3 S w.heap.size k ∨ v.ownBlock = some k) rv wr bx b wx)
        case first =>
          go_region_held3 (fun W => (Below wr.heap.size wr W ∧ W.cell? ⟨w.heap.size, 0, none⟩ = some (.int .i64 kk) ∧ W.cell? ⟨w.heap.size, 1, none⟩ = some (.int .i64 hh) ∧ W.cell? ⟨w.heap.size, 2, none⟩ = some (.slice (some ad) ts.length c) ∧
              W.cell? (ad.add (i * 3)) = some (.int .i64 ts[i].k) ∧ W.cell? ⟨(ad.add (i * 3)).block, (ad.add (i * 3)).off + 1, none⟩ = some (.int .i64 ts[i].h) ∧ W.cell? ⟨(ad.add (i * 3)).block, (ad.add (i * 3)).off + 2, none⟩ = some (.slice B ts[i].a.length d)))
            ((refine HCE.out _ ?_; first | exact bl_eta (Below.refl _ _) | exact bl_then (‹Below wr.heap.size wr _ ∧ _›).1 hx1 | exact bl_then (‹Below wr.heap.size wr _ ∧ _›).1 hx3 | exact bl_alloc (‹Below wr.heap.size wr _ ∧ _›).1 _ | exact bl_alloc hs3 _ | exact bl_set3 hs3 (by have := hs1.size; simp; omega) | exact bl_set3 (‹Below wr.heap.size wr _ ∧ _›).1 (by omega)))
            (first
              | (go_at_call 92; refine (HBI.out _).mono ?_; rintro e w1 ⟨rfl, hx1⟩; have hs1 := bl_then (‹Below wr.heap.size wr _ ∧ _›).1 hx1; first | (with_reducible have zb := (Blk.new _ _ _).mov hx1) | (with_reducible have zb := (Blk.new _ _ _).mov (bl_undrew hx1)) | skip)
              | (go_at_call 134; refine (HI.out _ (‹Below wr.heap.size wr _ ∧ _›).1).mono ?_; rintro e w3 hret; obtain ⟨k3, h3, B3, n3, c3, b3, rfl, hru⟩ := hret.u; have hx3 := hru.1; have hs3 := bl_then (‹Below wr.heap.size wr _ ∧ _›).1 hx3; (try (with_reducible have zd := (Blk.new _ _ _).mov hx3)); (try (have zd := zb.mov hx3)); (try (have zd0 := zd.cell 0; have zd1 := zd.cell 1; have zd2 := zd.cell 2; have zf0 := zd.frozen 0; have zf1 := zd.frozen 1; have zf2 := zd.frozen 2))))
          · go_wp2_with fail
            go_meet
            refine ⟨_, _, rfl, rfl, bl_alloc hs3 _, ?_⟩
            rcases hru.2 with ⟨h1, h2⟩ | ⟨u, h1, h2, rfl, rfl, rfl, h6, h7⟩
            · exact .inl ⟨h1, h2⟩
            · exact .inr ⟨u, B3, c3, h1, h2, Blk.new _ _ _, h6, (h7.mov (bl_alloc (Below.refl _ _) _)).less (fun k q => .inl q)⟩
          · go_wp2_with fail
            go_meet
            have hlq := hs1.size
            refine ⟨_, _, rfl, rfl, bl_set3 hs3 hlq, ?_⟩
            rcases hru.2 with ⟨h1, h2⟩ | ⟨u, h1, h2, rfl, rfl, rfl, h6, h7⟩
            · exact .inl ⟨h1, h2⟩
            · exact .inr ⟨u, B3, c3, h1, h2, zd.set3 _ _ _, h6, (h7.set3 (.inr ⟨hlq, by simp⟩)).less (fun k q => .inl q)⟩
          · go_wp2_with fail
            go_meet
            have hlq := zb.lt
            refine ⟨_, _, rfl, rfl, bl_set3 hs3 (Nat.le_refl _), ?_⟩
            rcases hru.2 with ⟨h1, h2⟩ | ⟨u, h1, h2, rfl, rfl, rfl, h6, h7⟩
            · exact .inl ⟨h1, h2⟩
            · exact .inr ⟨u, B3, c3, h1, h2, zd.set3 _ _ _, h6, (h7.set3 (.inr ⟨Nat.le_refl _, hlq⟩)).less (fun k q => .inl q)⟩
        case rest =>
          obtain ⟨bx, b, rfl, rfl, hct⟩ := hcut
          have hwx := hct.below
          rcases hct.out with ⟨rfl, rfl⟩ | ⟨u, B3, c3, rfl, rfl, hbb, hc3, hr3⟩
          · have z := hb2.mov hwx
            have z0 := z.cell 0
            have z1 := z.cell 1
            have z2 := z.cell 2
            have y0 := z.frozen 0
            have y1 := z.frozen 1
            have y2 := z.frozen 2
            have HZ := Lib.hid z
            clear z
            go_wp2
            refine bodyPost_ret (res_tm rfl _ _ _ _ _ _ rfl (HZ.out.set3 (.int .i64 0) (.int .i64 0) (.slice none 0 0))) rfl ⟨bl_set3 (bl_then hbw hwx) (Nat.le_succ _), .inl ⟨?_, rfl⟩⟩
            rw [renW, HH2.out, Option.bind_some, HR2.out]
            rfl
          · have x2 := (hbo.mov hwx).cell 2
            have z0 := hbb.cell 0
            have z1 := hbb.cell 1
            have z2 := hbb.cell 2
            go_wp2_with (at_builtin; refine append_tm rfl _ _ rfl w.heap.size (S3 S w.heap.size) v ys u B3 c3 rfl rfl (by simp) (hmine.mov hwx) hr3 hc3 ?ss ?bb ?ll ?_
                         case ss => exact fun k q => Nat.lt_of_lt_of_le (HS3.out k q) hwx.size
                         case bb => exact Nat.le_trans hbw.size hwx.size
                         case ll => (rw [HYS.out]; unfold lim; omega)
                         intro v1 w1 hm1 hg1
                         obtain ⟨A1, c1, rfl⟩ := hm1.slice
                         rw [show (ys ++ [u]).length = ys.length + 1 from by simp] at hm1
                         have o1 := (hbo.mov hwx).grown hg1 (fun e => hmine.2.1 _ e.symm (.inr ⟨by omega, by omega⟩))
                         have o2 := o1.cell 2
                         have of := o1.frozen 2
                         have HO := Lib.hid o1
                         clear o1)
            have hbz := bl_grown (bl_then hbw hwx) hg1 (fun k e => hmine.ge k e)
            refine ⟨⟨i + 1, by go_num, hlt, bl_set hbz (p := ⟨w.heap.size + 1 + 1, 2, none⟩) (by show w.heap.size ≤ w.heap.size + 1 + 1; omega) _, ?_, ?_, _, _, HO.out.set 2 _, hm1.set (p := ⟨w.heap.size + 1 + 1, 2, none⟩) (.inr ⟨by show w.heap.size ≤ w.heap.size + 1 + 1; omega, by show w.heap.size + 1 + 1 ≤ w.heap.size + 2; omega⟩) _, by rw [List.length_append, HYS.out]; rfl, ?_⟩, by simp [intOf]; omega⟩
            · exact ((hb1.mov hwx).grown hg1 (fun e => hmine.2.1 _ e.symm (.inr ⟨by omega, by omega⟩))).far (by show w.heap.size ≠ w.heap.size + 1 + 1; omega) _
            · exact ((hb2.mov hwx).grown hg1 (fun e => hmine.2.1 _ e.symm (.inr ⟨by omega, by omega⟩))).far (by show w.heap.size + 1 ≠ w.heap.size + 1 + 1; omega) _
            · rw [HR2.out]
              simp [Function.comp_def]
      · have hi := hrel.le
        obtain rfl : i = ts.length := by omega
        obtain ⟨A2', c2', rfl, hc2', hrd⟩ := hmine.reads
        have q0 := hbo.cell 0
        have q1 := hbo.cell 1
        have q2 := hbo.cell 2
        have p0 := hb2.cell 0
        have p1 := hb2.cell 1
        have p2 := hb2.cell 2
        have pf0 := hb2.frozen 0
        have pf1 := hb2.frozen 1
        have pf2 := hb2.frozen 2
        have HREN := Lib.hid hren
        have HYS := Lib.hid hys
        clear hren hys hrel
        go_wp2
        have hb3 := hb2.set3 (.int .i64 kk) (.int .i64 h') (.slice A2' ys.length c2')
        refine bodyPost_ret (res_tm rfl _ _ _ _ _ _ rfl hb3) rfl ⟨bl_set3 hbw (Nat.le_succ _), .inr ⟨⟨kk, h', ys⟩, A2', c2', ?_, rfl, hc2', ?_⟩⟩
        · rw [renW, HH2.out, Option.bind_some, HREN.out]
          simp [renL]
        · have hs : ∀ j, S3 S w.heap.size ((⟨w.heap.size + 1, j, none⟩ : Addr).block) := fun j => .inr ⟨by simp, by simp⟩
          obtain ⟨A3, c3, e3, _, h3⟩ := (((hmine.set (hs 0) (.int .i64 kk)).set (hs 1) (.int .i64 h')).set (hs 2) (.slice A2' ys.length c2')).reads
          injection e3 with e3 _ _
          subst e3
          exact h3.less (fun k q => .inl q)
  · cases hge : decide (n ≤ hh)
    · have hhead : headR (rnV xs m) kk hh n = some hh := if_neg (fun q => by have := of_decide_eq_false hge; exact this q.2)
      have HH := Lib.hid hhead
      clear hhead
      go_enter Tryz.func134, Tryz.ntmps134
      go_wp2_with fail
      obtain ⟨h', hh'⟩ : ∃ h', hh = h' := ⟨_, rfl⟩
      have HH2 : Hid (headR (rnV xs m) kk hh n = some h') := Lib.hid (hh' ▸ HH.out)
      have hrel0 : RenRel S (rnV xs m) kk hh h' n A ts c w 0 (((w.alloc (.cells #[.int .i64 kk, .int .i64 hh, .slice A ts.length c] 25)).alloc (.cells #[.int .i64 0, .int .i64 0, .slice none 0 0] 25)).alloc (.cells #[.int .i64 kk, .int .i64 hh, .slice none 0 0] 25)) :=
        ⟨Nat.zero_le _, HB0.out, E0.out, E1.out, .slice none 0 0, [], hh' ▸ E2.out, Mine.nil _ _ _, rfl, by simp⟩
      clear HH
      clear HB0 E0 E1 E2
      have hrel1 := Lib.hid hrel0
      clear hrel0 hh'
      go_loopw [12] (fun v wr => ∃ i : Nat, v = .int .i64 i ∧ RenRel S (rnV xs m) kk hh h' n A ts c w i wr) (fun v _ => ts.length - (intOf v).toNat)
      case atStart => exact ⟨0, rfl, hrel1.out⟩
      case round =>
        clear hrel1
        obtain ⟨i, rfl, hrel⟩ := hrel
        obtain ⟨v, ys, hbo, hmine, hys, hren⟩ := hrel.out
        have hb1 := hrel.b0
        have hb2 := hrel.b1
        have hbw := hrel.below
        have g2 := hb1.cell 2
        by_cases hlt : i < ts.length
        · have hbl := hbo.lt
          have hbl0 := hb1.lt
          have hml := hmine.lt
          have hmg := hmine.ge
          have hS' : ∀ k, (S3 S w.heap.size k ∨ v.ownBlock = some k) → k < wr.heap.size := by
            rintro k ((q | q) | q)
            · have := HSS.out k q; have := hbw.size; omega
            · omega
            · exact hml k q
          have hr' : Reads (fun k => S3 S w.heap.size k ∨ v.ownBlock = some k) wr A ts := hr.step (by
            rintro k hk hn ((q | q) | q)
            · exact hn q
            · omega
            · have := hmg k q; omega) (fun k hk _ => hbw.block k hk)
          obtain ⟨ad, B, d, rfl, -, c0, c1, c2', hd, hsub⟩ := hr'.at hlt
          have HI : Hid (∀ W : World, Below wr.heap.size wr W → Calls Tryz.prog 134 #[.agg #[.int .i64 ts[i].k, .int .i64 ts[i].h, .slice B ts[i].a.length d], .slice A2 xs.length c2, .int .i64 m, .int .i64 (lastN (isB kk) (ts.drop (i + 1)) n)] W
              (RetT (fun k => (S3 S w.heap.size k ∨ v.ownBlock = some k) ∨ (wr.heap.size ≤ k ∧ k < W.heap.size)) (renW (rnV xs m) ts[i] (lastN (isB kk) (ts.drop (i + 1)) n)) W)) :=
            fun W hb => IH.out ts[i] (List.getElem_mem hlt) _ B d _ W (fun k q => q.elim (fun q => Nat.lt_of_lt_of_le (hS' k q) hb.size) (fun q => q.2)) (hrx.mov (bl_then hbw hb)) (hsub.step (fun k hk hn q => q.elim hn (fun q => by omega)) (fun k hk _ => hb.block k hk)) hd (lastN_in hn)
          have HBI : Hid (∀ W : World, Calls Tryz.prog 92 #[.agg #[.int .i64 kk, .int .i64 hh, .slice (some ad) ts.length c], .int .i64 (i : Int)] W fun e w' => e = .returned (.int .i64 (bindsI kk i ts.length)) ∧ Below W.heap.size W w') :=
            fun W => Binds_calls kk hh (some ad) ts.length c i W hll
          have hnn := lastN_binds (kk := kk) hlt hn
          have hw1 : IntKind.i64.wrap (n + bindsI kk i ts.length) = lastN (isB kk) (ts.drop (i + 1)) n := (IntWalk.i64_left _).trans hnn
          have hren2 := hren
          rw [renL_at hlt] at hren2
          have HR2 := Lib.hid hren2
          have HYS := Lib.hid hys
          have HRR := Lib.hid hrel
          have q0 := hb1.cell 0
          have q1 := hb1.cell 1
          have hrvd : ∃ rv, renW (rnV xs m) ts[i] (lastN (isB kk) (ts.drop (i + 1)) n) = rv := ⟨_, rfl⟩
          obtain ⟨rv, hrv⟩ := hrvd
          rw [hrv] at HI HR2
          clear hrv
          generalize lastN (isB kk) (ts.drop (i + 1)) n = nn at *
          generalize bindsI kk i ts.length = bi at *
          have HS3 : Hid (∀ k, S3 S w.heap.size k → k < wr.heap.size) := fun k q => hS' k (.inl q)
          clear hren hren2 hys hrel hml hmg hS' hr'
          have hcells : ∀ W : World, Below wr.heap.size wr W → (Below wr.heap.size wr W ∧ W.cell? ⟨w.heap.size, 0, none⟩ = some (.int .i64 kk) ∧ W.cell? ⟨w.heap.size, 1, none⟩ = some (.int .i64 hh) ∧ W.cell? ⟨w.heap.size, 2, none⟩ = some (.slice (some ad) ts.length c) ∧
            W.cell? (ad.add (i * 3)) = some (.int .i64 ts[i].k) ∧ W.cell? ⟨(ad.add (i * 3)).block, (ad.add (i * 3)).off + 1, none⟩ = some (.int .i64 ts[i].h) ∧ W.cell? ⟨(ad.add (i * 3)).block, (ad.add (i * 3)).off + 2, none⟩ = some (.slice B ts[i].a.length d)) :=
            fun W hb => ⟨hb, cell_mov q0 hb, cell_mov q1 hb, cell_mov g2 hb, cell_mov c0 hb, cell_mov c1 hb, cell_mov c2' hb⟩
          have HCE := Lib.hid hcells
          clear hcells hnn
          have hi0 : (0 : Int) ≤ (i : Int) := by omega
          have hi1 : (i : Int) < (ts.length : Int) := by omega
          go_upto_region 10 with fail
          go_cut [13, 14] (fun s13 s14 wx => ∃ bx b, s13 = .pointer (some ⟨bx, 0, none⟩) ∧ s14 = .bool b ∧ CutT (fun k => S3 S w.heap.size k ∨ v.ownBlock = some k) rv wr bx b wx)
          case first =>
            go_region_held3 (fun W => (Below wr.heap.size wr W ∧ W.cell? ⟨w.heap.size, 0, none⟩ = some (.int .i64 kk) ∧ W.cell? ⟨w.heap.size, 1, none⟩ = some (.int .i64 hh) ∧ W.cell? ⟨w.heap.size, 2, none⟩ = some (.slice (some ad) ts.length c) ∧
                W.cell? (ad.add (i * 3)) = some (.int .i64 ts[i].k) ∧ W.cell? ⟨(ad.add (i * 3)).block, (ad.add (i * 3)).off + 1, none⟩ = some (.int .i64 ts[i].h) ∧ W.cell? ⟨(ad.add (i * 3)).block, (ad.add (i * 3)).off + 2, none⟩ = some (.slice B ts[i].a.length d)))
              ((refine HCE.out _ ?_; first | exact bl_eta (Below.refl _ _) | exact bl_then (‹Below wr.heap.size wr _ ∧ _›).1 hx1 | exact bl_then (‹Below wr.heap.size wr _ ∧ _›).1 hx3 | exact bl_alloc (‹Below wr.heap.size wr _ ∧ _›).1 _ | exact bl_alloc hs3 _ | exact bl_set3 hs3 (by have := hs1.size; simp; omega) | exact bl_set3 (‹Below wr.heap.size wr _ ∧ _›).1 (by omega)))
              (first
                | (go_at_call 92; refine (HBI.out _).mono ?_; rintro e w1 ⟨rfl, hx1⟩; have hs1 := bl_then (‹Below wr.heap.size wr _ ∧ _›).1 hx1; first | (with_reducible have zb := (Blk.new _ _ _).mov hx1) | (with_reducible have zb := (Blk.new _ _ _).mov (bl_undrew hx1)) | skip)
                | (go_at_call 134; refine (HI.out _ (‹Below wr.heap.size wr _ ∧ _›).1).mono ?_; rintro e w3 hret; obtain ⟨k3, h3, B3, n3, c3, b3, rfl, hru⟩ := hret.u; have hx3 := hru.1; have hs3 := bl_then (‹Below wr.heap.size wr _ ∧ _›).1 hx3; (try (with_reducible have zd := (Blk.new _ _ _).mov hx3)); (try (have zd := zb.mov hx3)); (try (have zd0 := zd.cell 0; have zd1 := zd.cell 1; have zd2 := zd.cell 2; have zf0 := zd.frozen 0; have zf1 := zd.frozen 1; have zf2 := zd.frozen 2))))
            · go_wp2_with fail
              go_meet
              refine ⟨_, _, rfl, rfl, bl_alloc hs3 _, ?_⟩
              rcases hru.2 with ⟨h1, h2⟩ | ⟨u, h1, h2, rfl, rfl, rfl, h6, h7⟩
              · exact .inl ⟨h1, h2⟩
              · exact .inr ⟨u, B3, c3, h1, h2, Blk.new _ _ _, h6, (h7.mov (bl_alloc (Below.refl _ _) _)).less (fun k q => .inl q)⟩
            · go_wp2_with fail
              go_meet
              have hlq := hs1.size
              refine ⟨_, _, rfl, rfl, bl_set3 hs3 hlq, ?_⟩
              rcases hru.2 with ⟨h1, h2⟩ | ⟨u, h1, h2, rfl, rfl, rfl, h6, h7⟩
              · exact .inl ⟨h1, h2⟩
              · exact .inr ⟨u, B3, c3, h1, h2, zd.set3 _ _ _, h6, (h7.set3 (.inr ⟨hlq, by simp⟩)).less (fun k q => .inl q)⟩
            · go_wp2_with fail
              go_meet
              have hlq := zb.lt
              refine ⟨_, _, rfl, rfl, bl_set3 hs3 (Nat.le_refl _), ?_⟩
              rcases hru.2 with ⟨h1, h2⟩ | ⟨u, h1, h2, rfl, rfl, rfl, h6, h7⟩
              · exact .inl ⟨h1, h2⟩
              · exact .inr ⟨u, B3, c3, h1, h2, zd.set3 _ _ _, h6, (h7.set3 (.inr ⟨Nat.le_refl _, hlq⟩)).less (fun k q => .inl q)⟩
          case rest =>
            obtain ⟨bx, b, rfl, rfl, hct⟩ := hcut
            have hwx := hct.below
            rcases hct.out with ⟨rfl, rfl⟩ | ⟨u, B3, c3, rfl, rfl, hbb, hc3, hr3⟩
            · have z := hb2.mov hwx
              have z0 := z.cell 0
              have z1 := z.cell 1
              have z2 := z.cell 2
              have y0 := z.frozen 0
              have y1 := z.frozen 1
              have y2 := z.frozen 2
              have HZ := Lib.hid z
              clear z
              go_wp2
              refine bodyPost_ret (res_tm rfl _ _ _ _ _ _ rfl (HZ.out.set3 (.int .i64 0) (.int .i64 0) (.slice none 0 0))) rfl ⟨bl_set3 (bl_then hbw hwx) (Nat.le_succ _), .inl ⟨?_, rfl⟩⟩
              rw [renW, HH2.out, Option.bind_some, HR2.out]
              rfl
            · have x2 := (hbo.mov hwx).cell 2
              have z0 := hbb.cell 0
              have z1 := hbb.cell 1
              have z2 := hbb.cell 2
              go_wp2_with (at_builtin; refine append_tm rfl _ _ rfl w.heap.size (S3 S w.heap.size) v ys u B3 c3 rfl rfl (by simp) (hmine.mov hwx) hr3 hc3 ?ss ?bb ?ll ?_
                           case ss => exact fun k q => Nat.lt_of_lt_of_le (HS3.out k q) hwx.size
                           case bb => exact Nat.le_trans hbw.size hwx.size
                           case ll => (rw [HYS.out]; unfold lim; omega)
                           intro v1 w1 hm1 hg1
                           obtain ⟨A1, c1, rfl⟩ := hm1.slice
                           rw [show (ys ++ [u]).length = ys.length + 1 from by simp] at hm1
                           have o1 := (hbo.mov hwx).grown hg1 (fun e => hmine.2.1 _ e.symm (.inr ⟨by omega, by omega⟩))
                           have o2 := o1.cell 2
                           have of := o1.frozen 2
                           have HO := Lib.hid o1
                           clear o1)
              have hbz := bl_grown (bl_then hbw hwx) hg1 (fun k e => hmine.ge k e)
              refine ⟨⟨i + 1, by go_num, hlt, bl_set hbz (p := ⟨w.heap.size + 1 + 1, 2, none⟩) (by show w.heap.size ≤ w.heap.size + 1 + 1; omega) _, ?_, ?_, _, _, HO.out.set 2 _, hm1.set (p := ⟨w.heap.size + 1 + 1, 2, none⟩) (.inr ⟨by show w.heap.size ≤ w.heap.size + 1 + 1; omega, by show w.heap.size + 1 + 1 ≤ w.heap.size + 2; omega⟩) _, by rw [List.length_append, HYS.out]; rfl, ?_⟩, by simp [intOf]; omega⟩
              · exact ((hb1.mov hwx).grown hg1 (fun e => hmine.2.1 _ e.symm (.inr ⟨by omega, by omega⟩))).far (by show w.heap.size ≠ w.heap.size + 1 + 1; omega) _
              · exact ((hb2.mov hwx).grown hg1 (fun e => hmine.2.1 _ e.symm (.inr ⟨by omega, by omega⟩))).far (by show w.heap.size + 1 ≠ w.heap.size + 1 + 1; omega) _
              · rw [HR2.out]
                simp [Function.comp_def]
        · have hi := hrel.le
          obtain rfl : i = ts.length := by omega
          obtain ⟨A2', c2', rfl, hc2', hrd⟩ := hmine.reads
          have q0 := hbo.cell 0
          have q1 := hbo.cell 1
          have q2 := hbo.cell 2
          have p0 := hb2.cell 0
          have p1 := hb2.cell 1
          have p2 := hb2.cell 2
          have pf0 := hb2.frozen 0
          have pf1 := hb2.frozen 1
          have pf2 := hb2.frozen 2
          have HREN := Lib.hid hren
          have HYS := Lib.hid hys
          clear hren hys hrel
          go_wp2
          have hb3 := hb2.set3 (.int .i64 kk) (.int .i64 h') (.slice A2' ys.length c2')
          refine bodyPost_ret (res_tm rfl _ _ _ _ _ _ rfl hb3) rfl ⟨bl_set3 hbw (Nat.le_succ _), .inr ⟨⟨kk, h', ys⟩, A2', c2', ?_, rfl, hc2', ?_⟩⟩
          · rw [renW, HH2.out, Option.bind_some, HREN.out]
            simp [renL]
          · have hs : ∀ j, S3 S w.heap.size ((⟨w.heap.size + 1, j, none⟩ : Addr).block) := fun j => .inr ⟨by simp, by simp⟩
            obtain ⟨A3, c3, e3, _, h3⟩ := (((hmine.set (hs 0) (.int .i64 kk)).set (hs 1) (.int .i64 h')).set (hs 2) (.slice A2' ys.length c2')).reads
            injection e3 with e3 _ _
            subst e3
            exact h3.less (fun k q => .inl q)
    · have hhead : headR (rnV xs m) kk hh n = (rnV xs m (wrap64 (hh - n))).map fun i => wrap64 (i + n) := if_pos ⟨beq_iff_eq.1 h4, of_decide_eq_true hge⟩
      have HH := Lib.hid hhead
      have hcall := goes_calls xs A2 c2 m (wrap64 (hh - n)) _ (hrx.mov HB0.out)
      have hx : (rnV xs m (wrap64 (hh - n)) = none ∧ (rnV xs m (wrap64 (hh - n))).getD (-1) = -1) ∨ (∃ j, rnV xs m (wrap64 (hh - n)) = some j ∧ (rnV xs m (wrap64 (hh - n))).getD (-1) = j ∧ 0 ≤ j) := by
        cases hv : rnV xs m (wrap64 (hh - n)) with
        | none => exact .inl ⟨rfl, rfl⟩
        | some j => exact .inr ⟨j, rfl, rfl, rnV_nonneg hm (inI_wrap _).2 hv⟩
      rcases hx with ⟨hj, hg⟩ | ⟨j, hj, hg, hj0⟩
      · rw [hg] at hcall
        have HC := Lib.hid hcall
        have HJ := Lib.hid hj
        clear hhead hcall hg hj
        go_enter Tryz.func134, Tryz.ntmps134
        go_wp2_with (go_at_call 141; refine HC.out.mono ?_; clear HC; rintro e w1 ⟨rfl, hb⟩; have z := E1.out.mov hb; have z0 := z.cell 0; have z1 := z.cell 1; have z2 := z.cell 2; have y0 := z.frozen 0; have y1 := z.frozen 1; have y2 := z.frozen 2; have HZ := Lib.hid z; have HBB := Lib.hid (bl_then HB0.out hb); clear z hb)
        refine bodyPost_ret (res_tm rfl _ _ _ _ _ _ rfl (HZ.out.set3 (.int .i64 0) (.int .i64 0) (.slice none 0 0))) rfl ⟨bl_set3 HBB.out (Nat.le_succ _), .inl ⟨?_, rfl⟩⟩
        rw [renW, HH.out, HJ.out]
        rfl
      · rw [hg] at hcall
        have HC := Lib.hid hcall
        have HJ := Lib.hid hj
        clear hhead hcall hg hj
        go_enter Tryz.func134, Tryz.ntmps134
        go_wp2_with (go_at_call 141; refine HC.out.mono ?_; clear HC; rintro e w1 ⟨rfl, hb⟩; have o := E2.out.mov hb; have o1 := o.cell 1; have of := o.frozen 1; have HZ := Lib.hid (E1.out.mov hb); have HO := Lib.hid o; have HBB := Lib.hid (bl_then HB0.out hb); have E0' := Lib.hid (E0.out.mov hb); clear o hb)
        clear o1 of
        obtain ⟨h', hh'⟩ : ∃ h', wrap64 (j + n) = h' := ⟨_, rfl⟩
        have HH2 : Hid (headR (rnV xs m) kk hh n = some h') := Lib.hid (by rw [HH.out, HJ.out]; exact congrArg some hh')
        have hrel0 : RenRel S (rnV xs m) kk hh h' n A ts c w 0 (w1.setCell ⟨w.heap.size + 1 + 1, 1, none⟩ (.int .i64 (wrap64 (j + n)))) :=
          ⟨Nat.zero_le _, bl_set HBB.out (p := ⟨w.heap.size + 1 + 1, 1, none⟩) (by show w.heap.size ≤ w.heap.size + 1 + 1; omega) _, E0'.out.far (by show w.heap.size ≠ w.heap.size + 1 + 1; omega) _, HZ.out.far (by show w.heap.size + 1 ≠ w.heap.size + 1 + 1; omega) _,
            .slice none 0 0, [], hh' ▸ HO.out.set 1 _, Mine.nil _ _ _, rfl, by simp⟩
        clear HZ HO E0' HBB HJ HH
        clear HB0 E0 E1 E2
        have hrel1 := Lib.hid hrel0
        clear hrel0 hh'
        go_loopw [12] (fun v wr => ∃ i : Nat, v = .int .i64 i ∧ RenRel S (rnV xs m) kk hh h' n A ts c w i wr) (fun v _ => ts.length - (intOf v).toNat)
        case atStart => exact ⟨0, rfl, hrel1.out⟩
        case round =>
          clear hrel1
          obtain ⟨i, rfl, hrel⟩ := hrel
          obtain ⟨v, ys, hbo, hmine, hys, hren⟩ := hrel.out
          have hb1 := hrel.b0
          have hb2 := hrel.b1
          have hbw := hrel.below
          have g2 := hb1.cell 2
          by_cases hlt : i < ts.length
          · have hbl := hbo.lt
            have hbl0 := hb1.lt
            have hml := hmine.lt
            have hmg := hmine.ge
            have hS' : ∀ k, (S3 S w.heap.size k ∨ v.ownBlock = some k) → k < wr.heap.size := by
              rintro k ((q | q) | q)
              · have := HSS.out k q; have := hbw.size; omega
              · omega
              · exact hml k q
            have hr' : Reads (fun k => S3 S w.heap.size k ∨ v.ownBlock = some k) wr A ts := hr.step (by
              rintro k hk hn ((q | q) | q)
              · exact hn q
              · omega
              · have := hmg k q; omega) (fun k hk _ => hbw.block k hk)
            obtain ⟨ad, B, d, rfl, -, c0, c1, c2', hd, hsub⟩ := hr'.at hlt
            have HI : Hid (∀ W : World, Below wr.heap.size wr W → Calls Tryz.prog 134 #[.agg #[.int .i64 ts[i].k, .int .i64 ts[i].h, .slice B ts[i].a.length d], .slice A2 xs.length c2, .int .i64 m, .int .i64 (lastN (isB kk) (ts.drop (i + 1)) n)] W
                (RetT (fun k => (S3 S w.heap.size k ∨ v.ownBlock = some k) ∨ (wr.heap.size ≤ k ∧ k < W.heap.size)) (renW (rnV xs m) ts[i] (lastN (isB kk) (ts.drop (i + 1)) n)) W)) :=
              fun W hb => IH.out ts[i] (List.getElem_mem hlt) _ B d _ W (fun k q => q.elim (fun q => Nat.lt_of_lt_of_le (hS' k q) hb.size) (fun q => q.2)) (hrx.mov (bl_then hbw hb)) (hsub.step (fun k hk hn q => q.elim hn (fun q => by omega)) (fun k hk _ => hb.block k hk)) hd (lastN_in hn)
            have HBI : Hid (∀ W : World, Calls Tryz.prog 92 #[.agg #[.int .i64 kk, .int .i64 hh, .slice (some ad) ts.length c], .int .i64 (i : Int)] W fun e w' => e = .returned (.int .i64 (bindsI kk i ts.length)) ∧ Below W.heap.size W w') :=
              fun W => Binds_calls kk hh (some ad) ts.length c i W hll
            have hnn := lastN_binds (kk := kk) hlt hn
            have hw1 : IntKind.i64.wrap (n + bindsI kk i ts.length) = lastN (isB kk) (ts.drop (i + 1)) n := (IntWalk.i64_left _).trans hnn
            have hren2 := hren
            rw [renL_at hlt] at hren2
            have HR2 := Lib.hid hren2
            have HYS := Lib.hid hys
            have HRR := Lib.hid hrel
            have q0 := hb1.cell 0
            have q1 := hb1.cell 1
            have hrvd : ∃ rv, renW (rnV xs m) ts[i] (lastN (isB kk) (ts.drop (i + 1)) n) = rv := ⟨_, rfl⟩
            obtain ⟨rv, hrv⟩ := hrvd
            rw [hrv] at HI HR2
            clear hrv
            generalize lastN (isB kk) (ts.drop (i + 1)) n = nn at *
            generalize bindsI kk i ts.length = bi at *
            have HS3 : Hid (∀ k, S3 S w.heap.size k → k < wr.heap.size) := fun k q => hS' k (.inl q)
            clear hren hren2 hys hrel hml hmg hS' hr'
            have hcells : ∀ W : World, Below wr.heap.size wr W → (Below wr.heap.size wr W ∧ W.cell? ⟨w.heap.size, 0, none⟩ = some (.int .i64 kk) ∧ W.cell? ⟨w.heap.size, 1, none⟩ = some (.int .i64 hh) ∧ W.cell? ⟨w.heap.size, 2, none⟩ = some (.slice (some ad) ts.length c) ∧
              W.cell? (ad.add (i * 3)) = some (.int .i64 ts[i].k) ∧ W.cell? ⟨(ad.add (i * 3)).block, (ad.add (i * 3)).off + 1, none⟩ = some (.int .i64 ts[i].h) ∧ W.cell? ⟨(ad.add (i * 3)).block, (ad.add (i * 3)).off + 2, none⟩ = some (.slice B ts[i].a.length d)) :=
              fun W hb => ⟨hb, cell_mov q0 hb, cell_mov q1 hb, cell_mov g2 hb, cell_mov c0 hb, cell_mov c1 hb, cell_mov c2' hb⟩
            have HCE := Lib.hid hcells
            clear hcells hnn
            have hi0 : (0 : Int) ≤ (i : Int) := by omega
            have hi1 : (i : Int) < (ts.length : Int) := by omega
            go_upto_region 10 with fail
            go_cut [13, 14] (fun s13 s14 wx => ∃ bx b, s13 = .pointer (some ⟨bx, 0, none⟩) ∧ s14 = .bool b ∧ CutT (fun k => S3 S w.heap.size k ∨ v.ownBlock = some k) rv wr bx b wx)
            case first =>
              go_region_held3 (fun W => (Below wr.heap.size wr W ∧ W.cell? ⟨w.heap.size, 0, none⟩ = some (.int .i64 kk) ∧ W.cell? ⟨w.heap.size, 1, none⟩ = some (.int .i64 hh) ∧ W.cell? ⟨w.heap.size, 2, none⟩ = some (.slice (some ad) ts.length c) ∧
                  W.cell? (ad.add (i * 3)) = some (.int .i64 ts[i].k) ∧ W.cell? ⟨(ad.add (i * 3)).block, (ad.add (i * 3)).off + 1, none⟩ = some (.int .i64 ts[i].h) ∧ W.cell? ⟨(ad.add (i * 3)).block, (ad.add (i * 3)).off + 2, none⟩ = some (.slice B ts[i].a.length d)))
                ((refine HCE.out _ ?_; first | exact bl_eta (Below.refl _ _) | exact bl_then (‹Below wr.heap.size wr _ ∧ _›).1 hx1 | exact bl_then (‹Below wr.heap.size wr _ ∧ _›).1 hx3 | exact bl_alloc (‹Below wr.heap.size wr _ ∧ _›).1 _ | exact bl_alloc hs3 _ | exact bl_set3 hs3 (by have := hs1.size; simp; omega) | exact bl_set3 (‹Below wr.heap.size wr _ ∧ _›).1 (by omega)))
                (first
                  | (go_at_call 92; refine (HBI.out _).mono ?_; rintro e w1 ⟨rfl, hx1⟩; have hs1 := bl_then (‹Below wr.heap.size wr _ ∧ _›).1 hx1; first | (with_reducible have zb := (Blk.new _ _ _).mov hx1) | (with_reducible have zb := (Blk.new _ _ _).mov (bl_undrew hx1)) | skip)
                  | (go_at_call 134; refine (HI.out _ (‹Below wr.heap.size wr _ ∧ _›).1).mono ?_; rintro e w3 hret; obtain ⟨k3, h3, B3, n3, c3, b3, rfl, hru⟩ := hret.u; have hx3 := hru.1; have hs3 := bl_then (‹Below wr.heap.size wr _ ∧ _›).1 hx3; (try (with_reducible have zd := (Blk.new _ _ _).mov hx3)); (try (have zd := zb.mov hx3)); (try (have zd0 := zd.cell 0; have zd1 := zd.cell 1; have zd2 := zd.cell 2; have zf0 := zd.frozen 0; have zf1 := zd.frozen 1; have zf2 := zd.frozen 2))))
              · go_wp2_with fail
                go_meet
                refine ⟨_, _, rfl, rfl, bl_alloc hs3 _, ?_⟩
                rcases hru.2 with ⟨h1, h2⟩ | ⟨u, h1, h2, rfl, rfl, rfl, h6, h7⟩
                · exact .inl ⟨h1, h2⟩
                · exact .inr ⟨u, B3, c3, h1, h2, Blk.new _ _ _, h6, (h7.mov (bl_alloc (Below.refl _ _) _)).less (fun k q => .inl q)⟩
              · go_wp2_with fail
                go_meet
                have hlq := hs1.size
                refine ⟨_, _, rfl, rfl, bl_set3 hs3 hlq, ?_⟩
                rcases hru.2 with ⟨h1, h2⟩ | ⟨u, h1, h2, rfl, rfl, rfl, h6, h7⟩
                · exact .inl ⟨h1, h2⟩
                · exact .inr ⟨u, B3, c3, h1, h2, zd.set3 _ _ _, h6, (h7.set3 (.inr ⟨hlq, by simp⟩)).less (fun k q => .inl q)⟩
              · go_wp2_with fail
                go_meet
                have hlq := zb.lt
                refine ⟨_, _, rfl, rfl, bl_set3 hs3 (Nat.le_refl _), ?_⟩
                rcases hru.2 with ⟨h1, h2⟩ | ⟨u, h1, h2, rfl, rfl, rfl, h6, h7⟩
                · exact .inl ⟨h1, h2⟩
                · exact .inr ⟨u, B3, c3, h1, h2, zd.set3 _ _ _, h6, (h7.set3 (.inr ⟨Nat.le_refl _, hlq⟩)).less (fun k q => .inl q)⟩
            case rest =>
              obtain ⟨bx, b, rfl, rfl, hct⟩ := hcut
              have hwx := hct.below
              rcases hct.out with ⟨rfl, rfl⟩ | ⟨u, B3, c3, rfl, rfl, hbb, hc3, hr3⟩
              · have z := hb2.mov hwx
                have z0 := z.cell 0
                have z1 := z.cell 1
                have z2 := z.cell 2
                have y0 := z.frozen 0
                have y1 := z.frozen 1
                have y2 := z.frozen 2
                have HZ := Lib.hid z
                clear z
                go_wp2
                refine bodyPost_ret (res_tm rfl _ _ _ _ _ _ rfl (HZ.out.set3 (.int .i64 0) (.int .i64 0) (.slice none 0 0))) rfl ⟨bl_set3 (bl_then hbw hwx) (Nat.le_succ _), .inl ⟨?_, rfl⟩⟩
                rw [renW, HH2.out, Option.bind_some, HR2.out]
                rfl
              · have x2 := (hbo.mov hwx).cell 2
                have z0 := hbb.cell 0
                have z1 := hbb.cell 1
                have z2 := hbb.cell 2
                go_wp2_with (at_builtin; refine append_tm rfl _ _ rfl w.heap.size (S3 S w.heap.size) v ys u B3 c3 rfl rfl (by simp) (hmine.mov hwx) hr3 hc3 ?ss ?bb ?ll ?_
                             case ss => exact fun k q => Nat.lt_of_lt_of_le (HS3.out k q) hwx.size
                             case bb => exact Nat.le_trans hbw.size hwx.size
                             case ll => (rw [HYS.out]; unfold lim; omega)
                             intro v1 w1 hm1 hg1
                             obtain ⟨A1, c1, rfl⟩ := hm1.slice
                             rw [show (ys ++ [u]).length = ys.length + 1 from by simp] at hm1
                             have o1 := (hbo.mov hwx).grown hg1 (fun e => hmine.2.1 _ e.symm (.inr ⟨by omega, by omega⟩))
                             have o2 := o1.cell 2
                             have of := o1.frozen 2
                             have HO := Lib.hid o1
                             clear o1)
                have hbz := bl_grown (bl_then hbw hwx) hg1 (fun k e => hmine.ge k e)
                refine ⟨⟨i + 1, by go_num, hlt, bl_set hbz (p := ⟨w.heap.size + 1 + 1, 2, none⟩) (by show w.heap.size ≤ w.heap.size + 1 + 1; omega) _, ?_, ?_, _, _, HO.out.set 2 _, hm1.set (p := ⟨w.heap.size + 1 + 1, 2, none⟩) (.inr ⟨by show w.heap.size ≤ w.heap.size + 1 + 1; omega, by show w.heap.size + 1 + 1 ≤ w.heap.size + 2; omega⟩) _, by rw [List.length_append, HYS.out]; rfl, ?_⟩, by simp [intOf]; omega⟩
                · exact ((hb1.mov hwx).grown hg1 (fun e => hmine.2.1 _ e.symm (.inr ⟨by omega, by omega⟩))).far (by show w.heap.size ≠ w.heap.size + 1 + 1; omega) _
                · exact ((hb2.mov hwx).grown hg1 (fun e => hmine.2.1 _ e.symm (.inr ⟨by omega, by omega⟩))).far (by show w.heap.size + 1 ≠ w.heap.size + 1 + 1; omega) _
                · rw [HR2.out]
                  simp [Function.comp_def]
          · have hi := hrel.le
            obtain rfl : i = ts.length := by omega
            obtain ⟨A2', c2', rfl, hc2', hrd⟩ := hmine.reads
            have q0 := hbo.cell 0
            have q1 := hbo.cell 1
            have q2 := hbo.cell 2
            have p0 := hb2.cell 0
            have p1 := hb2.cell 1
            have p2 := hb2.cell 2
            have pf0 := hb2.frozen 0
            have pf1 := hb2.frozen 1
            have pf2 := hb2.frozen 2
            have HREN := Lib.hid hren
            have HYS := Lib.hid hys
            clear hren hys hrel
            go_wp2
            have hb3 := hb2.set3 (.int .i64 kk) (.int .i64 h') (.slice A2' ys.length c2')
            refine bodyPost_ret (res_tm rfl _ _ _ _ _ _ rfl hb3) rfl ⟨bl_set3 hbw (Nat.le_succ _), .inr ⟨⟨kk, h', ys⟩, A2', c2', ?_, rfl, hc2', ?_⟩⟩
            · rw [renW, HH2.out, Option.bind_some, HREN.out]
              simp [renL]
            · have hs : ∀ j, S3 S w.heap.size ((⟨w.heap.size + 1, j, none⟩ : Addr).block) := fun j => .inr ⟨by simp, by simp⟩
              obtain ⟨A3, c3, e3, _, h3⟩ := (((hmine.set (hs 0) (.int .i64 kk)).set (hs 1) (.int .i64 h')).set (hs 2) (.slice A2' ys.length c2')).reads
              injection e3 with e3 _ _
              subst e3
              exact h3.less (fun k q => .inl q)
end Go.Proofs.YtbmmdfehhhgkcaaGreat
