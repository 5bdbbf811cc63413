/- The contract of subst.Under. The contract of subst.of. Substitution's contracts, told by Ev. -/
import Derived.Test.YtbmmdfehhhgkcaaGreatSB
import Derived.Deep.RegionLaw
import Derived.Test.YtbmmdfehhhgkcaaGreatSS
import Derived.Test.YtbmmdfehhhgkcaaGreatBA
import Derived.Test.YtbmmdfehhhgkcaaGreatGL
import Derived.Test.YtbmmdfehhhgkcaaGreatSC
import Derived.WalkLawsBesides
namespace Go.Proofs.YtbmmdfehhhgkcaaGreat
open Go.RowKit Go.Shelf
set_option linter.unusedVariables false
set_option linter.unusedSimpArgs false

/-- A substitution handed back. -/
def RetSu (S : Nat → Prop) (x : Su) (w : World) (e : Ending) (w' : World) : Prop :=
  Below w.heap.size w w' ∧ ∃ B c, e = .returned (.agg #[.slice B x.l.length c, .int .i64 x.s]) ∧ x.l.length ≤ c ∧ Reads S w' B x.l

def ups (l : List Tm) : List Tm := l.map fun t => upT t 1 0
theorem ups_len (l : List Tm) : (ups l).length = l.length := by simp [ups]
theorem ups_snoc {l : List Tm} {i : Nat} (h : i < l.length) : ups (l.take i) ++ [upT l[i] 1 0] = ups (l.take (i + 1)) := by
  unfold ups; rw [← take_snoc h, List.map_append]; rfl

structure UnRel (S : Nat → Prop) (ts : List Tm) (s : Int) (A : Option Addr) (c : Nat) (w : World) (i : Nat) (wr : World) : Prop where
  le : i ≤ ts.length
  below : Below w.heap.size w wr
  b0 : Blk wr w.heap.size #[.slice A ts.length c, .int .i64 s] 108
  b1 : Blk wr (w.heap.size + 1) #[.slice none 0 0, .int .i64 0] 108
  out : ∃ v, Blk wr (w.heap.size + 1 + 1) #[v, .int .i64 (wrap64 (s + 1))] 108 ∧ Mine w.heap.size (S3 S w.heap.size) wr v (ups (ts.take i))

set_option maxHeartbeats 8000000 in
theorem Under_calls (S : Nat → Prop) (ts : List Tm) (s : Int) (A : Option Addr) (c : Nat) (w : World) (hS : ∀ k, S k → k < w.heap.size) (hr : Reads S w A ts) (hc : ts.length ≤ c) (hll : ts.length < 1048576) :
    Calls Tryz.prog 104 #[.agg #[.slice A ts.length c, .int .i64 s]] w (RetSu S (underS ⟨ts, s⟩) w) := by
  have hlen := hr.len
  unfold lim at hlen
  have HSS := Lib.hid hS
  have hb0 : Below w.heap.size w (((w.alloc (.cells #[.slice A ts.length c, .int .i64 s] 108)).alloc (.cells #[.slice none 0 0, .int .i64 0] 108)).alloc (.cells #[.slice none 0 0, .int .i64 (wrap64 (s + 1))] 108)) := bl_alloc (bl_alloc (bl_alloc (Below.refl _ _) _) _) _
  have e0 := ((Blk.new w #[.slice A ts.length c, .int .i64 s] 108).mov (bl_alloc (Below.refl _ _) (.cells #[.slice none 0 0, .int .i64 0] 108))).mov (bl_alloc (Below.refl _ _) (.cells #[.slice none 0 0, .int .i64 (wrap64 (s + 1))] 108))
  have e1 := (Blk.new (w.alloc (.cells #[.slice A ts.length c, .int .i64 s] 108)) #[.slice none 0 0, .int .i64 0] 108).mov (bl_alloc (Below.refl _ _) (.cells #[.slice none 0 0, .int .i64 (wrap64 (s + 1))] 108))
  have e2 := Blk.new ((w.alloc (.cells #[.slice A ts.length c, .int .i64 s] 108)).alloc (.cells #[.slice none 0 0, .int .i64 0] 108)) #[.slice none 0 0, .int .i64 (wrap64 (s + 1))] 108
  simp only [World.size_alloc] at e1 e2
  have hrel0 : UnRel S ts s A c w 0 _ := ⟨Nat.zero_le _, hb0, e0, e1, _, e2, by simpa [ups] using Mine.nil w.heap.size (S3 S w.heap.size) _⟩
  have hrel1 := Lib.hid hrel0
  clear hS hb0 e0 e1 e2 hrel0
  go_enter Tryz.func104, Tryz.ntmps104
  have hws : IntKind.i64.wrap (s + 1) = wrap64 (s + 1) := IntWalk.i64_left _
  go_wp2_with fail
  go_loopw [5, 13] (fun _ j wr => ∃ i : Nat, j = .int .i64 i ∧ UnRel S ts s A c w i wr) (fun _ j _ => ts.length - (intOf j).toNat)
  case atStart => exact ⟨0, rfl, hrel1.out⟩
  case round =>
    clear hrel1
    obtain ⟨i, rfl, hrel⟩ := hrel
    obtain ⟨v, hbk, hmine⟩ := hrel.out
    have hbw := hrel.below
    have hb0 := hrel.b0
    have hb1 := hrel.b1
    by_cases hlt : i < ts.length
    · have hml := hmine.lt
      have hmg := hmine.ge
      have hS' : ∀ k, (S3 S w.heap.size k ∨ v.ownBlock = some k) → k < wr.heap.size := by
        rintro k ((q | q) | q)
        · have := HSS.out k q; have := hbw.size; omega
        · have := hbk.lt; omega
        · exact hml k q
      have hr' : Reads (fun k => S3 S w.heap.size k ∨ v.ownBlock = some k) wr A ts := hr.step (by
        rintro k hk hn ((q | q) | q)
        · exact hn q
        · omega
        · have := hmg k q; omega) (fun k hk _ => hbw.block k hk)
      obtain ⟨ad, B, d, rfl, -, c0, c1, c2, hd, hsub⟩ := hr'.at hlt
      have hnb : v.ownBlock ≠ some (w.heap.size + 1 + 1) := fun e => hmine.2.1 _ e (.inr ⟨by omega, by omega⟩)
      have hnw : v.ownBlock ≠ some wr.heap.size := fun e => Nat.lt_irrefl _ (hml _ e)
      have HU : Hid (∀ W, Below wr.heap.size wr W → Calls Tryz.prog 116 #[.agg #[.int .i64 ts[i].k, .int .i64 ts[i].h, .slice B ts[i].a.length d], .int .i64 1, .int .i64 0] W (RetU (fun k => S3 S w.heap.size k ∨ v.ownBlock = some k) (upT ts[i] 1 0) W)) :=
        fun W hb => Up_calls _ ts[i] B d 1 0 W (fun k q => Nat.lt_of_lt_of_le (hS' k q) hb.size) (hsub.mov hb) hd
      have HMW : Hid (∀ W, Below wr.heap.size wr W → Mine w.heap.size (S3 S w.heap.size) W v (ups (ts.take i))) := fun W hb => hmine.mov hb
      have HL : Hid ((ups (ts.take i)).length = i) := Lib.hid (by rw [ups_len]; simp; omega)
      have HS2 := Lib.hid hS'
      have HMG := Lib.hid hmg
      have HNB := Lib.hid hnb
      have HBK := Lib.hid hbk
      have HB0 := Lib.hid hb0
      have HB1 := Lib.hid hb1
      have HMO := Lib.hid hmine.2.1
      have p0 := hbk.cell 0
      have f0 := hbk.frozen 0
      have hbl := hbk.lt
      have hi0 : Below w.heap.size w (wr.alloc (.cells #[.int .i64 ts[i].k, .int .i64 ts[i].h, .slice B ts[i].a.length d] 25)) := bl_then hbw (bl_alloc (Below.refl _ _) _)
      have hi1 := (hbk.mov (bl_alloc (Below.refl _ _) (.cells #[.int .i64 ts[i].k, .int .i64 ts[i].h, .slice B ts[i].a.length d] 25))).frozen 0
      have HI := Lib.hid hi0
      have HI1 := Lib.hid hi1
      clear hS' hr' hnb hnw hml hmg hrel hi0 hi1 hbk
      go_upto_region 5 with fail
      go_region_law
        (first
          | (rw [if_pos (by rfl)]; go_simp; go_at_call 116; refine (HU.out _ (bl_undrew (bl_alloc (Below.refl _ _) _))).mono ?_; rintro e w3 ⟨hb3, B3, c3, rfl, hc3, hr3⟩; have hb4 := bl_then (bl_alloc (Below.refl wr.heap.size wr) _) (bl_undrew hb3); have q0 := (HBK.out.mov hb4).cell 0; have hl3 := (HBK.out.mov hb4).lt; have hm4 := (HMW.out _ hb4).mov (bl_alloc (Below.refl w3.heap.size w3) (.cells #[.int .i64 (upT ts[i] 1 0).k, .int .i64 (upT ts[i] 1 0).h, .slice B3 (upT ts[i] 1 0).a.length c3] 25)); have hr4 := hr3.mov (bl_alloc (Below.refl w3.heap.size w3) (.cells #[.int .i64 (upT ts[i] 1 0).k, .int .i64 (upT ts[i] 1 0).h, .slice B3 (upT ts[i] 1 0).a.length c3] 25)); have hs3 := (show Below w.heap.size w w3 ∧ w3.frozen? ⟨w.heap.size + 1 + 1, 0, none⟩ = false from ⟨bl_then hbw hb4, (HBK.out.mov hb4).frozen 0⟩); have HY := Lib.hid ((HBK.out.mov hb4).mov (bl_alloc (Below.refl w3.heap.size w3) (.cells #[.int .i64 (upT ts[i] 1 0).k, .int .i64 (upT ts[i] 1 0).h, .slice B3 (upT ts[i] 1 0).a.length c3] 25))))
          | (refine step_append_tms rfl (.tmp 18) (.tmp 21) rfl w.heap.size (S3 S w.heap.size) v (ups (ts.take i)) [upT ts[i] 1 0] (some ⟨w3.heap.size, 0, none⟩) 1 (by rfl) (by rfl) hm4 (reads_one (Blk.new w3 _ _) (fun q => by have h1 := HS2.out w3.heap.size; have h2 := (bl_alloc (Below.refl wr.heap.size wr) (.cells #[.int .i64 ts[i].k, .int .i64 ts[i].h, .slice B ts[i].a.length d] 25)).size; have h3 := hb3.size; have h4 := h1 q; simp only [World.size_drew, World.size_alloc] at h3; omega) hr4 hc3) (fun k q => by have h1 := HS2.out k (.inl q); have h3 := hb3.size; simp only [World.size_drew, World.size_alloc] at h3 ⊢; omega) (by have h1 := hbw.size; have h3 := hb3.size; simp only [World.size_drew, World.size_alloc] at h3 ⊢; omega) (by have h1 := HL.out; simp only [List.length_cons, List.length_nil]; unfold lim; omega) ?_
             intro v1 w4 hm1 hg1 hat1; rw [ups_snoc hlt] at hm1; clear hat1; obtain ⟨A1, c1, rfl⟩ := hm1.slice; have hz := HY.out.grown hg1 HNB.out.symm; have z0 := hz.cell 0; have z1 := hz.frozen 0; have HZ := Lib.hid hz; clear hz; have hs4 := (show Below w.heap.size w w4 ∧ w4.frozen? ⟨w.heap.size + 1 + 1, 0, none⟩ = false from ⟨bl_grown (bl_alloc hs3.1 _) hg1 (fun k e => HMG.out k e), HZ.out.frozen 0⟩)))
      all_goals
        go_wp2_with fail
        have hx : ∀ (g : Nat) (cs : Array Value), g = w.heap.size ∨ g = w.heap.size + 1 → Blk wr g cs 108 → Blk (w4.setCell ⟨w.heap.size + 1 + 1, 0, none⟩ (.slice A1 (ups (ts.take (i + 1))).length c1)) g cs 108 := fun g cs hg hb =>
          (((hb.mov hb4).mov (bl_alloc (Below.refl w3.heap.size w3) _)).grown hg1 (fun e => HMO.out _ e.symm (.inr (by omega)))).far (by show g ≠ w.heap.size + 1 + 1; omega) _
        exact ⟨⟨i + 1, by go_num, hlt, bl_set hs4.1 (p := ⟨w.heap.size + 1 + 1, 0, none⟩) (by show w.heap.size ≤ w.heap.size + 1 + 1; omega) _, hx _ _ (.inl rfl) HB0.out, hx _ _ (.inr rfl) HB1.out, _, HZ.out.set 0 _, hm1.set (p := ⟨w.heap.size + 1 + 1, 0, none⟩) (.inr ⟨by show w.heap.size ≤ w.heap.size + 1 + 1; omega, by show w.heap.size + 1 + 1 ≤ w.heap.size + 2; omega⟩) _⟩, by simp [intOf]; omega⟩
    · obtain rfl : i = ts.length := by have := hrel.le; omega
      rw [List.take_length] at hmine
      have hml := hmine.lt
      have hmg := hmine.ge
      have p0 := hbk.cell 0
      have p1 := hbk.cell 1
      have f0 := hbk.frozen 0
      have f1 := hbk.frozen 1
      have q0 := hb1.cell 0
      have q1 := hb1.cell 1
      have y0 := hb1.frozen 0
      have y1 := hb1.frozen 1
      have HB1 := Lib.hid hb1
      have HBK := Lib.hid hbk
      have hbl := hbk.lt
      clear hrel
      go_wp2_with (at_builtin; refine append_tm rfl _ _ rfl w.heap.size (S3 S w.heap.size) v (ups ts) ⟨4, 0, []⟩ none 0 rfl rfl (by simp) hmine (.nil _) (Nat.le_refl _) ?ss ?bb ?ll ?_
                   case ss => exact fun k q => by (have h1 := hbw.size; have h2 := hbk.lt; rcases q with q | q; (have := HSS.out k q; omega); omega)
                   case bb => exact hbw.size
                   case ll => (rw [ups_len]; unfold lim; omega)
                   intro v1 w1 hm1 hg1
                   obtain ⟨A1, c1, ev1, hd2, hrd⟩ := hm1.reads
                   subst ev1
                   have z := hbk.grown hg1 (fun e => hmine.2.1 _ e.symm (.inr ⟨by omega, by omega⟩))
                   have z0 := z.cell 0
                   have z1 := z.cell 1
                   have g0 := z.frozen 0
                   have g1 := z.frozen 1
                   have HZ := Lib.hid z
                   have x := hb1.grown hg1 (fun e => hmine.2.1 _ e.symm (.inr ⟨by omega, by omega⟩))
                   have x0 := x.cell 0
                   have x1 := x.cell 1
                   have e0 := x.frozen 0
                   have e1 := x.frozen 1
                   have HX := Lib.hid x
                   clear z x)
      have hl4 : (ups ts).length + 1 = (underS ⟨ts, s⟩).l.length := by simp [underS, ups]
      refine bodyPost_ret (res_su rfl _ _ _ _ _ rfl (((HX.out.far (p := ⟨w.heap.size + 1 + 1, 0, none⟩) (by show w.heap.size + 1 ≠ w.heap.size + 1 + 1; omega) _).set 0 _).set 1 _)) rfl ⟨bl_set (bl_set (bl_set (bl_grown hbw hg1 (fun k e => hmg k e)) (p := ⟨w.heap.size + 1 + 1, 0, none⟩) (by show w.heap.size ≤ w.heap.size + 1 + 1; omega) _) (p := ⟨w.heap.size + 1, 0, none⟩) (Nat.le_succ _) _) (p := ⟨w.heap.size + 1, 1, none⟩) (Nat.le_succ _) _, A1, c1, by rw [hl4]; rfl, by rw [← hl4]; simpa using hd2, ?_⟩
      exact (((hrd.set (p := ⟨w.heap.size + 1 + 1, 0, none⟩) (.inr ⟨by show w.heap.size ≤ w.heap.size + 1 + 1; omega, Nat.le_refl _⟩) _).set (p := ⟨w.heap.size + 1, 0, none⟩) (.inr ⟨Nat.le_succ _, by show w.heap.size + 1 ≤ w.heap.size + 2; omega⟩) _).set (p := ⟨w.heap.size + 1, 1, none⟩) (.inr ⟨Nat.le_succ _, by show w.heap.size + 1 ≤ w.heap.size + 2; omega⟩) _).less (fun k q => .inl q)
end Go.Proofs.YtbmmdfehhhgkcaaGreat
namespace Go.Proofs.YtbmmdfehhhgkcaaGreat
open Go.RowKit Go.Shelf
set_option linter.unusedVariables false
set_option linter.unusedSimpArgs false

theorem ofS_in {ts : List Tm} {s i : Int} (h0 : 0 ≤ i) (h : i < (ts.length : Int)) : ofS ⟨ts, s⟩ i = ts[(ts.length - 1 - i.toNat)]'(by omega) := by
  unfold ofS
  dsimp only
  have e : ((ts.length : Int) - 1 - i).toNat = ts.length - 1 - i.toNat := by omega
  rw [if_pos h, e, List.getElem?_eq_getElem (by omega)]
  rfl
theorem ofS_out {ts : List Tm} {s i : Int} (h : ¬ i < (ts.length : Int)) : ofS ⟨ts, s⟩ i = ⟨4, wrap64 (wrap64 (i - (ts.length : Int)) + s), []⟩ := by
  unfold ofS
  dsimp only
  rw [if_neg h]

set_option maxHeartbeats 4000000 in
theorem of_calls (S : Nat → Prop) (ts : List Tm) (s : Int) (A : Option Addr) (c : Nat) (i : Int) (w : World) (hS : ∀ k, S k → k < w.heap.size) (hr : Reads (fun _ => False) w A ts) (hc : ts.length ≤ c) (h0 : 0 ≤ i) :
    Calls Tryz.prog 106 #[.agg #[.slice A ts.length c, .int .i64 s], .int .i64 i] w (RetU S (ofS ⟨ts, s⟩ i) w) := by
  have hlen := hr.len
  unfold lim at hlen
  have hb0 : Below w.heap.size w ((w.alloc (.cells #[.slice A ts.length c, .int .i64 s] 108)).alloc (.cells #[.int .i64 0, .int .i64 0, .slice none 0 0] 25)) := bl_alloc (bl_alloc (Below.refl _ _) _) _
  have e0 := (Blk.new w #[.slice A ts.length c, .int .i64 s] 108).mov (bl_alloc (Below.refl _ _) (.cells #[.int .i64 0, .int .i64 0, .slice none 0 0] 25))
  have e1 := Blk.new (w.alloc (.cells #[.slice A ts.length c, .int .i64 s] 108)) #[.int .i64 0, .int .i64 0, .slice none 0 0] 25
  simp only [World.size_alloc] at e1
  have HB0 := Lib.hid hb0
  have E1 := Lib.hid e1
  have HS := Lib.hid hS
  by_cases hlt : i < (ts.length : Int)
  · rw [ofS_in h0 hlt]
    have hlq : (ts.length - 1 - i.toNat) < ts.length := by omega
    obtain ⟨j, hj⟩ : ∃ j, ts.length - 1 - i.toNat = j := ⟨_, rfl⟩
    have hji : (ts.length : Int) - 1 - i = (j : Int) := by omega
    have hw1 : IntKind.i64.wrap ((ts.length : Int) - 1) = (ts.length : Int) - 1 := IntWalk.i64_in _ (by omega)
    have hw2 : IntKind.i64.wrap ((ts.length : Int) - 1 - i) = (j : Int) := by rw [hji]; exact IntWalk.i64_in _ (by omega)
    have hjl : j < ts.length := by omega
    have hjl2 : (j : Int) < (ts.length : Int) := by omega
    have hj0 : (0 : Int) ≤ (j : Int) := by omega
    simp only [hj]
    obtain ⟨ad, B, d, rfl, -, c0, c1, c2, hd, hsub⟩ := (hr.mov hb0).at hjl
    have HO : Hid (∀ (W : World) (_ : Below w.heap.size w W) (S2 : Nat → Prop) (_ : ∀ k, S2 k → k < W.heap.size) (_ : Reads (fun _ => False) W B ts[j].a), Calls Tryz.prog 27 #[.agg #[.int .i64 ts[j].k, .int .i64 ts[j].h, .slice B ts[j].a.length d]] W (RetU S2 ts[j] W)) :=
      fun W hb S2 h2 h3 => Own_calls ts[j] S2 B d W h2 h3 hd
    have HSUB := Lib.hid hsub
    generalize ts[j] = tj at *
    clear hb0 e0 e1 hS hji hj hsub hd
    go_enter Tryz.func106, Tryz.ntmps106
    go_wp2_with (go_at_call 27
                 refine (HO.out _ HB0.out (fun k => S k ∨ (w.heap.size ≤ k ∧ k ≤ w.heap.size + 1)) ?h1 HSUB.out).mono ?_
                 case h1 => exact fun k q => by (rcases q with q | q; (have := HS.out k q; have := HB0.out.size; omega); (have := E1.out.lt; omega))
                 clear HO
                 rintro e w3 ⟨hb3, B3, c3, rfl, hc3, hr3⟩
                 have z := E1.out.mov hb3
                 have z0 := z.cell 0
                 have z1 := z.cell 1
                 have z2 := z.cell 2
                 have y0 := z.frozen 0
                 have y1 := z.frozen 1
                 have y2 := z.frozen 2
                 have HZ := Lib.hid z
                 clear z)
    exact bodyPost_ret (res_tm1 rfl _ _ _ _ _ _ rfl (HZ.out.set3 _ _ _)) rfl ⟨bl_set3 (bl_then HB0.out hb3) (Nat.le_succ _), B3, c3, rfl, hc3, (hr3.set3 (.inr ⟨Nat.le_succ _, by omega⟩)).less (fun k q => .inl q)⟩
  · rw [ofS_out hlt]
    have hw1 : IntKind.i64.wrap (i - (ts.length : Int)) = wrap64 (i - (ts.length : Int)) := IntWalk.i64_left _
    have hw2 : IntKind.i64.wrap (wrap64 (i - (ts.length : Int)) + s) = wrap64 (wrap64 (i - (ts.length : Int)) + s) := IntWalk.i64_left _
    obtain ⟨z, hz⟩ : ∃ z, wrap64 (wrap64 (i - (ts.length : Int)) + s) = z := ⟨_, rfl⟩
    have HHZ := Lib.hid hz
    clear e0 e1 hS hb0
    go_enter Tryz.func106, Tryz.ntmps106
    go_wp2_with fail
    have e4 := Blk.new (w.alloc (.cells #[.slice A ts.length c, .int .i64 s] 108)) #[.int .i64 4, .int .i64 z, .slice none 0 0] 25
    simp only [World.size_alloc] at e4
    exact bodyPost_ret (res_tm1 rfl _ _ _ _ _ _ rfl e4) rfl ⟨bl_alloc (bl_alloc (Below.refl _ _) _) _, none, 0, rfl, Nat.le_refl _, .nil _⟩
end Go.Proofs.YtbmmdfehhhgkcaaGreat
namespace Go.Proofs.YtbmmdfehhhgkcaaGreat
open Go.RowKit Go.Shelf
set_option linter.unusedVariables false
set_option linter.unusedSimpArgs false

/-- A panic with an error. -/
abbrev panE (x : Int) : Ending := .panicked [{ v := .iface 30 (.int .i64 x), recovered := false }]
theorem fail_calls (x : Int) (w : World) : Calls Tryz.prog 103 #[.int .i64 x] w fun e w' => e = panE x ∧ w' = w := by
  go_enter Tryz.func103, Tryz.ntmps103
  go_wp2
  exact ⟨rfl, rfl, rfl⟩

/-- What comes back: a term, with how many nodes were gone to in block gw; or a panic. -/
def RetW (S : Nat → Prop) (gw : Nat) (c : Cfg) (w : World) (e : Ending) (w' : World) : Prop :=
  w.grownBy w' (some gw) ∧ ((∃ x, e = panE x ∧ Ev c (.err x)) ∨ ∃ u m B d, e = .returned (.agg #[.int .i64 u.k, .int .i64 u.h, .slice B u.a.length d]) ∧ Ev c (.one u m) ∧ u.a.length ≤ d ∧ Reads S w' B u.a ∧ Blk w' gw #[.int .i64 (m : Int)] 141)
/-- The contract of (*work).apply, so many nodes in. -/
def AP (n : Nat) : Prop := ∀ (S : Nat → Prop) (t : Tm) (x : Su) (A : Option Addr) (c : Nat) (A2 : Option Addr) (c2 gw : Nat) (w : World), (∀ k, S k → k < w.heap.size) → S gw → Blk w gw #[.int .i64 (n : Int)] 141 →
  Reads S w A t.a → t.a.length ≤ c → Reads S w A2 x.l → x.l.length ≤ c2 → Fit (.app n t x) →
  Calls Tryz.prog 85 #[.pointer (some ⟨gw, 0, none⟩), .agg #[.int .i64 t.k, .int .i64 t.h, .slice A t.a.length c], .agg #[.slice A2 x.l.length c2, .int .i64 x.s]] w (RetW S gw (.app n t x) w)
/-- The contract of (*work).spine. -/
def SP (n : Nat) : Prop := ∀ (S : Nat → Prop) (t : Tm) (l : List Tm) (A : Option Addr) (c : Nat) (A2 : Option Addr) (c2 gw : Nat) (w : World), (∀ k, S k → k < w.heap.size) → S gw → Blk w gw #[.int .i64 (n : Int)] 141 →
  Reads S w A t.a → t.a.length ≤ c → Reads S w A2 l → l.length ≤ c2 → Fit (.spi n t l) →
  Calls Tryz.prog 105 #[.pointer (some ⟨gw, 0, none⟩), .agg #[.int .i64 t.k, .int .i64 t.h, .slice A t.a.length c], .slice A2 l.length c2] w (RetW S gw (.spi n t l) w)

theorem gb_refl (w : World) (r : Option Nat) : w.grownBy w r := grown_but (bl_grownBy (Below.refl _ _)) r
theorem gb_then {w W W' : World} {r : Option Nat} (h : w.grownBy W r) (hb : Below W.heap.size W W') : w.grownBy W' r := World.grownBy.trans h (grown_but (bl_grownBy hb) r)
theorem gb_alloc {w W : World} {r : Option Nat} (h : w.grownBy W r) (o : Obj) : w.grownBy (W.alloc o) r := gb_then h (bl_alloc (Below.refl _ _) o)
theorem gb_set {w W : World} {g : Nat} (h : w.grownBy W (some g)) (j : Nat) (u : Value) : w.grownBy (W.setCell ⟨g, j, none⟩ u) (some g) :=
  World.grownBy.trans h ⟨rfl, rfl, rfl, by simp [World.setCell], fun k _ hk => Below.heap_setCell W _ u k (fun e => hk (by rw [e]))⟩
theorem gb_new {w W : World} {r : Option Nat} (h : w.grownBy W r) {p : Addr} (hp : w.heap.size ≤ p.block) (u : Value) : w.grownBy (W.setCell p u) r := by
  have hs := h.size
  refine ⟨h.os, h.tape, h.output, by simpa using h.size, fun k hk hr => (Below.heap_setCell W p u k (fun e => ?_)).trans (h.block k hk hr)⟩
  omega

def preR (us : List Tm) : Res → Res
  | .err e => .err e
  | .many l m => .many (us ++ l) m
  | .one t m => .one t m
def S4 (S : Nat → Prop) (g : Nat) : Nat → Prop := fun k => S k ∨ (g ≤ k ∧ k ≤ g + 3)

structure ApRel (S : Nat → Prop) (n : Nat) (k h : Int) (a : List Tm) (x : Su) (A : Option Addr) (c : Nat) (A2 : Option Addr) (c2 gw : Nat) (w : World) (i m : Nat) (us : List Tm) (v : Value) (wr : World) : Prop where
  le : i ≤ a.length
  grown : w.grownBy wr (some gw)
  b0 : Blk wr w.heap.size #[.int .i64 k, .int .i64 h, .slice A a.length c] 25
  b1 : Blk wr (w.heap.size + 1) #[.slice A2 x.l.length c2, .int .i64 x.s] 108
  b2 : Blk wr (w.heap.size + 1 + 1) #[.int .i64 0, .int .i64 0, .slice none 0 0] 25
  bw : Blk wr gw #[.int .i64 (m : Int)] 141
  bo : Blk wr (w.heap.size + 1 + 1 + 1) #[.int .i64 k, .int .i64 h, v] 25
  mine : Mine w.heap.size (S4 S w.heap.size) wr v us
  len : us.length = i
  m0 : n + 1 ≤ m
  m1 : m ≤ 40000
  each : hBL (bnd m) us
  size : cntL us ≤ 4001 * (m - (n + 1))
  ev : ∀ r, Ev (.apps (isB k) m (a.drop i) x) r → Ev (.apps (isB k) (n + 1) a x) (preR us r)

/-- Ahead of the call: the part, and the substitution there. -/
structure CutA (S : Nat → Prop) (t : Tm) (B : Option Addr) (d : Nat) (y : Su) (wr wx : World) : Prop where
  below : Below wr.heap.size wr wx
  ba : Blk wx wr.heap.size #[.int .i64 t.k, .int .i64 t.h, .slice B t.a.length d] 25
  out : ∃ A3 c3, Blk wx (wr.heap.size + 1) #[.slice A3 y.l.length c3, .int .i64 y.s] 108 ∧ y.l.length ≤ c3 ∧ Reads S wx A3 y.l
theorem mine_grown {base : Nat} {S : Nat → Prop} {w w' : World} {v : Value} {ts : List Tm} {g : Nat} (h : Mine base S w v ts) (hg : w.grownBy w' (some g)) (hs : S g) : Mine base S w' v ts :=
  h.step (fun k hk hn => hg.block k hk (fun e => hn (by cases e; exact hs)))
theorem reads_grown {S : Nat → Prop} {w w' : World} {A : Option Addr} {ts : List Tm} {g : Nat} (h : Reads S w A ts) (hg : w.grownBy w' (some g)) (hs : S g) : Reads S w' A ts :=
  h.step (fun _ _ q => q) (fun k hk hn => hg.block k hk (fun e => hn (by cases e; exact hs)))
theorem gb_own {w W W' : World} {r row : Option Nat} (h : w.grownBy W r) (hg : W.grownBy W' row) (hr : ∀ k, row = some k → w.heap.size ≤ k) : w.grownBy W' r :=
  ⟨hg.os.trans h.os, hg.tape.trans h.tape, hg.output.trans h.output, Nat.le_trans h.size hg.size, fun k hk hn => (hg.block k (Nat.lt_of_lt_of_le hk h.size) (fun e => Nat.lt_irrefl _ (Nat.lt_of_lt_of_le hk (hr k e.symm)))).trans (h.block k hk hn)⟩
theorem gb_new3 {w W : World} {r : Option Nat} (h : w.grownBy W r) {g : Nat} (hp : w.heap.size ≤ g) (a b c : Value) : w.grownBy (((W.setCell ⟨g, 0, none⟩ a).setCell ⟨g, 1, none⟩ b).setCell ⟨g, 2, none⟩ c) r :=
  gb_new (gb_new (gb_new h (p := ⟨g, 0, none⟩) hp a) (p := ⟨g, 1, none⟩) hp b) (p := ⟨g, 2, none⟩) hp c
theorem far3 {W : World} {g g' : Nat} {cs : Array Value} {t : TypeId} (h : Blk W g cs t) (hp : g ≠ g') (a b c : Value) : Blk (((W.setCell ⟨g', 0, none⟩ a).setCell ⟨g', 1, none⟩ b).setCell ⟨g', 2, none⟩ c) g cs t :=
  ((h.far (p := ⟨g', 0, none⟩) hp a).far (p := ⟨g', 1, none⟩) hp b).far (p := ⟨g', 2, none⟩) hp c
theorem gb_drew {w W : World} {r : Option Nat} (h : w.grownBy W r) : w.grownBy W.drew r := ⟨h.os, h.tape, h.output, h.size, h.block⟩
theorem gb_undrew {w W : World} {r : Option Nat} (h : w.drew.grownBy W r) : w.grownBy W r := ⟨h.os, h.tape, h.output, h.size, h.block⟩
theorem Ev.apps_one {b : Bool} {n : Nat} {l : List Tm} {x : Su} {t : Tm} {m : Nat} (h : Ev (.apps b n l x) (.one t m)) : False := by cases h
theorem ApRel.next {S : Nat → Prop} {n : Nat} {k h : Int} {a : List Tm} {x : Su} {A : Option Addr} {c : Nat} {A2 : Option Addr} {c2 gw : Nat} {w : World} {i m : Nat} {us : List Tm} {v : Value} {wr : World} (q : ApRel S n k h a x A c A2 c2 gw w i m us v wr) (hlt : i < a.length) {u : Tm} {m' : Nat}
    (he : Ev (.app m a[i] (if (isB k && (a.drop (i + 1)).isEmpty) = true then underS x else x)) (.one u m')) (r : Res) (hr : Ev (.apps (isB k) m' (a.drop (i + 1)) x) r) : Ev (.apps (isB k) (n + 1) a x) (preR (us ++ [u]) r) := by
  have hd := q.ev
  rw [List.drop_eq_getElem_cons hlt] at hd
  cases r with
  | err e => exact hd (.err e) (.consF he hr)
  | one t m2 => exact hr.apps_one.elim
  | many l m2 =>
    have := hd _ (.cons he hr)
    simpa [preR] using this
theorem ApRel.stop {S : Nat → Prop} {n : Nat} {k h : Int} {a : List Tm} {x : Su} {A : Option Addr} {c : Nat} {A2 : Option Addr} {c2 gw : Nat} {w : World} {i m : Nat} {us : List Tm} {v : Value} {wr : World} (q : ApRel S n k h a x A c A2 c2 gw w i m us v wr) (hlt : i < a.length) (hn : n + 1 ≤ 40000) {e : Int}
    (he : Ev (.app m a[i] (if (isB k && (a.drop (i + 1)).isEmpty) = true then underS x else x)) (.err e)) : Ev (.app n ⟨k, h, a⟩ x) (.err e) := by
  have hd := q.ev
  rw [List.drop_eq_getElem_cons hlt] at hd
  exact .argsE hn (hd (.err e) (.consE he))
end Go.Proofs.YtbmmdfehhhgkcaaGreat
