/- The contract of subst.Under. -/
import Derived.Test.YtaliphgdahpagaaSB
import Derived.Deep.RegionLaw
import Derived.Test.YtaliphgdahpagaaSS
import Derived.Test.YtaliphgdahpagaaBA
import Derived.Test.YtaliphgdahpagaaGL
namespace Go.Proofs.Ytaliphgdahpagaa
open Go.RowKit Go.Shelf
set_option linter.unusedVariables false
set_option linter.unusedSimpArgs false

/-- A substitution handed back. -/
def RetSu (S : Nat → Prop) (x : Su) (w : World) (e : Ending) (w' : World) : Prop :=
  Below w.heap.size w w' ∧ ∃ B c, e = .returned (.agg #[.slice B x.l.length c, .int .i64 x.s]) ∧ x.l.length ≤ c ∧ Reads S w' B x.l

def ups (l : List Tm) : List Tm := l.map fun t => upT t 1 0
theorem ups_len (l : List Tm) : (ups l).length = l.length := by simp [ups]
theorem ups_snoc {l : List Tm} {i : Nat} (h : i < l.length) : ups (l.take i) ++ [upT l[i] 1 0] = ups (l.take (i + 1)) := by
  unfold ups; rw [← take_snoc h, List.map_append]; rfl

structure UnRel (S : Nat → Prop) (ts : List Tm) (s : Int) (A : Option Addr) (c : Nat) (w : World) (i : Nat) (wr : World) : Prop where
  le : i ≤ ts.length
  below : Below w.heap.size w wr
  b0 : Blk wr w.heap.size #[.slice A ts.length c, .int .i64 s] 40
  b1 : Blk wr (w.heap.size + 1) #[.slice none 0 0, .int .i64 0] 40
  out : ∃ v, Blk wr (w.heap.size + 1 + 1) #[v, .int .i64 (wrap64 (s + 1))] 40 ∧ Mine w.heap.size (S3 S w.heap.size) wr v (ups (ts.take i))

set_option maxHeartbeats 8000000 in
theorem Under_calls (S : Nat → Prop) (ts : List Tm) (s : Int) (A : Option Addr) (c : Nat) (w : World) (hS : ∀ k, S k → k < w.heap.size) (hr : Reads S w A ts) (hc : ts.length ≤ c) (hll : ts.length < 1048576) :
    Calls Try.prog 50 #[.agg #[.slice A ts.length c, .int .i64 s]] w (RetSu S (underS ⟨ts, s⟩) w) := by
  have hlen := hr.len
  unfold lim at hlen
  have HSS := Lib.hid hS
  have hb0 : Below w.heap.size w (((w.alloc (.cells #[.slice A ts.length c, .int .i64 s] 40)).alloc (.cells #[.slice none 0 0, .int .i64 0] 40)).alloc (.cells #[.slice none 0 0, .int .i64 (wrap64 (s + 1))] 40)) := bl_alloc (bl_alloc (bl_alloc (Below.refl _ _) _) _) _
  have e0 := ((Blk.new w #[.slice A ts.length c, .int .i64 s] 40).mov (bl_alloc (Below.refl _ _) (.cells #[.slice none 0 0, .int .i64 0] 40))).mov (bl_alloc (Below.refl _ _) (.cells #[.slice none 0 0, .int .i64 (wrap64 (s + 1))] 40))
  have e1 := (Blk.new (w.alloc (.cells #[.slice A ts.length c, .int .i64 s] 40)) #[.slice none 0 0, .int .i64 0] 40).mov (bl_alloc (Below.refl _ _) (.cells #[.slice none 0 0, .int .i64 (wrap64 (s + 1))] 40))
  have e2 := Blk.new ((w.alloc (.cells #[.slice A ts.length c, .int .i64 s] 40)).alloc (.cells #[.slice none 0 0, .int .i64 0] 40)) #[.slice none 0 0, .int .i64 (wrap64 (s + 1))] 40
  simp only [World.size_alloc] at e1 e2
  have hrel0 : UnRel S ts s A c w 0 _ := ⟨Nat.zero_le _, hb0, e0, e1, _, e2, by simpa [ups] using Mine.nil w.heap.size (S3 S w.heap.size) _⟩
  have hrel1 := Lib.hid hrel0
  clear hS hb0 e0 e1 e2 hrel0
  go_enter Try.func50, Try.ntmps50
  have hws : IntKind.i64.wrap (s + 1) = wrap64 (s + 1) := IntWalk.i64_left _
  go_wp2_with fail
  go_loopw [5, 13] (fun _ j wr => ∃ i : Nat, j = .int .i64 i ∧ UnRel S ts s A c w i wr) (fun _ j _ => ts.length - (intOf j).toNat)
  case atStart => exact ⟨0, rfl, hrel1.out⟩
  case round =>
    clear hrel1
    obtain ⟨i, rfl, hrel⟩ := hrel
    obtain ⟨v, hbk, hmine⟩ := hrel.out
    have hbw := hrel.below
    have hb0 := hrel.b0
    have hb1 := hrel.b1
    by_cases hlt : i < ts.length
    · have hml := hmine.lt
      have hmg := hmine.ge
      have hS' : ∀ k, (S3 S w.heap.size k ∨ v.ownBlock = some k) → k < wr.heap.size := by
        rintro k ((q | q) | q)
        · have := HSS.out k q; have := hbw.size; omega
        · have := hbk.lt; omega
        · exact hml k q
      have hr' : Reads (fun k => S3 S w.heap.size k ∨ v.ownBlock = some k) wr A ts := hr.step (by
        rintro k hk hn ((q | q) | q)
        · exact hn q
        · omega
        · have := hmg k q; omega) (fun k hk _ => hbw.block k hk)
      obtain ⟨ad, B, d, rfl, -, c0, c1, c2, hd, hsub⟩ := hr'.at hlt
      have hnb : v.ownBlock ≠ some (w.heap.size + 1 + 1) := fun e => hmine.2.1 _ e (.inr ⟨by omega, by omega⟩)
      have hnw : v.ownBlock ≠ some wr.heap.size := fun e => Nat.lt_irrefl _ (hml _ e)
      have HU : Hid (∀ W, Below wr.heap.size wr W → Calls Try.prog 56 #[.agg #[.int .i64 ts[i].k, .int .i64 ts[i].h, .slice B ts[i].a.length d], .int .i64 1, .int .i64 0] W (RetU (fun k => S3 S w.heap.size k ∨ v.ownBlock = some k) (upT ts[i] 1 0) W)) :=
        fun W hb => Up_calls _ ts[i] B d 1 0 W (fun k q => Nat.lt_of_lt_of_le (hS' k q) hb.size) (hsub.mov hb) hd
      have HMW : Hid (∀ W, Below wr.heap.size wr W → Mine w.heap.size (S3 S w.heap.size) W v (ups (ts.take i))) := fun W hb => hmine.mov hb
      have HL : Hid ((ups (ts.take i)).length = i) := Lib.hid (by rw [ups_len]; simp; omega)
      have HS2 := Lib.hid hS'
      have HMG := Lib.hid hmg
      have HNB := Lib.hid hnb
      have HBK := Lib.hid hbk
      have HB0 := Lib.hid hb0
      have HB1 := Lib.hid hb1
      have HMO := Lib.hid hmine.2.1
      have p0 := hbk.cell 0
      have f0 := hbk.frozen 0
      have hbl := hbk.lt
      have hi0 : Below w.heap.size w (wr.alloc (.cells #[.int .i64 ts[i].k, .int .i64 ts[i].h, .slice B ts[i].a.length d] 24)) := bl_then hbw (bl_alloc (Below.refl _ _) _)
      have hi1 := (hbk.mov (bl_alloc (Below.refl _ _) (.cells #[.int .i64 ts[i].k, .int .i64 ts[i].h, .slice B ts[i].a.length d] 24))).frozen 0
      have HI := Lib.hid hi0
      have HI1 := Lib.hid hi1
      clear hS' hr' hnb hnw hml hmg hrel hi0 hi1 hbk
      go_upto_region 5 with fail
      go_region_law
        (first
          | (rw [if_pos (by rfl)]; go_simp; go_at_call 56; refine (HU.out _ (bl_undrew (bl_alloc (Below.refl _ _) _))).mono ?_; rintro e w3 ⟨hb3, B3, c3, rfl, hc3, hr3⟩; have hb4 := bl_then (bl_alloc (Below.refl wr.heap.size wr) _) (bl_undrew hb3); have q0 := (HBK.out.mov hb4).cell 0; have hl3 := (HBK.out.mov hb4).lt; have hm4 := (HMW.out _ hb4).mov (bl_alloc (Below.refl w3.heap.size w3) (.cells #[.int .i64 (upT ts[i] 1 0).k, .int .i64 (upT ts[i] 1 0).h, .slice B3 (upT ts[i] 1 0).a.length c3] 24)); have hr4 := hr3.mov (bl_alloc (Below.refl w3.heap.size w3) (.cells #[.int .i64 (upT ts[i] 1 0).k, .int .i64 (upT ts[i] 1 0).h, .slice B3 (upT ts[i] 1 0).a.length c3] 24)); have hs3 := (show Below w.heap.size w w3 ∧ w3.frozen? ⟨w.heap.size + 1 + 1, 0, none⟩ = false from ⟨bl_then hbw hb4, (HBK.out.mov hb4).frozen 0⟩); have HY := Lib.hid ((HBK.out.mov hb4).mov (bl_alloc (Below.refl w3.heap.size w3) (.cells #[.int .i64 (upT ts[i] 1 0).k, .int .i64 (upT ts[i] 1 0).h, .slice B3 (upT ts[i] 1 0).a.length c3] 24))))
          | (refine step_append_tms rfl (.tmp 18) (.tmp 21) rfl w.heap.size (S3 S w.heap.size) v (ups (ts.take i)) [upT ts[i] 1 0] (some ⟨w3.heap.size, 0, none⟩) 1 (by rfl) (by rfl) hm4 (reads_one (Blk.new w3 _ _) (fun q => by have h1 := HS2.out w3.heap.size; have h2 := (bl_alloc (Below.refl wr.heap.size wr) (.cells #[.int .i64 ts[i].k, .int .i64 ts[i].h, .slice B ts[i].a.length d] 24)).size; have h3 := hb3.size; have h4 := h1 q; simp only [World.size_drew, World.size_alloc] at h3; omega) hr4 hc3) (fun k q => by have h1 := HS2.out k (.inl q); have h3 := hb3.size; simp only [World.size_drew, World.size_alloc] at h3 ⊢; omega) (by have h1 := hbw.size; have h3 := hb3.size; simp only [World.size_drew, World.size_alloc] at h3 ⊢; omega) (by have h1 := HL.out; simp only [List.length_cons, List.length_nil]; unfold lim; omega) ?_
             intro v1 w4 hm1 hg1 hat1; rw [ups_snoc hlt] at hm1; clear hat1; obtain ⟨A1, c1, rfl⟩ := hm1.slice; have hz := HY.out.grown hg1 HNB.out.symm; have z0 := hz.cell 0; have z1 := hz.frozen 0; have HZ := Lib.hid hz; clear hz; have hs4 := (show Below w.heap.size w w4 ∧ w4.frozen? ⟨w.heap.size + 1 + 1, 0, none⟩ = false from ⟨bl_grown (bl_alloc hs3.1 _) hg1 (fun k e => HMG.out k e), HZ.out.frozen 0⟩)))
      all_goals
        go_wp2_with fail
        have hx : ∀ (g : Nat) (cs : Array Value), g = w.heap.size ∨ g = w.heap.size + 1 → Blk wr g cs 40 → Blk (w4.setCell ⟨w.heap.size + 1 + 1, 0, none⟩ (.slice A1 (ups (ts.take (i + 1))).length c1)) g cs 40 := fun g cs hg hb =>
          (((hb.mov hb4).mov (bl_alloc (Below.refl w3.heap.size w3) _)).grown hg1 (fun e => HMO.out _ e.symm (.inr (by omega)))).far (by show g ≠ w.heap.size + 1 + 1; omega) _
        exact ⟨⟨i + 1, by go_num, hlt, bl_set hs4.1 (p := ⟨w.heap.size + 1 + 1, 0, none⟩) (by show w.heap.size ≤ w.heap.size + 1 + 1; omega) _, hx _ _ (.inl rfl) HB0.out, hx _ _ (.inr rfl) HB1.out, _, HZ.out.set 0 _, hm1.set (p := ⟨w.heap.size + 1 + 1, 0, none⟩) (.inr ⟨by show w.heap.size ≤ w.heap.size + 1 + 1; omega, by show w.heap.size + 1 + 1 ≤ w.heap.size + 2; omega⟩) _⟩, by simp [intOf]; omega⟩
    · obtain rfl : i = ts.length := by have := hrel.le; omega
      rw [List.take_length] at hmine
      have hml := hmine.lt
      have hmg := hmine.ge
      have p0 := hbk.cell 0
      have p1 := hbk.cell 1
      have f0 := hbk.frozen 0
      have f1 := hbk.frozen 1
      have q0 := hb1.cell 0
      have q1 := hb1.cell 1
      have y0 := hb1.frozen 0
      have y1 := hb1.frozen 1
      have HB1 := Lib.hid hb1
      have HBK := Lib.hid hbk
      have hbl := hbk.lt
      clear hrel
      go_wp2_with (at_builtin; refine append_tm rfl _ _ rfl w.heap.size (S3 S w.heap.size) v (ups ts) ⟨4, 0, []⟩ none 0 rfl rfl (by simp) hmine (.nil _) (Nat.le_refl _) ?ss ?bb ?ll ?_
                   case ss => exact fun k q => by (have h1 := hbw.size; have h2 := hbk.lt; rcases q with q | q; (have := HSS.out k q; omega); omega)
                   case bb => exact hbw.size
                   case ll => (rw [ups_len]; unfold lim; omega)
                   intro v1 w1 hm1 hg1
                   obtain ⟨A1, c1, ev1, hd2, hrd⟩ := hm1.reads
                   subst ev1
                   have z := hbk.grown hg1 (fun e => hmine.2.1 _ e.symm (.inr ⟨by omega, by omega⟩))
                   have z0 := z.cell 0
                   have z1 := z.cell 1
                   have g0 := z.frozen 0
                   have g1 := z.frozen 1
                   have HZ := Lib.hid z
                   have x := hb1.grown hg1 (fun e => hmine.2.1 _ e.symm (.inr ⟨by omega, by omega⟩))
                   have x0 := x.cell 0
                   have x1 := x.cell 1
                   have e0 := x.frozen 0
                   have e1 := x.frozen 1
                   have HX := Lib.hid x
                   clear z x)
      have hl4 : (ups ts).length + 1 = (underS ⟨ts, s⟩).l.length := by simp [underS, ups]
      refine bodyPost_ret (res_su rfl _ _ _ _ _ rfl (((HX.out.far (p := ⟨w.heap.size + 1 + 1, 0, none⟩) (by show w.heap.size + 1 ≠ w.heap.size + 1 + 1; omega) _).set 0 _).set 1 _)) rfl ⟨bl_set (bl_set (bl_set (bl_grown hbw hg1 (fun k e => hmg k e)) (p := ⟨w.heap.size + 1 + 1, 0, none⟩) (by show w.heap.size ≤ w.heap.size + 1 + 1; omega) _) (p := ⟨w.heap.size + 1, 0, none⟩) (Nat.le_succ _) _) (p := ⟨w.heap.size + 1, 1, none⟩) (Nat.le_succ _) _, A1, c1, by rw [hl4]; rfl, by rw [← hl4]; simpa using hd2, ?_⟩
      exact (((hrd.set (p := ⟨w.heap.size + 1 + 1, 0, none⟩) (.inr ⟨by show w.heap.size ≤ w.heap.size + 1 + 1; omega, Nat.le_refl _⟩) _).set (p := ⟨w.heap.size + 1, 0, none⟩) (.inr ⟨Nat.le_succ _, by show w.heap.size + 1 ≤ w.heap.size + 2; omega⟩) _).set (p := ⟨w.heap.size + 1, 1, none⟩) (.inr ⟨Nat.le_succ _, by show w.heap.size + 1 ≤ w.heap.size + 2; omega⟩) _).less (fun k q => .inl q)
end Go.Proofs.Ytaliphgdahpagaa
