/- The contract of (*matching).node, over any meta. -/
import Derived.Test.YtbmmdfehhhgkcaaGreatGL
import Derived.Test.YtbmmdfehhhgkcaaGreatBA
import Derived.WalkMore
import Derived.ScopeJumps
import Derived.Deep.RegionHeld3
namespace Go.Proofs.YtbmmdfehhhgkcaaGreat
open Go.RowKit Go.Shelf
set_option linter.unusedVariables false
set_option linter.unusedSimpArgs false

mutual
/-- A node held against another one; MF: a meta held against a term. -/
def nodeF {σ : Type} (MF : Tm → Tm → Int → σ → Except Int σ) : Tm → Tm → Int → σ → Except Int σ
  | ⟨k, h, a⟩, t, n, s => if k = 6 then MF ⟨k, h, a⟩ t n s else if k = t.k ∧ h = t.h ∧ a.length = t.a.length then nodeL MF (isB k) a t.a n s else .error 6
def nodeL {σ : Type} (MF : Tm → Tm → Int → σ → Except Int σ) : Bool → List Tm → List Tm → Int → σ → Except Int σ
  | _, [], _, _, s => .ok s
  | _, _ :: _, [], _, s => .ok s
  | b, p :: l, t :: l', n, s => match nodeF MF p t (lastN b l n) s with
    | .error e => .error e
    | .ok s' => nodeL MF b l l' n s'
end
theorem nodeL_ok {σ : Type} {MF : Tm → Tm → Int → σ → Except Int σ} {b : Bool} {a l : List Tm} {n : Int} {s s' : σ} {i : Nat} (h1 : i < a.length) (h2 : i < l.length) (q : nodeF MF a[i] l[i] (lastN b (a.drop (i + 1)) n) s = .ok s') : nodeL MF b (a.drop i) (l.drop i) n s = nodeL MF b (a.drop (i + 1)) (l.drop (i + 1)) n s' := by
  rw [List.drop_eq_getElem_cons h1, List.drop_eq_getElem_cons h2, nodeL, q]
theorem nodeL_err {σ : Type} {MF : Tm → Tm → Int → σ → Except Int σ} {b : Bool} {a l : List Tm} {n : Int} {s : σ} {e : Int} {i : Nat} (h1 : i < a.length) (h2 : i < l.length) (q : nodeF MF a[i] l[i] (lastN b (a.drop (i + 1)) n) s = .error e) : nodeL MF b (a.drop i) (l.drop i) n s = .error e := by
  rw [List.drop_eq_getElem_cons h1, List.drop_eq_getElem_cons h2, nodeL, q]

def RetN {σ : Type} (row : Option Nat) (I : σ → World → Prop) (r : Except Int σ) (w : World) (e : Ending) (w' : World) : Prop :=
  w.grownBy w' row ∧ ∃ x, e = .returned (.int .i64 x) ∧ ((r = .error x ∧ x ≠ 0) ∨ (x = 0 ∧ ∃ s', r = .ok s' ∧ I s' w'))
structure NRel {σ : Type} (MF : Tm → Tm → Int → σ → Except Int σ) (row : Option Nat) (I : σ → World → Prop) (k h : Int) (a : List Tm) (t : Tm) (A : Option Addr) (c : Nat) (B : Option Addr) (d : Nat) (n : Int) (R : Except Int σ) (w : World) (i : Nat) (x : Int) (wr : World) : Prop where
  le : i ≤ a.length
  grown : w.grownBy wr row
  b5 : Blk wr w.heap.size #[.int .i64 k, .int .i64 h, .slice A a.length c] 25
  b6 : Blk wr (w.heap.size + 1) #[.int .i64 t.k, .int .i64 t.h, .slice B t.a.length d] 25
  st : (x = 0 ∧ ∃ s', I s' wr ∧ nodeL MF (isB k) (a.drop i) (t.a.drop i) n s' = R) ∨ (x ≠ 0 ∧ R = .error x)
theorem wp_scope_jumps2 {P : Program} {a : Act} {w : World} {Q : Exit → Act → World → Prop} {c rest : Code} (l : Nat) (J : Act → World → Prop) (μ : Act → World → Nat) (hf : findLabel c l = some (Code.skip.seq rest))
    (pass : ∀ a w, J a w → rest.wp P (Exit.jump l (fun a' w' => J a' w' ∧ μ a' w' < μ a w) Q) a w)
    (first : (∀ a w, J a w → rest.wp P (Exit.jump l J Q) a w) → c.wp P (Exit.jump l J Q) a w) : (Code.scope c).wp P Q a w :=
  wp_scope_jumps l J μ hf (first fun a w h => Code.wp_mono (fun e a' w' q => by
    cases e <;> first | exact q | exact ⟨q.1, q.2.1⟩) (pass a w h)) (fun a w h => wp_seq (wp_skip (pass a w h)))
theorem gbr_undrew {w w' : World} {row : Option Nat} (h : w.drew.grownBy w' row) : w.grownBy w' row := ⟨h.os, h.tape, h.output, h.size, h.block⟩
theorem gbr_then {a b c : World} {row : Option Nat} (h : a.grownBy b row) (k : b.grownBy c row) : a.grownBy c row := World.grownBy.trans h k

set_option maxRecDepth 100000 in
set_option maxHeartbeats 16000000 in
theorem node_calls {σ : Type} (MF : Tm → Tm → Int → σ → Except Int σ) (row : Option Nat) (I : σ → World → Prop) (gv : Value) (Q : Tm → Tm → Int → Prop)
    (hI : ∀ s w w', I s w → Below w.heap.size w w' → I s w')
    (hQ : ∀ k h a t n, Q ⟨k, h, a⟩ t n → ∀ i, (hi : i < a.length) → (hj : i < t.a.length) → Q a[i] t.a[i] (lastN (isB k) (a.drop (i + 1)) n))
    (hM : ∀ p t n s A c B d w, p.k = 6 → Q p t n → (∀ g, row = some g → g < w.heap.size) → Reads (fun k => some k = row) w A p.a → p.a.length ≤ c → Reads (fun k => some k = row) w B t.a → t.a.length ≤ d → I s w →
      Calls Tryz.prog 62 #[gv, .agg #[.int .i64 p.k, .int .i64 p.h, .slice A p.a.length c], .agg #[.int .i64 t.k, .int .i64 t.h, .slice B t.a.length d], .int .i64 n] w (RetN row I (MF p t n s) w))
    (p : Tm) : ∀ (t : Tm) (n : Int) (s : σ) (A : Option Addr) (c : Nat) (B : Option Addr) (d : Nat) (w : World), Q p t n → (∀ g, row = some g → g < w.heap.size) → Reads (fun k => some k = row) w A p.a → p.a.length ≤ c → Reads (fun k => some k = row) w B t.a → t.a.length ≤ d → I s w →
      Calls Tryz.prog 40 #[gv, .agg #[.int .i64 p.k, .int .i64 p.h, .slice A p.a.length c], .agg #[.int .i64 t.k, .int .i64 t.h, .slice B t.a.length d], .int .i64 n] w (RetN row I (nodeF MF p t n s) w) := by
  induction p using Tm.ind with
  | h p ih =>
  intro t n s A c B d w hq hrow hr hc hr2 hd hs
  obtain ⟨k, h, a⟩ := p
  dsimp only at hr hc ih ⊢
  have hb2 : Below w.heap.size w ((w.alloc (.cells #[.int .i64 k, .int .i64 h, .slice A a.length c] 25)).alloc (.cells #[.int .i64 t.k, .int .i64 t.h, .slice B t.a.length d] 25)) := bl_alloc (bl_alloc (Below.refl _ _) _) _
  have HB2 := Lib.hid hb2
  have hne0 : some w.heap.size ≠ row := fun e => by have := hrow _ e.symm; omega
  have hne1 : some (w.heap.size + 1) ≠ row := fun e => by have := hrow _ e.symm; omega
  have HN0 := Lib.hid hne0
  have HN1 := Lib.hid hne1
  have hlen := hr.len
  unfold lim at hlen
  by_cases h6 : k = 6
  · subst h6
    have HMM := Lib.hid (hM ⟨6, h, a⟩ t n s A c B d _ rfl hq (fun g hg => Nat.lt_of_lt_of_le (hrow g hg) hb2.size) (hr.mov hb2) hc (hr2.mov hb2) hd (hI s _ _ hs hb2))
    have HF : Hid (nodeF MF ⟨6, h, a⟩ t n s = MF ⟨6, h, a⟩ t n s) := Lib.hid (by rw [nodeF]; simp)
    clear hM hI hQ ih hb2 hr hr2 hs
    go_enter Tryz.func40, Tryz.ntmps40
    go_wp2
    refine wp_scope_jumps 0 (fun _ _ => False) (fun _ _ => 0) rfl ?_ (fun _ _ q => q.elim)
    go_wp2_with (go_at_call 62; refine HMM.out.mono ?_; clear HMM; rintro e w1 ⟨hg1, x, rfl, hx⟩)
    simp only [Exit.jump]
    go_ret
    refine ⟨gbr_then (grown_but (bl_grownBy HB2.out) row) hg1, x, rfl, ?_⟩
    rw [HF.out]
    exact hx
  by_cases heq : k = t.k ∧ h = t.h ∧ a.length = t.a.length
  · obtain ⟨rfl, rfl, hl⟩ := heq
    have HF : Hid (nodeF MF ⟨t.k, t.h, a⟩ t n s = nodeL MF (isB t.k) a t.a n s) := Lib.hid (by rw [nodeF, if_neg h6, if_pos ⟨rfl, rfl, hl⟩])
    have HL := Lib.hid hl
    have hli : ((a.length : Int) = (t.a.length : Int)) := by omega
    have HLI := Lib.hid hli
    have HST := Lib.hid hs
    have HII := Lib.hid hI
    have HRR := Lib.hid hr
    have HRR2 := Lib.hid hr2
    have HIH := Lib.hid ih
    have HROW := Lib.hid hrow
    have HQQ := Lib.hid (fun i hi hj => hQ t.k t.h a t n hq i hi hj)
    have hne : ((a.length : Int) != (t.a.length : Int)) = false := by simp [hli]
    clear hM hI hQ ih hb2 hr hr2 hs hrow hq hl hli
    go_enter Tryz.func40, Tryz.ntmps40
    go_wp2
    refine wp_scope_jumps2 0 (fun a' wr => ∃ (i : Nat) (x : Int) (u9 u4 u7 u12 u13 u14 u15 u16 u17 u18 u19 u20 u21 u22 u23 u24 u25 u26 u27 u28 u29 u30 u31 u32 u33 u34 u35 u36 u37 u38 u39 u40 u41 u42 u43 u44 u45 u46 u47 u48 u49 u50 u51 u52 u53 u54 u55 u56 u57 u58 u59 u60 u61 u62 u63 u64 u65 u66 u67 u68 u69 u70 u71 u72 u73 u74 u75 u76 u77 u78 u79 u80 u81 u82 u83 u84 u85 u86 u87 u88 : Value), a' = { tmps := #[gv, .agg #[.int .i64 t.k, .int .i64 t.h, .slice A a.length c], .agg #[.int .i64 t.k, .int .i64 t.h, .slice B t.a.length d], .int .i64 n, u4, .pointer (some ⟨w.heap.size, 0, none⟩), .pointer (some ⟨w.heap.size + 1, 0, none⟩), u7, .int .i64 0, u9, .int .i64 x, .int .i64 i, u12, u13, u14, u15, u16, u17, u18, u19, u20, u21, u22, u23, u24, u25, u26, u27, u28, u29, u30, u31, u32, u33, u34, u35, u36, u37, u38, u39, u40, u41, u42, u43, u44, u45, u46, u47, u48, u49, u50, u51, u52, u53, u54, u55, u56, u57, u58, u59, u60, u61, u62, u63, u64, u65, u66, u67, u68, u69, u70, u71, u72, u73, u74, u75, u76, u77, u78, u79, u80, u81, u82, u83, u84, u85, u86, u87, u88], defers := [] } ∧ u9 = .bool (isB t.k) ∧ NRel MF row I t.k t.h a t A c B d n (nodeL MF (isB t.k) a t.a n s) w i x wr)
      (fun a' _ => a.length - (intOf (a'.tmps.getD 11 undef)).toNat) rfl ?_ ?_
    · rintro a' wr ⟨i, x, u9, u4, u7, u12, u13, u14, u15, u16, u17, u18, u19, u20, u21, u22, u23, u24, u25, u26, u27, u28, u29, u30, u31, u32, u33, u34, u35, u36, u37, u38, u39, u40, u41, u42, u43, u44, u45, u46, u47, u48, u49, u50, u51, u52, u53, u54, u55, u56, u57, u58, u59, u60, u61, u62, u63, u64, u65, u66, u67, u68, u69, u70, u71, u72, u73, u74, u75, u76, u77, u78, u79, u80, u81, u82, u83, u84, u85, u86, u87, u88, rfl, rfl, hrel⟩
      have HG := Lib.hid hrel.grown
      have HB5 := Lib.hid hrel.b5
      have HB6 := Lib.hid hrel.b6
      rcases hrel.st with ⟨rfl, s', hs', hR⟩ | ⟨hx0, hR⟩
      · have HST1 := Lib.hid hs'
        have HR1 := Lib.hid hR
        clear hs' hR
        by_cases hlt : i < a.length
        · have hlt2 : i < t.a.length := by have := HL.out; omega
          have hwr := HG.out
          have hro : ∀ k, k < w.heap.size → ¬ some k = row → wr.heap[k]? = w.heap[k]? := fun k hk hn => hwr.block k hk hn
          obtain ⟨ad, B3, d3, e3, hns1, c0, c1, c2, hd3, hsub⟩ := (HRR.out.step (fun _ _ q => q) hro).at hlt
          obtain ⟨ad2, B4, d4, e4, hns2, v0, v1, v2, hd4, hsub2⟩ := (HRR2.out.step (fun _ _ q => q) hro).at hlt2
          have HC : Hid (∀ W, Below wr.heap.size wr W → Calls Tryz.prog 40 #[gv, .agg #[.int .i64 a[i].k, .int .i64 a[i].h, .slice B3 a[i].a.length d3], .agg #[.int .i64 t.a[i].k, .int .i64 t.a[i].h, .slice B4 t.a[i].a.length d4], .int .i64 (lastN (isB t.k) (a.drop (i + 1)) n)] W (RetN row I (nodeF MF a[i] t.a[i] (lastN (isB t.k) (a.drop (i + 1)) n) s') W)) :=
            fun W hb => HIH.out a[i] (List.getElem_mem hlt) t.a[i] _ s' B3 d3 B4 d4 W (HQQ.out i hlt hlt2) (fun g hg => by have h1 := HROW.out g hg; have h2 := hwr.size; have h3 := hb.size; omega) (hsub.mov hb) hd3 (hsub2.mov hb) hd4 (HII.out _ _ _ HST1.out hb)
          have hln := lastN_tst (kk := t.k) (n := n) hlt
          obtain ⟨nb, hnb⟩ : ∃ nb, lastN (isB t.k) (a.drop (i + 1)) n = nb := ⟨_, rfl⟩
          rw [hnb] at hln HC
          have HNB := Lib.hid hnb
          obtain ⟨bv, hbv⟩ : ∃ bv, isB t.k = bv := ⟨_, rfl⟩
          have hbv2 : (t.k == 1 || t.k == 3) = bv := hbv
          obtain ⟨tt, htt⟩ : ∃ tt, ((i : Int) == (a.length : Int) - 1) = tt := ⟨_, rfl⟩
          rw [hbv2, show (((i : Nat) : Int) == (a.length : Int) - 1) = tt from htt] at hln
          obtain ⟨tb, htb⟩ : ∃ tb, (bv && tt) = tb := ⟨_, rfl⟩
          rw [htb] at hln
          have HLN := Lib.hid hln
          have HTT := Lib.hid htt
          have HTB := Lib.hid htb
          have HBV := Lib.hid hbv
          have q5 := HB5.out.cell 0
          have q51 := HB5.out.cell 1
          have q52 := HB5.out.cell 2
          have l5 := HB5.out.lt
          have q6 := HB6.out.cell 0
          have q61 := HB6.out.cell 1
          have q62 := HB6.out.cell 2
          have l6 := HB6.out.lt
          have hsb : IntKind.i64.wrap ((a.length : Int) - 1) = (a.length : Int) - 1 := IntWalk.i64_in _ (by omega)
          have hwn : IntKind.i64.wrap (n + 1) = wrap64 (n + 1) := IntWalk.i64_left _
          have hi1 : (i : Int) < (a.length : Int) := by omega
          have hi2 : (i : Int) < (t.a.length : Int) := by omega
          have hi0 : (0 : Int) ≤ (i : Int) := by omega
          rw [hbv]
          clear hnb hbv hbv2 htt htb hln hsub hsub2 hro
          subst e3
          subst e4
          have HKE : Hid (∀ W, wr.grownBy W row → (wr.grownBy W row ∧ (W.cell? ⟨w.heap.size, 2, none⟩ = some (.slice (some ad) a.length c) ∧ W.cell? ⟨w.heap.size + 1, 2, none⟩ = some (.slice (some ad2) t.a.length d)) ∧ (W.cell? (ad.add (i * 3)) = some (.int .i64 a[i].k) ∧ W.cell? ⟨(ad.add (i * 3)).block, (ad.add (i * 3)).off + 1, none⟩ = some (.int .i64 a[i].h) ∧ W.cell? ⟨(ad.add (i * 3)).block, (ad.add (i * 3)).off + 2, none⟩ = some (.slice B3 a[i].a.length d3)) ∧ (W.cell? (ad2.add (i * 3)) = some (.int .i64 t.a[i].k) ∧ W.cell? ⟨(ad2.add (i * 3)).block, (ad2.add (i * 3)).off + 1, none⟩ = some (.int .i64 t.a[i].h) ∧ W.cell? ⟨(ad2.add (i * 3)).block, (ad2.add (i * 3)).off + 2, none⟩ = some (.slice B4 t.a[i].a.length d4)))) := Lib.hid (fun W hg => by
            have hce : ∀ (x : Addr) (v : Value), wr.cell? x = some v → ¬ some x.block = row → W.cell? x = some v := fun x v hx hn => (World.cell?_of_block (a := x) (hg.block x.block (World.block_lt_of_cell? wr x hx) hn)).trans hx
            exact ⟨hg, ⟨hce _ _ q52 HN0.out, hce _ _ q62 HN1.out⟩, ⟨hce _ _ c0 (by rw [add_block]; exact hns1), hce _ _ c1 (by show ¬ some (ad.add (i * 3)).block = row; rw [add_block]; exact hns1), hce _ _ c2 (by show ¬ some (ad.add (i * 3)).block = row; rw [add_block]; exact hns1)⟩, ⟨hce _ _ v0 (by rw [add_block]; exact hns2), hce _ _ v1 (by show ¬ some (ad2.add (i * 3)).block = row; rw [add_block]; exact hns2), hce _ _ v2 (by show ¬ some (ad2.add (i * 3)).block = row; rw [add_block]; exact hns2)⟩⟩)
          go_upto_region 9 with fail
          go_cut [70] (fun s70 wx => s70 = .bool tb ∧ wr = wx)
          case first =>
            have hte := HTT.out
            have htbe := HTB.out
            cases bv <;> cases tt
            all_goals
              go_wp2_with fail
              go_meet
              exact ⟨by rw [← htbe]; first | rfl | simp [hte], rfl⟩
          case rest =>
            obtain ⟨rfl, rfl⟩ := hcut
            have hln2 := HLN.out
            cases tb
            · simp only [Bool.false_eq_true, if_false] at hln2
              rw [hln2] at HC HNB
              go_upto_region 11 with fail
              go_region_held3 (fun W => (wr.grownBy W row ∧ (W.cell? ⟨w.heap.size, 2, none⟩ = some (.slice (some ad) a.length c) ∧ W.cell? ⟨w.heap.size + 1, 2, none⟩ = some (.slice (some ad2) t.a.length d)) ∧ (W.cell? (ad.add (i * 3)) = some (.int .i64 a[i].k) ∧ W.cell? ⟨(ad.add (i * 3)).block, (ad.add (i * 3)).off + 1, none⟩ = some (.int .i64 a[i].h) ∧ W.cell? ⟨(ad.add (i * 3)).block, (ad.add (i * 3)).off + 2, none⟩ = some (.slice B3 a[i].a.length d3)) ∧ (W.cell? (ad2.add (i * 3)) = some (.int .i64 t.a[i].k) ∧ W.cell? ⟨(ad2.add (i * 3)).block, (ad2.add (i * 3)).off + 1, none⟩ = some (.int .i64 t.a[i].h) ∧ W.cell? ⟨(ad2.add (i * 3)).block, (ad2.add (i * 3)).off + 2, none⟩ = some (.slice B4 t.a[i].a.length d4))))
                ((first | exact HKE.out _ hg2 | exact HKE.out _ (grown_but (bl_grownBy (Below.refl _ _).drew) row) | exact HKE.out _ (grown_but (bl_grownBy (Below.refl _ _)) row)))
                (first
                  | (go_at_call 40; refine (HC.out _ (Below.refl _ _).drew).mono ?_; rintro e w1 ⟨hg1, x1, rfl, hx1⟩; have hg2 := gbr_undrew hg1))
              all_goals
                go_wp2_with fail
                (try go_step3)
                have hnrel : NRel MF row I t.k t.h a t (some ad) c (some ad2) d n (nodeL MF (isB t.k) a t.a n s) w (i + 1) x1 w1 := {
                  le := hlt
                  grown := gbr_then HG.out hg2
                  b5 := HB5.out.grown hg2 HN0.out
                  b6 := HB6.out.grown hg2 HN1.out
                  st := by
                    rcases hx1 with ⟨hr1, hx⟩ | ⟨rfl, s2, hr1, hi3⟩
                    · exact .inr ⟨hx, by rw [← HR1.out]; exact nodeL_err hlt hlt2 (by rw [HNB.out]; exact hr1)⟩
                    · exact .inl ⟨rfl, s2, hi3, by rw [← HR1.out]; exact (nodeL_ok hlt hlt2 (by rw [HNB.out]; exact hr1)).symm⟩ }
                rw [HBV.out] at hnrel
                first
                  | exact ⟨rfl, ⟨i + 1, x1, _, _, _, _, _, _, _, _, _, _, _, _, _, _, _, _, _, _, _, _, _, _, _, _, _, _, _, _, _, _, _, _, _, _, _, _, _, _, _, _, _, _, _, _, _, _, _, _, _, _, _, _, _, _, _, _, _, _, _, _, _, _, _, _, _, _, _, _, _, _, _, _, _, _, _, _, _, _, _, _, rfl, rfl, hnrel⟩⟩
                  | exact ⟨rfl, ⟨i + 1, x1, _, _, _, _, _, _, _, _, _, _, _, _, _, _, _, _, _, _, _, _, _, _, _, _, _, _, _, _, _, _, _, _, _, _, _, _, _, _, _, _, _, _, _, _, _, _, _, _, _, _, _, _, _, _, _, _, _, _, _, _, _, _, _, _, _, _, _, _, _, _, _, _, _, _, _, _, _, _, _, _, rfl, rfl, hnrel⟩, by simp [intOf]; omega⟩
            · simp only [if_true] at hln2
              subst hln2
              go_upto_region 11 with fail
              go_region_held3 (fun W => (wr.grownBy W row ∧ (W.cell? ⟨w.heap.size, 2, none⟩ = some (.slice (some ad) a.length c) ∧ W.cell? ⟨w.heap.size + 1, 2, none⟩ = some (.slice (some ad2) t.a.length d)) ∧ (W.cell? (ad.add (i * 3)) = some (.int .i64 a[i].k) ∧ W.cell? ⟨(ad.add (i * 3)).block, (ad.add (i * 3)).off + 1, none⟩ = some (.int .i64 a[i].h) ∧ W.cell? ⟨(ad.add (i * 3)).block, (ad.add (i * 3)).off + 2, none⟩ = some (.slice B3 a[i].a.length d3)) ∧ (W.cell? (ad2.add (i * 3)) = some (.int .i64 t.a[i].k) ∧ W.cell? ⟨(ad2.add (i * 3)).block, (ad2.add (i * 3)).off + 1, none⟩ = some (.int .i64 t.a[i].h) ∧ W.cell? ⟨(ad2.add (i * 3)).block, (ad2.add (i * 3)).off + 2, none⟩ = some (.slice B4 t.a[i].a.length d4))))
                ((first | exact HKE.out _ hg2 | exact HKE.out _ (grown_but (bl_grownBy (Below.refl _ _).drew) row) | exact HKE.out _ (grown_but (bl_grownBy (Below.refl _ _)) row)))
                (first
                  | (go_at_call 40; refine (HC.out _ (Below.refl _ _).drew).mono ?_; rintro e w1 ⟨hg1, x1, rfl, hx1⟩; have hg2 := gbr_undrew hg1))
              all_goals
                go_wp2_with fail
                (try go_step3)
                have hnrel : NRel MF row I t.k t.h a t (some ad) c (some ad2) d n (nodeL MF (isB t.k) a t.a n s) w (i + 1) x1 w1 := {
                  le := hlt
                  grown := gbr_then HG.out hg2
                  b5 := HB5.out.grown hg2 HN0.out
                  b6 := HB6.out.grown hg2 HN1.out
                  st := by
                    rcases hx1 with ⟨hr1, hx⟩ | ⟨rfl, s2, hr1, hi3⟩
                    · exact .inr ⟨hx, by rw [← HR1.out]; exact nodeL_err hlt hlt2 (by rw [HNB.out]; exact hr1)⟩
                    · exact .inl ⟨rfl, s2, hi3, by rw [← HR1.out]; exact (nodeL_ok hlt hlt2 (by rw [HNB.out]; exact hr1)).symm⟩ }
                rw [HBV.out] at hnrel
                first
                  | exact ⟨rfl, ⟨i + 1, x1, _, _, _, _, _, _, _, _, _, _, _, _, _, _, _, _, _, _, _, _, _, _, _, _, _, _, _, _, _, _, _, _, _, _, _, _, _, _, _, _, _, _, _, _, _, _, _, _, _, _, _, _, _, _, _, _, _, _, _, _, _, _, _, _, _, _, _, _, _, _, _, _, _, _, _, _, _, _, _, _, rfl, rfl, hnrel⟩⟩
                  | exact ⟨rfl, ⟨i + 1, x1, _, _, _, _, _, _, _, _, _, _, _, _, _, _, _, _, _, _, _, _, _, _, _, _, _, _, _, _, _, _, _, _, _, _, _, _, _, _, _, _, _, _, _, _, _, _, _, _, _, _, _, _, _, _, _, _, _, _, _, _, _, _, _, _, _, _, _, _, _, _, _, _, _, _, _, _, _, _, _, _, rfl, rfl, hnrel⟩, by simp [intOf]; omega⟩
        · have hnl : ¬ ((i : Int) < (a.length : Int)) := by omega
          have q5 := HB5.out.cell 0
          have q51 := HB5.out.cell 1
          have q52 := HB5.out.cell 2
          have l5 := HB5.out.lt
          go_wp2_with fail
          simp only [Exit.jump]
          go_ret
          refine ⟨HG.out, 0, rfl, .inr ⟨rfl, s', ?_, HST1.out⟩⟩
          rw [HF.out, ← HR1.out, List.drop_eq_nil_of_le (show a.length ≤ i by omega), nodeL]
      · have q5 := HB5.out.cell 0
        have q51 := HB5.out.cell 1
        have q52 := HB5.out.cell 2
        have l5 := HB5.out.lt
        have hR' := Lib.hid hR
        clear hR
        by_cases hlt : (i : Int) < (a.length : Int)
        · go_wp2_with fail
          simp only [Exit.jump]
          go_ret
          exact ⟨HG.out, x, rfl, .inl ⟨by rw [HF.out]; exact hR'.out, hx0⟩⟩
        · go_wp2_with fail
          simp only [Exit.jump]
          go_ret
          exact ⟨HG.out, x, rfl, .inl ⟨by rw [HF.out]; exact hR'.out, hx0⟩⟩
    · intro hp
      obtain ⟨b1, hb1⟩ : ∃ b, (t.k == 1) = b := ⟨_, rfl⟩
      obtain ⟨b3, hb3⟩ : ∃ b, (t.k == 3) = b := ⟨_, rfl⟩
      have HI1 : Hid (isB t.k = (b1 || b3)) := Lib.hid (by rw [← hb1, ← hb3]; rfl)
      cases b1 <;> cases b3
      all_goals first
        | (exfalso; have qa := beq_iff_eq.1 hb1; have qb := beq_iff_eq.1 hb3; omega)
        | skip
      all_goals
        go_wp2_with fail
        go_step3
        simp only [Exit.then]
        apply_assumption
        refine hp _ _ ⟨0, 0, _, _, _, _, _, _, _, _, _, _, _, _, _, _, _, _, _, _, _, _, _, _, _, _, _, _, _, _, _, _, _, _, _, _, _, _, _, _, _, _, _, _, _, _, _, _, _, _, _, _, _, _, _, _, _, _, _, _, _, _, _, _, _, _, _, _, _, _, _, _, _, _, _, _, _, _, _, _, _, _, rfl, by rw [HI1.out]; rfl, ?_⟩
        exact {
          le := Nat.zero_le _
          grown := grown_but (bl_grownBy HB2.out) row
          b5 := (Blk.nw _ _ _ _ rfl).al _
          b6 := Blk.nw _ _ _ _ (by simp)
          st := .inl ⟨rfl, s, HII.out _ _ _ HST.out HB2.out, by rw [List.drop_zero, List.drop_zero]⟩ }
  · have HF : Hid (nodeF MF ⟨k, h, a⟩ t n s = .error 6) := Lib.hid (by rw [nodeF, if_neg h6, if_neg heq])
    clear hM hI hQ ih hb2 hr hr2 hs hrow hq
    go_enter Tryz.func40, Tryz.ntmps40
    go_wp2
    refine wp_scope_jumps 0 (fun _ _ => False) (fun _ _ => 0) rfl ?_ (fun _ _ q => q.elim)
    by_cases hk : k = t.k
    · subst hk
      by_cases hh : h = t.h
      · subst hh
        have hl : ¬ ((a.length : Int) = (t.a.length : Int)) := fun e => heq ⟨rfl, rfl, by omega⟩
        go_wp2_with fail
        simp only [Exit.jump]
        go_ret
        exact ⟨grown_but (bl_grownBy HB2.out) row, 6, rfl, .inl ⟨HF.out, by decide⟩⟩
      · go_wp2_with fail
        simp only [Exit.jump]
        go_ret
        exact ⟨grown_but (bl_grownBy HB2.out) row, 6, rfl, .inl ⟨HF.out, by decide⟩⟩
    · go_wp2_with fail
      simp only [Exit.jump]
      go_ret
      exact ⟨grown_but (bl_grownBy HB2.out) row, 6, rfl, .inl ⟨HF.out, by decide⟩⟩
end Go.Proofs.YtbmmdfehhhgkcaaGreat
