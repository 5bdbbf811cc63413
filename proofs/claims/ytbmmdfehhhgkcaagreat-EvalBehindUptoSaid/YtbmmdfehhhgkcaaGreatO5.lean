/- The contracts of occur.around and occur.visit. The contracts of occur.Patterns and of what Vars and Metas see. What Vars and Metas of package occur see: a map of numbers. -/
import Derived.Test.YtbmmdfehhhgkcaaGreatF3
import Derived.Test.YtbmmdfehhhgkcaaGreatGL
import Derived.IntWalk
import Derived.Test.YtbmmdfehhhgkcaaGreatO1
import Derived.Maps.Own
import Derived.Maps.OwnSet
import Derived.Maps.Views
namespace Go.Proofs.YtbmmdfehhhgkcaaGreat
open Go.RowKit Go.Shelf

set_option maxHeartbeats 1000000 in
theorem around_calls (k h : Int) (A : Option Addr) (n c : Nat) (i m : Int) (w : World) (hn : n ≤ lim) :
    Calls Tryz.prog 126 #[.agg #[.int .i64 k, .int .i64 h, .slice A n c], .int .i64 i, .int .i64 m] w fun e w' => e = .returned (.int .i64 (if ((k == 1 || k == 3) && i == (n : Int) - 1) = true then wrap64 (m + 1) else m)) ∧ Below w.heap.size w w' := by
  unfold lim at hn
  cases h1 : (k == 1) <;> cases h3 : (k == 3) <;> cases ht : (i == (n : Int) - 1)
  all_goals
    first
    | (exfalso; have qa := beq_iff_eq.1 h1; have qb := beq_iff_eq.1 h3; omega)
    | (go_enter Tryz.func126, Tryz.ntmps126
       go_wp2
       go_ret
       exact ⟨rfl, bl_alloc (Below.refl _ _) _⟩)

theorem res_none {fn : Func} (h : fn.results = #[]) (tmps : Array Value) (W : World) : (results fn tmps).run Tryz.prog W = .ok (.tuple #[]) W := by
  simp [results, h]
/-- A function value that looks at a node: what has been seen turns, all but block m stays. -/
def Sees (w : World) (G : Tm → Prop) (N m : Nat) (ks : Nat) (cap : Array Value) (J : List (Int × Tm) → World → Prop) : Prop :=
  ∀ (pre : List (Int × Tm)) (n : Int) (s : Tm) (B : Option Addr) (d : Nat) (W : World), w.heap.size ≤ W.heap.size → pre.length < N → G s → J pre W → Reads (fun k => k = m) W B s.a → s.a.length ≤ d →
    Calls Tryz.prog ks (#[.agg #[.int .i64 s.k, .int .i64 s.h, .slice B s.a.length d], .int .i64 n] ++ cap) W fun e W' => e = .returned (.tuple #[]) ∧ J (pre ++ [(n, s)]) W' ∧ W.grownBy W' (some m)

theorem Sees.at {G : Tm → Prop} {N m ks : Nat} {cap : Array Value} {J : List (Int × Tm) → World → Prop} {w : World} (h : Sees w G N m ks cap J) {W : World} (hb : w.heap.size ≤ W.heap.size) : Sees W G N m ks cap J :=
  fun pre n s B d W2 h2 => h pre n s B d W2 (Nat.le_trans hb h2)

structure VisRel (m : Nat) (J : List (Int × Tm) → World → Prop) (pre : List (Int × Tm)) (k h n : Int) (A : Option Addr) (ts : List Tm) (c : Nat) (w : World) (i : Nat) (wr : World) : Prop where
  le : i ≤ ts.length
  grown : w.grownBy wr (some m)
  blk : Blk wr w.heap.size #[.int .i64 k, .int .i64 h, .slice A ts.length c] 25
  seen : ∃ l, J (pre ++ l) wr ∧ (n, ⟨k, h, ts⟩) :: nodesL (isB k) ts n = l ++ nodesL (isB k) (ts.drop i) n

theorem reads_grown3 {m : Nat} {w w' : World} {A : Option Addr} {ts : List Tm} (h : Reads (fun k => k = m) w A ts) (hg : w.grownBy w' (some m)) : Reads (fun k => k = m) w' A ts :=
  h.step (fun _ _ hk => hk) (fun k hk hn => hg.block k hk (fun e => hn (by cases e; rfl)))

set_option maxHeartbeats 4000000 in
theorem visit_calls (ks : Nat) (eg : ∀ args w, (callFunc ks args).run Tryz.prog w = .ok (.enter ks args) w) (cap : Array Value) (G : Tm → Prop) (N m : Nat) (J : List (Int × Tm) → World → Prop) (hJ : ∀ pre W W', J pre W → m < W.heap.size → W.grownBy W' none → J pre W') (t : Tm) :
    ∀ (pre : List (Int × Tm)) (A : Option Addr) (c : Nat) (n : Int) (w : World), m < w.heap.size → Sees w G N m ks cap J → pre.length + (nodesW t n).length ≤ N → (∀ x ∈ nodesW t n, G x.2) → J pre w → Reads (fun k => k = m) w A t.a → t.a.length ≤ c →
    Calls Tryz.prog 112 #[.agg #[.int .i64 t.k, .int .i64 t.h, .slice A t.a.length c], .int .i64 n, .func (.func ks) #[] cap] w fun e w' => e = .returned (.tuple #[]) ∧ J (pre ++ nodesW t n) w' ∧ w.grownBy w' (some m) := by
  induction t using Tm.ind with
  | h t ih =>
  intro pre A c n w hm hs hN hG hj hr hc
  obtain ⟨kk, hh, ts⟩ := t
  dsimp only at hr hc ih ⊢
  have hlen := hr.len
  have hll := hlen
  unfold lim at hlen
  have IH := Lib.hid ih
  have HS := Lib.hid hs
  have hg0 : w.grownBy (w.alloc (.cells #[.int .i64 kk, .int .i64 hh, .slice A ts.length c] 25)) none := World.grownBy_alloc _ _ _
  have e0 := Blk.new w #[.int .i64 kk, .int .i64 hh, .slice A ts.length c] 25
  have hcall := hs pre n ⟨kk, hh, ts⟩ A c _ hg0.size (by rw [nodesW] at hN; simp at hN; omega) (hG (n, ⟨kk, hh, ts⟩) (by rw [nodesW]; exact List.mem_cons_self)) (hJ _ _ _ hj hm hg0) (hr.mov (bl_alloc (Below.refl _ _) _)) hc
  have HC := Lib.hid hcall
  have E0 := Lib.hid e0
  have HG0 := Lib.hid hg0
  clear ih hs hcall e0 hg0
  go_enter Tryz.func112, Tryz.ntmps112
  go_wp2_with (refine HC.out.mono ?_; clear HC; rintro e w1 ⟨rfl, hj1, hg1⟩; have HJ1 := Lib.hid hj1; have HG1 := Lib.hid hg1; have b1 := E0.out.grown hg1 (fun e => by cases e; omega); have q2 := b1.cell 2; have HB1 := Lib.hid b1; clear hj1 hg1 b1)
  have hrel0 : VisRel m J pre kk hh n A ts c w 0 w1 := ⟨Nat.zero_le _, World.grownBy.trans (grown_but HG0.out _) HG1.out, HB1.out, [(n, ⟨kk, hh, ts⟩)], HJ1.out, rfl⟩
  have hrel1 := Lib.hid hrel0
  clear hrel0 q2
  go_loopw [15] (fun j wr => ∃ i : Nat, j = .int .i64 i ∧ VisRel m J pre kk hh n A ts c w i wr) (fun j _ => ts.length - (intOf j).toNat)
  case atStart => exact ⟨0, rfl, hrel1.out⟩
  case round =>
    clear hrel1
    obtain ⟨i, rfl, hrel⟩ := hrel
    obtain ⟨l, hjl, hl⟩ := hrel.seen
    by_cases hlt : i < ts.length
    · have hrx := reads_grown3 hr hrel.grown
      obtain ⟨ad, B, d, rfl, -, c0, c1, c2, hd, hsub⟩ := hrx.at hlt
      rw [nodesL_at _ hlt] at hl
      have HL := Lib.hid hl
      have hnn := lastN_tst (kk := kk) (n := n) hlt
      have hbk := hrel.blk
      have hgr := hrel.grown
      have hmr : m < wr.heap.size := Nat.lt_of_lt_of_le hm hgr.size
      have HA : Hid (∀ W, Calls Tryz.prog 126 #[.agg #[.int .i64 kk, .int .i64 hh, .slice (some ad) ts.length c], .int .i64 (i : Int), .int .i64 n] W fun e w' => e = .returned (.int .i64 (lastN (isB kk) (ts.drop (i + 1)) n)) ∧ Below W.heap.size W w') :=
        fun W => by rw [hnn]; exact around_calls kk hh (some ad) ts.length c i n W hll
      have hNi : (pre ++ l).length + (nodesW ts[i] (lastN (isB kk) (ts.drop (i + 1)) n)).length ≤ N := by
        have h1 := congrArg List.length hl
        rw [nodesW] at hN
        simp at h1 hN ⊢
        omega
      have hGi : ∀ x ∈ nodesW ts[i] (lastN (isB kk) (ts.drop (i + 1)) n), G x.2 := fun x hx => hG x (by rw [nodesW, hl]; exact List.mem_append_right _ (List.mem_append_left _ hx))
      have HI : Hid (∀ W, Below wr.heap.size wr W → Calls Tryz.prog 112 #[.agg #[.int .i64 ts[i].k, .int .i64 ts[i].h, .slice B ts[i].a.length d], .int .i64 (lastN (isB kk) (ts.drop (i + 1)) n), .func (.func ks) #[] cap] W fun e w' => e = .returned (.tuple #[]) ∧ J ((pre ++ l) ++ nodesW ts[i] (lastN (isB kk) (ts.drop (i + 1)) n)) w' ∧ W.grownBy w' (some m)) :=
        fun W hb => IH.out ts[i] (List.getElem_mem hlt) (pre ++ l) B d _ W (Nat.lt_of_lt_of_le hmr hb.size) (HS.out.at (Nat.le_trans hgr.size hb.size)) hNi hGi (hJ _ _ _ hjl hmr (bl_grownBy hb)) (hsub.mov hb) hd
      clear hNi hGi
      generalize lastN (isB kk) (ts.drop (i + 1)) n = nn at *
      clear hnn hl hjl
      go_upto_region 5 with fail
      have hbx : Below wr.heap.size wr (wr.alloc (.cells #[.int .i64 ts[i].k, .int .i64 ts[i].h, .slice B ts[i].a.length d] 25)) := bl_alloc (Below.refl _ _) _
      have h7 := Blk.new wr #[.int .i64 ts[i].k, .int .i64 ts[i].h, .slice B ts[i].a.length d] 25
      have h3 := hbk.mov hbx
      generalize wr.alloc (.cells #[.int .i64 ts[i].k, .int .i64 ts[i].h, .slice B ts[i].a.length d] 25) = wx at *
      have hne1 : w.heap.size ≠ m := by omega
      have hne2 : wr.heap.size ≠ m := by omega
      have hcells : ∀ W : World, wx.grownBy W (some m) → (wx.grownBy W (some m) ∧ W.cell? ⟨w.heap.size, 0, none⟩ = some (.int .i64 kk) ∧ W.cell? ⟨w.heap.size, 1, none⟩ = some (.int .i64 hh) ∧ W.cell? ⟨w.heap.size, 2, none⟩ = some (.slice (some ad) ts.length c) ∧
          W.cell? ⟨wr.heap.size, 0, none⟩ = some (.int .i64 ts[i].k) ∧ W.cell? ⟨wr.heap.size, 1, none⟩ = some (.int .i64 ts[i].h) ∧ W.cell? ⟨wr.heap.size, 2, none⟩ = some (.slice B ts[i].a.length d)) :=
        fun W hb => by
          have x3 := h3.grown hb (fun e => by cases e; omega)
          have x7 := h7.grown hb (fun e => by cases e; omega)
          exact ⟨hb, x3.cell 0, x3.cell 1, x3.cell 2, x7.cell 0, x7.cell 1, x7.cell 2⟩
      have HCE := Lib.hid hcells
      have HI2 : Hid (∀ W, Below wx.heap.size wx W → Calls Tryz.prog 112 #[.agg #[.int .i64 ts[i].k, .int .i64 ts[i].h, .slice B ts[i].a.length d], .int .i64 nn, .func (.func ks) #[] cap] W fun e w' => e = .returned (.tuple #[]) ∧ J ((pre ++ l) ++ nodesW ts[i] nn) w' ∧ wx.grownBy w' (some m)) :=
        fun W hb => (HI.out W (bl_then hbx hb)).mono fun e w' ⟨h1, h2, h3⟩ => ⟨h1, h2, World.grownBy.trans (grown_but (bl_grownBy hb) _) h3⟩
      clear hcells HI c0 c1 c2 hsub hrx
      go_region_held3 (fun W => (wx.grownBy W (some m) ∧ W.cell? ⟨w.heap.size, 0, none⟩ = some (.int .i64 kk) ∧ W.cell? ⟨w.heap.size, 1, none⟩ = some (.int .i64 hh) ∧ W.cell? ⟨w.heap.size, 2, none⟩ = some (.slice (some ad) ts.length c) ∧
          W.cell? ⟨wr.heap.size, 0, none⟩ = some (.int .i64 ts[i].k) ∧ W.cell? ⟨wr.heap.size, 1, none⟩ = some (.int .i64 ts[i].h) ∧ W.cell? ⟨wr.heap.size, 2, none⟩ = some (.slice B ts[i].a.length d)))
        ((refine HCE.out _ ?_; first | exact hg3 | exact grown_but (bl_grownBy (bl_undrew hx1)) _ | exact grown_but (bl_grownBy (bl_eta (Below.refl _ _))) _))
        (first
          | (go_at_call 126; refine (HA.out _).mono ?_; rintro e w1 ⟨rfl, hx1⟩)
          | (go_at_call 112; refine (HI2.out _ (bl_undrew hx1)).mono ?_; rintro e w3 ⟨rfl, hj3, hg3⟩))
      go_wp2_with fail
      have hgw : wr.grownBy w3 (some m) := World.grownBy.trans (grown_but (bl_grownBy hbx) _) hg3
      refine ⟨⟨i + 1, by go_num, hlt, World.grownBy.trans hgr hgw, hbk.grown hgw (fun e => by cases e; omega), l ++ nodesW ts[i] nn, by rw [← List.append_assoc]; exact hj3, by rw [HL.out, List.append_assoc]⟩, by simp [intOf]; omega⟩
    · obtain rfl : i = ts.length := by have := hrel.le; omega
      have HL := Lib.hid hl
      have hgr := hrel.grown
      clear hl hrel
      go_wp2_with fail
      (try simp only [Exit.inBlock, Exit.then])
      refine bodyPost_end (res_none rfl _ _) rfl ⟨rfl, ?_, hgr⟩
      have e : nodesW ⟨kk, hh, ts⟩ n = l := by rw [nodesW, HL.out]; simp [nodesL]
      rw [e]
      exact hjl
end Go.Proofs.YtbmmdfehhhgkcaaGreat
namespace Go.Proofs.YtbmmdfehhhgkcaaGreat
open Go.RowKit Go.Shelf Go.Maps

def patP (n : Int) (s : Tm) : Bool := !(s.k == 6) || (patV s.a n).isSome

def patsB (t : Tm) (n : Int) : Bool := (nodesW t n).all fun x => patP x.1 x.2

end Go.Proofs.YtbmmdfehhhgkcaaGreat
namespace Go.Proofs.YtbmmdfehhhgkcaaGreat
open Go.RowKit Go.Shelf Go.Maps
set_option linter.unusedVariables false
set_option linter.unusedSimpArgs false

theorem keyedInt : Keyed Tryz.prog 3 := int_keyed (q := .i64) (by kernel_rfl)

/-- Block b is a map of at most n entries, whose keys are these numbers. -/
def HasKeys (W : World) (b n : Nat) (xs : List Int) : Prop :=
  ∃ D : DataW Unit, W.ownsMap Tryz.prog 3 (plainElem Tryz.prog 4) b n D ∧ ∀ x : Int, has D (.int .i64 x) = true ↔ x ∈ xs

def varsOf (l : List (Int × Tm)) : List Int := l.filterMap fun x => if x.2.k = 4 ∧ x.1 ≤ x.2.h then some (wrap64 (x.2.h - x.1)) else none
def metasOf (l : List (Int × Tm)) : List Int := l.filterMap fun x => if x.2.k = 6 then some x.2.h else none

def inH (s : Tm) : Prop := -9223372036854775808 ≤ s.h ∧ s.h ≤ 9223372036854775807

theorem wf_in {x : Int} (h : -9223372036854775808 ≤ x ∧ x ≤ 9223372036854775807) : (Lit.int .i64 x).wf = true := by
  simp [Lit.wf]
  rw [show IntKind.i64.min = -9223372036854775808 from rfl]
  omega
theorem wrap_range (x : Int) : -9223372036854775808 ≤ wrap64 x ∧ wrap64 x ≤ 9223372036854775807 := by unfold wrap64; omega

theorem HasKeys.kept {W W' : World} {b n : Nat} {xs : List Int} {row : Option Nat} (h : HasKeys W b n xs) (hg : W.grownBy W' row) (hne : some b ≠ row) : HasKeys W' b n xs := by
  obtain ⟨D, h1, h2⟩ := h
  exact ⟨D, h1.kept hg hne, h2⟩
theorem HasKeys.put {W : World} {b n : Nat} {xs : List Int} {D : DataW Unit} (h2 : ∀ x : Int, has D (.int .i64 x) = true ↔ x ∈ xs) {x : Int} {d : DataW Unit} (hD : IsMap D) :
    ∀ y : Int, has (D.put (.int .i64 x) d) (.int .i64 y) = true ↔ y ∈ xs ++ [x] := by
  intro y
  by_cases e : y = x
  · subst e
    simp [has_put_same hD (show WideAt.IsKeyLit (.int .i64 y) from trivial)]
  · rw [has_put_other (fun q => e (by injection q)), h2]
    simp [e]

/-- What is seen by Vars, Metas: the variable at c0 holds the map b. -/
def SeenJ (c0 b : Nat) (ks : List (Int × Tm) → List Int) (pre : List (Int × Tm)) (W : World) : Prop :=
  Boxed W c0 153 (.map (some b)) ∧ c0 ≠ b ∧ HasKeys W b pre.length (ks pre)
theorem SeenJ.kept {c0 b : Nat} {ks : List (Int × Tm) → List Int} {pre : List (Int × Tm)} {W W' : World} (h : SeenJ c0 b ks pre W) (hg : W.grownBy W' none) : SeenJ c0 b ks pre W' :=
  ⟨h.1.kept hg (by simp), h.2.1, h.2.2.kept hg (by simp)⟩

set_option maxHeartbeats 2000000 in
theorem Metas1_sees (c0 b N : Nat) (hN : N ≤ 4611686018427387904) (w : World) : Sees w inH N b 113 #[.pointer (some ⟨c0, 0, none⟩)] (SeenJ c0 b metasOf) := by
  intro pre n s B d W hw hlt hG hj hr hc
  obtain ⟨hbx, hcb, D, hown, hkeys⟩ := hj.kept (World.grownBy_alloc W (.cells #[.int .i64 s.k, .int .i64 s.h, .slice B s.a.length d] 25) none)
  have hcl := hbx.cell
  have hc0 := hj.1.lt
  have e : metasOf (pre ++ [(n, s)]) = metasOf pre ++ (if s.k = 6 then [s.h] else []) := by
    unfold metasOf
    rw [List.filterMap_append]
    by_cases h : s.k = 6 <;> simp [h]
  have HB := Lib.hid hbx
  have HE := Lib.hid e
  have HK := Lib.hid hkeys
  clear hbx e hkeys hj
  cases h6 : (s.k == 6)
  · go_enter Tryz.func113, Tryz.ntmps113
    go_wp2_with fail
    (try simp only [Exit.inBlock, Exit.then])
    refine bodyPost_end (res_none rfl _ _) rfl ⟨rfl, ⟨HB.out, hcb, D, hown.mono (by simp), ?_⟩, World.grownBy_alloc _ _ _⟩
    rw [HE.out, if_neg (by simpa using h6), List.append_nil]
    exact HK.out
  · go_enter Tryz.func113, Tryz.ntmps113
    go_wp2_with (at_mapUpdate; refine wpList_mapUpdate_own _ rfl _ _ _ 153 rfl 3 4 keyedInt Tryz.underlying153 _ b pre.length D rfl hown (by unfold maxLen; omega) _ _ _ rfl rfl (keyOf_int_mk (by kernel_rfl) (wf_in hG)) _ [] (plainElem_bool (by kernel_rfl) _) ?_; intro w1 hown1 hgrow1)
    (try simp only [Exit.inBlock, Exit.then])
    refine bodyPost_end (res_none rfl _ _) rfl ⟨rfl, ⟨HB.out.kept hgrow1 (fun e => hcb (by cases e; rfl)), hcb, _, hown1.mono (by simp), ?_⟩, World.grownBy.trans (World.grownBy_alloc _ _ _) hgrow1⟩
    rw [HE.out, if_pos (by simpa using h6)]
    exact HasKeys.put (W := W) (b := b) (n := 0) HK.out hown.isMap
end Go.Proofs.YtbmmdfehhhgkcaaGreat
