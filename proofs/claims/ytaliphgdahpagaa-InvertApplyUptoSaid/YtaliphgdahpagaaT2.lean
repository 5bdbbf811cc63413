/- The contracts of package term: all, may, Depth, May. -/
import Derived.Test.YtaliphgdahpagaaT1
namespace Go.Proofs.Ytaliphgdahpagaa
open Go.RowKit Go.Shelf
attribute [local go_sem] Oper.semAt_some

abbrev tmv (t : Tm) (A : Option Addr) (c : Nat) : Value := .agg #[.int .i64 t.k, .int .i64 t.h, .slice A t.a.length c]

/-- Is a function value asked of a node what p says? -/
def Asks (w : World) (S : Nat → Prop) (kf : Nat) (cap : Array Value) (p : Int → Tm → Bool) : Prop :=
  ∀ (n : Int) (s : Tm) (B : Option Addr) (d : Nat) (W : World), Below w.heap.size w W → Reads S W B s.a → s.a.length ≤ d →
    Calls Try.prog kf (#[.int .i64 n, .agg #[.int .i64 s.k, .int .i64 s.h, .slice B s.a.length d]] ++ cap) W fun e W' => e = .returned (.bool (p n s)) ∧ Below W.heap.size W W'

theorem boxed_mov {W W' : World} {B : Nat} {t : TypeId} {v : Value} (h : Boxed W B t v) (k : Below W.heap.size W W') : Boxed W' B t v := (k.block B h.lt).trans h

theorem kc_of_grown {M : Nat → Prop} {X Y : World} {row : Option Nat} {B : Nat} (hg : X.grownBy Y row) (hr : ∀ r, row = some r → B ≤ r ∧ ∃ o : Obj, X.heap[r]? = some o ∧ o.isCells = false) : KC M X Y :=
  ⟨hg.size, fun k cs t fr _ e => by
    rw [hg.block k (Array.getElem?_eq_some_iff.1 e).1 (fun q => by obtain ⟨_, o, ho, hc⟩ := hr k q.symm; rw [e] at ho; cases ho; cases hc)]; exact e⟩
theorem ownFrom_kc {β : Type} {M : Nat → Prop} (B : Nat) (W0 : World) : OwnFrom B (fun (_ : β) W => KC M W0 W) := fun _ _ _ _ hs hg hr => hs.trans (kc_of_grown hg hr)
theorem Reads.less {S S' : Nat → Prop} {W : World} {A : Option Addr} {ts : List Tm} (h : Reads S W A ts) (hs : ∀ k, S' k → S k) : Reads S' W A ts := h.step (fun k _ hk q => hk (hs k q)) (fun _ _ _ => rfl)
theorem boxed_put {W : World} {B : Nat} {t : TypeId} {v : Value} (h : Boxed W B t v) {l : Nat} {o : Obj} (o' : Obj) (hl : W.heap[l]? = some o) (ho : o.isCells = false) : Boxed (W.putObj l o') B t v :=
  h.kept (grownBy_putObj' W l o') (fun e => by cases e; rw [show W.heap[B]? = _ from h] at hl; cases hl; cases ho)

theorem kf_of_below {B : Nat} {W W' : World} (h : Below W.heap.size W W') : KeepsFrom B W W' := ⟨h.size, fun k o _ e _ => by rw [h.block k (Array.getElem?_eq_some_iff.1 e).1]; exact e⟩

set_option maxHeartbeats 2000000 in
set_option maxRecDepth 100000 in
theorem all_calls (kf : Nat) (eg : ∀ args w, (callFunc kf args).run Try.prog w = .ok (.enter kf args) w) (cap : Array Value) (p : Int → Tm → Bool) (t : Tm) (A : Option Addr) (c : Nat) (w : World) (hp : Asks w (fun _ => False) kf cap p) (hr : Reads (fun _ => False) w A t.a) (hc : t.a.length ≤ c) :
    Calls Try.prog 28 #[.agg #[.int .i64 t.k, .int .i64 t.h, .slice A t.a.length c], .func (.func kf) #[] cap] w fun e w' => e = .returned (.bool ((nodesW t 0).all fun x => p x.1 x.2)) ∧ Below w.heap.size w w' := by
  refine (callsIn_wide (n := 9)).1 ?_
  obtain ⟨kk, hh, ts⟩ := t
  dsimp only at hr hc ⊢
  have HP := Lib.hid hp
  clear hp
  refine callsIn_of_wp_marks Try.func28 rfl trivial ?_ rfl
  simp only [Try.ntmps28, List.size_toArray, List.length_cons, List.length_nil, Nat.reduceAdd, Nat.reduceSub, Array.replicate_succ, Array.replicate_zero, List.push_toArray, List.append_toArray, List.nil_append, List.cons_append]
  gi_wp2_with (refine ⟨trivial, ?_⟩; gi_at_call 43; refine (callsIn_wide.2 (nodes_calls _ _ _ _ _ _)).mono ?_; rintro e w' ⟨rfl, rfl⟩)
  have bS := ((Boxed.new (w.alloc (.cells #[.int .i64 kk, .int .i64 hh, .slice A ts.length c] 24)) 49 (.func (.func kf) #[] cap)).alloc (.cells #[.bool false] 4)).alloc (.cells #[.int .i64 kk, .int .i64 hh, .slice A ts.length c] 24)
  have bR := (Boxed.new ((w.alloc (.cells #[.int .i64 kk, .int .i64 hh, .slice A ts.length c] 24)).alloc (.cells #[.func (.func kf) #[] cap] 49)) 4 (.bool false)).alloc (.cells #[.int .i64 kk, .int .i64 hh, .slice A ts.length c] 24)
  have bT := Blk.new (((w.alloc (.cells #[.int .i64 kk, .int .i64 hh, .slice A ts.length c] 24)).alloc (.cells #[.func (.func kf) #[] cap] 49)).alloc (.cells #[.bool false] 4)) #[.int .i64 kk, .int .i64 hh, .slice A ts.length c] 24
  simp only [World.size_alloc] at bS bR bT
  have hB0 : Below w.heap.size w ((((w.alloc (.cells #[.int .i64 kk, .int .i64 hh, .slice A ts.length c] 24)).alloc (.cells #[.func (.func kf) #[] cap] 49)).alloc (.cells #[.bool false] 4)).alloc (.cells #[.int .i64 kk, .int .i64 hh, .slice A ts.length c] 24)) := bl_alloc (bl_alloc (bl_alloc (bl_alloc (Below.refl _ _) _) _) _) _
  have hsz : ((((w.alloc (.cells #[.int .i64 kk, .int .i64 hh, .slice A ts.length c] 24)).alloc (.cells #[.func (.func kf) #[] cap] 49)).alloc (.cells #[.bool false] 4)).alloc (.cells #[.int .i64 kk, .int .i64 hh, .slice A ts.length c] 24)).heap.size = w.heap.size + 4 := by simp
  obtain ⟨W0, hW0⟩ : ∃ W0, ((((w.alloc (.cells #[.int .i64 kk, .int .i64 hh, .slice A ts.length c] 24)).alloc (.cells #[.func (.func kf) #[] cap] 49)).alloc (.cells #[.bool false] 4)).alloc (.cells #[.int .i64 kk, .int .i64 hh, .slice A ts.length c] 24)) = W0 := ⟨_, rfl⟩
  rw [hW0] at bS bR bT hB0 hsz ⊢
  clear hW0
  have hr0 : Reads (fun k => k = w.heap.size + 2) W0 A ts := hr.step (fun k hk _ q => by omega) (fun k hk _ => hB0.block k hk)
  refine wpIn_rangeFunc_ownH rfl (by decide) (gf := 53) (lb := #[.pointer (some ⟨w.heap.size + 1 + 1 + 1, 0, none⟩)]) rfl trivial (enters_of Try.func53 (by kernel_rfl) rfl)
    (nodes_stops (fun k => k = w.heap.size + 2) W0 (fun k q => by omega) _ (w.heap.size + 1 + 1 + 1) ⟨kk, hh, ts⟩ A c hr0 hc bT) KC.trans (fun W l o o' _ h hc _ => KC.putObj W l o o' h hc) (Below.refl _ _) (fun _ => rfl)
    (fun pre W => ((Boxed W (w.heap.size + 1) 49 (.func (.func kf) #[] cap) ∧ Boxed W (w.heap.size + 1 + 1) 4 (.bool false)) ∧ (∀ x ∈ pre, p x.1.n x.1.t = true)) ∧ (Below w.heap.size w W ∧ KC (fun k => k = w.heap.size + 2) W0 W))
    (fun c pre W => (Boxed W (w.heap.size + 1 + 1) 4 (.bool false) ∧ (c = .ret ∧ ∃ x ∈ pre, p x.1.n x.1.t = false)) ∧ Below w.heap.size w W)
    (OwnFrom.and (OwnFrom.and (OwnFrom.and (Own.from (boxed_own _ _ _) _) (Own.from (boxed_own _ _ _) _)) (ownFrom_pure _ _)) (OwnFrom.and (ownFrom_below (Nat.le_refl _) (by omega)) (ownFrom_kc _ _)))
    (fun c => OwnFrom.and (OwnFrom.and (Own.from (boxed_own _ _ _) _) (ownFrom_pure _ _)) (ownFrom_below (Nat.le_refl _) (by omega)))
    ⟨⟨⟨bS, bR⟩, by simp⟩, hB0, KC.refl _ _⟩
    (fun x a' W => ∃ Bx, w.heap.size + 3 < Bx ∧ Blk W Bx #[.int .i64 x.1.t.k, .int .i64 x.1.t.h, .slice x.1.A x.1.t.a.length x.1.c] 24 ∧ Reads (fun _ => False) W x.1.A x.1.t.a ∧ a' = { tmps := #[.agg #[.int .i64 kk, .int .i64 hh, .slice A ts.length c], .func (.func kf) #[] cap, .pointer (some ⟨w.heap.size, 0, none⟩), .pointer (some ⟨w.heap.size + 1, 0, none⟩), .pointer (some ⟨w.heap.size + 1 + 1, 0, none⟩), .int .i64 x.1.n, .pointer (some ⟨Bx, 0, none⟩), .agg #[.int .i64 kk, .int .i64 hh, .slice A ts.length c],
      .func (.func 53) #[] #[.pointer (some ⟨w.heap.size + 1 + 1 + 1, 0, none⟩)], .int .i64 x.1.n, .agg #[.int .i64 x.1.t.k, .int .i64 x.1.t.h, .slice x.1.A x.1.t.a.length x.1.c], undef, undef, undef, undef, undef], defers := [] })
    (fun x a' _ X Y row hs hg hr => by
      obtain ⟨Bx, h1, h2, h3, h4⟩ := hs
      have hkc : KC (fun _ => False) X Y := kc_of_grown hg hr
      exact ⟨Bx, h1, h2.kc hkc id, h3.kc hkc (fun _ q => q), h4⟩)
    ?assign ?body ?done ?stop
  case assign =>
    rintro l pre x W K ⟨⟨⟨b1, b2⟩, hall⟩, hB1, hK1⟩ hK
    have hx : Reads (fun _ => False) W x.1.A x.1.t.a := (x.2.1.kc hK1 (fun _ q => q)).less (fun _ q => q.elim)
    have HK := Lib.hid hK
    have hbl : Below W.heap.size W (W.alloc (.cells #[.int .i64 x.1.t.k, .int .i64 x.1.t.h, .slice x.1.A x.1.t.a.length x.1.c] 24)) := bl_alloc (Below.refl _ _) _
    have HB := Lib.hid hbl
    have hlt := hK1.size
    clear hK hbl
    gi_wp2
    exact HK.out _ _ ((KeepsOthers.alloc _ _).from _) (KC.of_below HB.out) ⟨⟨⟨b1.alloc _, b2.alloc _⟩, hall⟩, bl_then hB1 HB.out, hK1.below HB.out⟩ ⟨W.heap.size, by omega, Blk.new W _ _, hx.mov HB.out, rfl⟩
  case body =>
    rintro l pre x a' W hl ⟨r, hr⟩ ⟨⟨⟨b1, b2⟩, hall⟩, hB1, hK1⟩ ⟨Bx, hBx, bX, hx, rfl⟩ hlt
    have c1 := b1.cell
    have c2 := b2.cell
    have f2 := b2.frozen
    have q0 := bX.cell 0
    have q1 := bX.cell 1
    have q2 := bX.cell 2
    have hcall := HP.out x.1.n x.1.t x.1.A x.1.c W hB1 hx x.2.2
    cases hpx : p x.1.n x.1.t
    all_goals
      rw [hpx] at hcall
      have HC := Lib.hid hcall
      have HX := Lib.hid hpx
      clear hcall hpx
      gi_wp2_with (refine ⟨trivial, ?_⟩; refine (CallsIn.inRound l (callsIn_wide.2 HC.out)).mono ?_; clear HC; rintro e w' ⟨rfl, hb⟩; have c3 := (boxed_mov b2 hb).cell; have f3 := (boxed_mov b2 hb).frozen)
    · exact ⟨(kf_of_below hb).trans ((KeepsOthers.setCell _ _ _).from _), ⟨(boxed_mov b2 hb).set _, rfl, x, by simp, HX.out⟩, bl_set (bl_then hB1 hb) (by simp; omega) _⟩
    · refine ⟨kf_of_below hb, KC.of_below hb, ⟨⟨boxed_mov b1 hb, boxed_mov b2 hb⟩, fun y hy => ?_⟩, bl_then hB1 hb, hK1.below hb⟩
      rcases List.mem_append.1 hy with hy | hy
      · exact hall y hy
      · obtain rfl := List.mem_singleton.1 hy
        exact HX.out
  case done =>
    rintro D ys W hD hys ⟨⟨⟨b1, b2⟩, hall⟩, hB1, hK1⟩ hK
    have cS := b2.cell
    have fS := b2.frozen
    gi_wp2
    have hK' := (KeepsOthers.setCell W ⟨w.heap.size + 1 + 1, 0, none⟩ (.bool true)).same D _ hK rfl
    refine ⟨by simp, .inl ⟨_, _, rfl, run_takeDeferred hK', ?_⟩⟩
    have b3 := boxed_put (b2.set (.bool true)) (.deferred none) hK' rfl
    have c3 := b3.cell
    refine ⟨.bool true, by simp [results, Try.results28, go_sem, c3], ?_, (bl_set hB1 (p := ⟨w.heap.size + 1 + 1, 0, none⟩) (by simp; omega) _).trans (belowK_b (w := w) (Nat.le_refl _) _ D _ _ (by omega) hK' rfl rfl)⟩
    have hq : ((nodesW ⟨kk, hh, ts⟩ 0).all fun x => p x.1 x.2) = true := by
      rw [← hys, List.all_eq_true]
      intro y hy
      obtain ⟨x, hx, rfl⟩ := List.mem_map.1 hy
      exact hall x hx
    rw [hq]
  case stop =>
    rintro D c pre W hD hpre ⟨⟨b2, rfl, hex⟩, hB1⟩ hK
    have cS := b2.cell
    gi_wp2
    refine ⟨by simp, .inl ⟨_, _, rfl, run_takeDeferred hK, ?_⟩⟩
    have c3 := (boxed_put b2 (.deferred none) hK rfl).cell
    refine ⟨.bool false, by simp [results, Try.results28, go_sem, c3], ?_, hB1.trans (belowK_b (w := w) (Nat.le_refl _) W D _ _ (by omega) hK rfl rfl)⟩
    have hq : ((nodesW ⟨kk, hh, ts⟩ 0).all fun x => p x.1 x.2) = false := by
      obtain ⟨r, hr⟩ := hpre
      obtain ⟨x, hx, hpx⟩ := hex
      rw [← hr, List.all_eq_false]
      exact ⟨prN x, List.mem_append_left _ (List.mem_map_of_mem hx), by show ¬ p x.1.n x.1.t = true; rw [hpx]; exact Bool.false_ne_true⟩
    rw [hq]
end Go.Proofs.Ytaliphgdahpagaa
