/- The contracts of meta.odd, meta.fill and meta.Fill. -/
import Derived.Test.YtbmmdfehhhgkcaaGreatME
import Derived.Test.YtbmmdfehhhgkcaaGreatCF
import Derived.Deep.RegionLaw
namespace Go.Proofs.YtbmmdfehhhgkcaaGreat
open Go.RowKit Go.Shelf
set_option linter.unusedVariables false
set_option linter.unusedSimpArgs false

/-- A row of terms, wherever it lies; what its terms lead to keeps clear of S. -/
def ReadsE (S : Nat → Prop) (w : World) (A : Option Addr) (ts : List Tm) : Prop :=
  ts = [] ∨ ∃ (b o : Nat) (f : Nat → Option Addr) (c : Nat → Nat), A = some ⟨b, o, none⟩ ∧ ts.length ≤ lim ∧ (∀ i, (hi : i < ts.length) → w.cell? ⟨b, o + 3 * i, none⟩ = some (.int .i64 ts[i].k) ∧ w.cell? ⟨b, o + 3 * i + 1, none⟩ = some (.int .i64 ts[i].h) ∧
    w.cell? ⟨b, o + 3 * i + 2, none⟩ = some (.slice (f i) ts[i].a.length (c i)) ∧ ts[i].a.length ≤ c i) ∧ ∀ i, (hi : i < ts.length) → Reads S w (f i) ts[i].a
theorem Reads.toE {S : Nat → Prop} {w : World} {A : Option Addr} {ts : List Tm} (h : Reads S w A ts) : ReadsE S w A ts := by
  cases h with
  | nil => exact .inl rfl
  | row b o ts f c hS hl hc hr => exact .inr ⟨b, o, f, c, rfl, hl, hc, hr⟩
theorem ReadsE.len {S : Nat → Prop} {w : World} {A : Option Addr} {ts : List Tm} (h : ReadsE S w A ts) : ts.length ≤ lim := by
  rcases h with rfl | ⟨b, o, f, c, -, h, -⟩
  · simp
  · exact h
theorem ReadsE.step {S S' : Nat → Prop} {w w' : World} (hS : ∀ k, k < w.heap.size → ¬ S k → ¬ S' k) (hb : Below w.heap.size w w') {A : Option Addr} {ts : List Tm} (h : ReadsE S w A ts) : ReadsE S' w' A ts := by
  rcases h with rfl | ⟨b, o, f, c, h1, h2, h3, h4⟩
  · exact .inl rfl
  · exact .inr ⟨b, o, f, c, h1, h2, fun i hi => ⟨cell_mov (h3 i hi).1 hb, cell_mov (h3 i hi).2.1 hb, cell_mov (h3 i hi).2.2.1 hb, (h3 i hi).2.2.2⟩, fun i hi => (h4 i hi).step hS (fun k hk _ => hb.block k hk)⟩
theorem ReadsE.mov {S : Nat → Prop} {w w' : World} (hb : Below w.heap.size w w') {A : Option Addr} {ts : List Tm} (h : ReadsE S w A ts) : ReadsE S w' A ts := h.step (fun _ _ q => q) hb
theorem ReadsE.less {S S' : Nat → Prop} {w : World} (hS : ∀ k, S' k → S k) {A : Option Addr} {ts : List Tm} (h : ReadsE S w A ts) : ReadsE S' w A ts := h.step (fun k _ hk q => hk (hS k q)) (Below.refl _ _)
theorem ReadsE.plain {w : World} {A : Option Addr} {ts : List Tm} (h : ReadsE (fun _ => False) w A ts) : Reads (fun _ => False) w A ts := by
  rcases h with rfl | ⟨b, o, f, c, rfl, h2, h3, h4⟩
  · exact .nil _
  · exact .row b o ts f c (fun q => q) h2 h3 h4
theorem ReadsE.at {S : Nat → Prop} {w : World} {A : Option Addr} {ts : List Tm} (h : ReadsE S w A ts) {i : Nat} (hi : i < ts.length) :
    ∃ ad B c, A = some ad ∧ True ∧ w.cell? (ad.add (i * 3)) = some (.int .i64 ts[i].k) ∧ w.cell? ⟨(ad.add (i * 3)).block, (ad.add (i * 3)).off + 1, none⟩ = some (.int .i64 ts[i].h) ∧
      w.cell? ⟨(ad.add (i * 3)).block, (ad.add (i * 3)).off + 2, none⟩ = some (.slice B ts[i].a.length c) ∧ ts[i].a.length ≤ c ∧ Reads S w B ts[i].a := by
  rcases h with rfl | ⟨b, o, f, c, h1, h2, h3, h4⟩
  · exact absurd hi (by simp)
  · obtain ⟨q1, q2, q3, q4⟩ := h3 i hi
    refine ⟨⟨b, o, none⟩, f i, c i, h1, trivial, ?_, ?_, ?_, q4, h4 i hi⟩
    · rw [add_plain, Nat.mul_comm]; exact q1
    · rw [add_plain, Nat.mul_comm]; exact q2
    · rw [add_plain, Nat.mul_comm]; exact q3

set_option maxHeartbeats 2000000 in
theorem oddM_calls (t : Tm) (A : Option Addr) (c : Nat) (w : World) (hr : Reads (fun _ => False) w A t.a) (hc : t.a.length ≤ c) :
    Calls Tryz.prog 45 #[.agg #[.int .i64 t.k, .int .i64 t.h, .slice A t.a.length c]] w fun e w' => e = .returned (.bool (!mayB t)) ∧ Below w.heap.size w w' := by
  have HM := Lib.hid (May_calls t A c _ (hr.mov (bl_alloc (Below.refl w.heap.size w) (.cells #[.int .i64 t.k, .int .i64 t.h, .slice A t.a.length c] 25))) hc)
  generalize mayB t = m at *
  go_enter Tryz.func45, Tryz.ntmps45
  go_wp2_with (go_at_call 38; refine HM.out.mono ?_; clear HM; rintro e w1 ⟨rfl, hb1⟩)
  go_ret
  exact ⟨rfl, bl_then (bl_alloc (Below.refl _ _) _) hb1⟩

/-- A term and an error, as they come back. -/
def RetC (S : Nat → Prop) (r : Except Int Tm) (k h : Int) (B : Option Addr) (n c : Nat) (x : Int) (w' : World) : Prop :=
  (r = .error x ∧ x ≠ 0 ∧ k = 0 ∧ h = 0 ∧ B = none ∧ n = 0 ∧ c = 0) ∨ ∃ u, r = .ok u ∧ x = 0 ∧ k = u.k ∧ h = u.h ∧ n = u.a.length ∧ u.a.length ≤ c ∧ Reads S w' B u.a
theorem RetQ.open {S : Nat → Prop} {r : Except Int Tm} {w : World} {e : Ending} {w' : World} (q : RetQ S r w e w') : Below w.heap.size w w' ∧ ∃ k h B n c x, e = .returned (.tuple #[.agg #[.int .i64 k, .int .i64 h, .slice B n c], .int .i64 x]) ∧ RetC S r k h B n c x w' := by
  obtain ⟨hb, q⟩ := q
  refine ⟨hb, ?_⟩
  rcases q with ⟨x, rfl, hx, rfl⟩ | ⟨u, B, c, rfl, rfl, hc, hr⟩
  · exact ⟨0, 0, none, 0, 0, x, rfl, .inl ⟨rfl, hx, rfl, rfl, rfl, rfl, rfl⟩⟩
  · exact ⟨u.k, u.h, B, _, c, 0, rfl, .inr ⟨u, rfl, rfl, rfl, rfl, rfl, hc, hr⟩⟩
theorem RetC.close {S : Nat → Prop} {r : Except Int Tm} {k h : Int} {B : Option Addr} {n c : Nat} {x : Int} {w w' : World} (q : RetC S r k h B n c x w') (hb : Below w.heap.size w w') : RetQ S r w (.returned (.tuple #[.agg #[.int .i64 k, .int .i64 h, .slice B n c], .int .i64 x])) w' := by
  refine ⟨hb, ?_⟩
  rcases q with ⟨rfl, hx, rfl, rfl, rfl, rfl, rfl⟩ | ⟨u, rfl, rfl, rfl, rfl, rfl, hc, hr⟩
  · exact .inl ⟨x, rfl, hx, rfl⟩
  · exact .inr ⟨u, B, c, rfl, rfl, hc, hr⟩
theorem RetC.set3 {S : Nat → Prop} {r : Except Int Tm} {k h : Int} {B : Option Addr} {n d : Nat} {x : Int} {W : World} (q : RetC S r k h B n d x W) {g : Nat} (hg : S g) (a b c : Value) : RetC S r k h B n d x (((W.setCell ⟨g, 0, none⟩ a).setCell ⟨g, 1, none⟩ b).setCell ⟨g, 2, none⟩ c) := by
  rcases q with q | ⟨u, h1, h2, h3, h4, h5, hc, hr⟩
  · exact .inl q
  · exact .inr ⟨u, h1, h2, h3, h4, h5, hc, hr.set3 hg⟩
theorem RetC.less {S S' : Nat → Prop} {r : Except Int Tm} {k h : Int} {B : Option Addr} {n d : Nat} {x : Int} {W : World} (q : RetC S r k h B n d x W) (hs : ∀ k, S' k → S k) : RetC S' r k h B n d x W := by
  rcases q with q | ⟨u, h1, h2, h3, h4, h5, hc, hr⟩
  · exact .inl q
  · exact .inr ⟨u, h1, h2, h3, h4, h5, hc, hr.less hs⟩

set_option maxHeartbeats 4000000 in
/-- The closure that fill hands to each. -/
theorem fill1_calls (S : Nat → Prop) (g0 g1 g2 g3 : Nat) (bd : Bool) (kk hh n : Int) (X Y : Option Addr) (len cx nl cy : Nat) (i : Nat) (t : Tm) (B : Option Addr) (d : Nat) (rv : Except Int Tm) (w : World)
    (hS : ∀ k, S k → k < w.heap.size) (h0 : Boxed w g0 4 (.bool bd)) (h1 : Blk w g1 #[.int .i64 kk, .int .i64 hh, .slice X len cx] 25) (h2 : Boxed w g2 23 (.slice Y nl cy)) (h3 : Boxed w g3 3 (.int .i64 n)) (hl : len ≤ lim)
    (hI : ∀ W, Below w.heap.size w W → ∀ S2 : Nat → Prop, (∀ k, S2 k → k < W.heap.size) → (∀ k, k < w.heap.size → S2 k → S k) → Reads S2 W B t.a → Calls Tryz.prog 47 #[.agg #[.int .i64 t.k, .int .i64 t.h, .slice B t.a.length d], .slice Y nl cy, .int .i64 (if (bd && ((i : Int) == (len : Int) - 1)) = true then wrap64 (n + 1) else n)] W (RetQ S2 rv W))
    (hr : Reads S w B t.a) :
    Calls Tryz.prog 64 #[.int .i64 i, .agg #[.int .i64 t.k, .int .i64 t.h, .slice B t.a.length d], .pointer (some ⟨g0, 0, none⟩), .pointer (some ⟨g1, 0, none⟩), .pointer (some ⟨g2, 0, none⟩), .pointer (some ⟨g3, 0, none⟩)] w (RetQ S rv w) := by
  have hb0 : Below w.heap.size w ((w.alloc (.cells #[.int .i64 t.k, .int .i64 t.h, .slice B t.a.length d] 25)).alloc (.cells #[.int .i64 0, .int .i64 0, .slice none 0 0] 25)) := bl_alloc (bl_alloc (Below.refl _ _) _) _
  have e1 := Blk.new (w.alloc (.cells #[.int .i64 t.k, .int .i64 t.h, .slice B t.a.length d] 25)) #[.int .i64 0, .int .i64 0, .slice none 0 0] 25
  simp only [World.size_alloc] at e1
  have HB0 := Lib.hid hb0
  have E1 := Lib.hid e1
  have c2 := h1.cell 2
  have d0 := h0.cell
  have f0 := h2.cell
  have g0' := h3.cell
  have l0 := h0.lt
  have l1 := h1.lt
  have l2 := h2.lt
  have l3 := h3.lt
  unfold lim at hl
  obtain ⟨tst, htst⟩ : ∃ b, ((i : Int) == (len : Int) - 1) = b := ⟨_, rfl⟩
  rw [htst] at hI
  have HI := Lib.hid (hI _ hb0 (fun k => S k ∨ k = w.heap.size + 1) (fun k q => by rcases q with q | q; (have := hS k q; simp; omega); (subst q; simp)) (fun k hk q => by rcases q with q | q; exact q; omega) (hr.step (fun k hk hn q => by rcases q with q | q; exact hn q; omega) (fun k hk _ => hb0.block k hk)))
  have HS := Lib.hid hS
  clear hb0 e1 hI hS h0 h1 h2 h3 hr
  have hln : IntKind.i64.wrap ((len : Int) - 1) = (len : Int) - 1 := IntWalk.i64_in _ (by omega)
  have hwn : IntKind.i64.wrap (n + 1) = wrap64 (n + 1) := IntWalk.i64_left _
  cases bd <;> cases tst <;> simp only [Bool.and_true, Bool.and_false, Bool.false_eq_true, if_false, if_true] at HI
  all_goals
    go_enter Tryz.func64, Tryz.ntmps64
    go_wp2_with (go_at_call 47; refine HI.out.mono ?_; clear HI; rintro e w3 hq; obtain ⟨hb3, k, h, B3, n3, c3, x, rfl, hrc⟩ := hq.open; clear hq; have z := E1.out.mov hb3; have z0 := z.cell 0; have z1 := z.cell 1; have z2 := z.cell 2; have y0 := z.frozen 0; have y1 := z.frozen 1; have y2 := z.frozen 2; have HZ := Lib.hid z; clear z)
    refine bodyPost_ret (res_tm rfl _ _ _ _ _ _ rfl (HZ.out.set3 (.int .i64 k) (.int .i64 h) (.slice B3 n3 c3))) rfl ?_
    exact ((hrc.set3 (.inr rfl) _ _ _).less (fun k q => .inl q)).close (bl_set3 (bl_then HB0.out hb3) (Nat.le_succ _))

theorem fillL_each (th : List Tm) (b : Bool) (ts : List Tm) (n : Int) : ∀ (m i : Nat), i + m = ts.length →
    eachX (fun j t => fillF th t (lastN b (ts.drop (j + 1)) n)) i (ts.drop i) = fillL th b (ts.drop i) n
  | 0, i, h => by
    rw [List.drop_eq_nil_of_le (by omega), eachX, fillL]
  | m + 1, i, h => by
    have hlt : i < ts.length := by omega
    rw [List.drop_eq_getElem_cons hlt, eachX, fillL, fillL_each th b ts n m (i + 1) (by omega)]
theorem cnt_mem {e : Tm} : ∀ {l : List Tm}, e ∈ l → cnt e ≤ cntL l
  | [], h => by cases h
  | y :: l, h => by
    rw [cntL]
    rcases List.mem_cons.1 h with rfl | h
    · omega
    · have := cnt_mem h; omega

theorem fillF_err {th : List Tm} {k h n e : Int} {a : List Tm} (q : fillL th (isB k) a n = .error e) : fillF th ⟨k, h, a⟩ n = .error e := by rw [fillF, q]
theorem fillF_node {th : List Tm} {k h n : Int} {a l : List Tm} (q : fillL th (isB k) a n = .ok l) (hk : ¬ k = 6) : fillF th ⟨k, h, a⟩ n = .ok ⟨k, h, l⟩ := by rw [fillF, q]; simp [hk]
theorem fillF_scope {th : List Tm} {h n : Int} {a l : List Tm} (q : fillL th (isB 6) a n = .ok l) (hs : (th.length : Int) ≤ h) : fillF th ⟨6, h, a⟩ n = .error 2 := by rw [fillF, q]; simp [hs]
theorem fillF_lim {th : List Tm} {h n : Int} {a l : List Tm} (q : fillL th (isB 6) a n = .ok l) (hs : ¬ (th.length : Int) ≤ h) (hm : (l.any fun t => !mayB t) = true) : fillF th ⟨6, h, a⟩ n = .error 4 := by rw [fillF, q]; simp only [if_true, hs, if_false, hm]
theorem fillF_app {th : List Tm} {n : Int} {a l : List Tm} {j : Nat} (q : fillL th (isB 6) a n = .ok l) (hj : j < th.length) (hm : (l.any fun t => !mayB t) = false) : fillF th ⟨6, j, a⟩ n = apF th[j] ⟨l, n⟩ := by
  rw [fillF, q]
  have hs : ¬ (th.length : Int) ≤ (j : Int) := by omega
  simp only [if_true, hs, if_false, hm, Int.toNat_natCast, List.getElem?_eq_getElem hj, Option.getD_some, Bool.false_eq_true]


theorem fill_fits {B : Int} (hB0 : 0 ≤ B) {th : List Tm} {b : Bool} {a us : List Tm} {n : Int} {c : Nat} (hf : FilOk B th (1 + c) n) (hc : cntL a ≤ c) (hc2 : c ≤ 1048576) (hb : hBL B a) (q : fillL th b a n = .ok us) (hm : (us.any fun t => !mayB t) = false) : ∀ e ∈ us, hB (B + stepB * (cntL a : Int)) e ∧ cnt e ≤ 4000 := fun e he => by
  obtain ⟨p1, p2, p3⟩ := fillL_bnd (c := c) hB0 (hf.less (by omega)) hc hc2 hb q
  refine ⟨hBL_iff.1 p1 e he, ?_⟩
  have hme : mayB e = true := by
    have := List.any_eq_false.1 hm e he
    simpa using this
  exact may_cnt hme (by have := cnt_mem he; omega)

set_option maxHeartbeats 16000000 in
theorem fill_calls (th : List Tm) (Y : Option Addr) (cy : Nat) (hcy : th.length ≤ cy) (B : Int) (hB0 : 0 ≤ B) (t : Tm) :
    ∀ (S : Nat → Prop) (A : Option Addr) (c : Nat) (n : Int) (w : World), (∀ k, S k → k < w.heap.size) → Reads S w A t.a → t.a.length ≤ c → ReadsE S w Y th → FilOk B th (cnt t) n → hB B t → cnt t ≤ 1048576 →
    Calls Tryz.prog 47 #[.agg #[.int .i64 t.k, .int .i64 t.h, .slice A t.a.length c], .slice Y th.length cy, .int .i64 n] w (RetQ S (fillF th t n) w) := by
  induction t using Tm.ind with
  | h t ih =>
  intro S A c n w hS hr hc hth hfi hbt hcn
  obtain ⟨kk, hh, ts⟩ := t
  dsimp only at hr hc ih ⊢
  rw [hB] at hbt
  have hh0 := mayN_head hbt.1
  have hlen := hr.len
  have hlt := hth.len
  unfold lim at hlen hlt
  have hcn' := hcn
  rw [cnt] at hcn'
  have hb5 : Below w.heap.size w (((((w.alloc (.cells #[.int .i64 kk, .int .i64 hh, .slice A ts.length c] 25)).alloc (.cells #[.slice Y th.length cy] 23)).alloc (.cells #[.int .i64 n] 3)).alloc (.cells #[.int .i64 0, .int .i64 0, .slice none 0 0] 25)).alloc (.cells #[.bool (isB kk)] 4)) := bl_alloc (bl_alloc (bl_alloc (bl_alloc (bl_alloc (Below.refl _ _) _) _) _) _) _
  have HBB := Lib.hid hb5
  have E0 : Hid (Blk (((((w.alloc (.cells #[.int .i64 kk, .int .i64 hh, .slice A ts.length c] 25)).alloc (.cells #[.slice Y th.length cy] 23)).alloc (.cells #[.int .i64 n] 3)).alloc (.cells #[.int .i64 0, .int .i64 0, .slice none 0 0] 25)).alloc (.cells #[.bool (isB kk)] 4)) w.heap.size #[.int .i64 kk, .int .i64 hh, .slice A ts.length c] 25) := ((((Blk.nw _ _ _ _ rfl).al _).al _).al _).al _
  have E1 : Hid (Boxed (((((w.alloc (.cells #[.int .i64 kk, .int .i64 hh, .slice A ts.length c] 25)).alloc (.cells #[.slice Y th.length cy] 23)).alloc (.cells #[.int .i64 n] 3)).alloc (.cells #[.int .i64 0, .int .i64 0, .slice none 0 0] 25)).alloc (.cells #[.bool (isB kk)] 4)) (w.heap.size + 1) 23 (.slice Y th.length cy)) := (((Blk.nw (w.alloc (.cells #[.int .i64 kk, .int .i64 hh, .slice A ts.length c] 25)) #[.slice Y th.length cy] 23 (w.heap.size + 1) (by simp)).al _).al _).al _
  have E2 : Hid (Boxed (((((w.alloc (.cells #[.int .i64 kk, .int .i64 hh, .slice A ts.length c] 25)).alloc (.cells #[.slice Y th.length cy] 23)).alloc (.cells #[.int .i64 n] 3)).alloc (.cells #[.int .i64 0, .int .i64 0, .slice none 0 0] 25)).alloc (.cells #[.bool (isB kk)] 4)) (w.heap.size + 1 + 1) 3 (.int .i64 n)) := ((Blk.nw ((w.alloc (.cells #[.int .i64 kk, .int .i64 hh, .slice A ts.length c] 25)).alloc (.cells #[.slice Y th.length cy] 23)) #[.int .i64 n] 3 (w.heap.size + 1 + 1) (by simp)).al _).al _
  have E3 : Hid (Blk (((((w.alloc (.cells #[.int .i64 kk, .int .i64 hh, .slice A ts.length c] 25)).alloc (.cells #[.slice Y th.length cy] 23)).alloc (.cells #[.int .i64 n] 3)).alloc (.cells #[.int .i64 0, .int .i64 0, .slice none 0 0] 25)).alloc (.cells #[.bool (isB kk)] 4)) (w.heap.size + 1 + 1 + 1) #[.int .i64 0, .int .i64 0, .slice none 0 0] 25) := (Blk.nw _ _ _ _ (by simp)).al _
  have E4 : Hid (Boxed (((((w.alloc (.cells #[.int .i64 kk, .int .i64 hh, .slice A ts.length c] 25)).alloc (.cells #[.slice Y th.length cy] 23)).alloc (.cells #[.int .i64 n] 3)).alloc (.cells #[.int .i64 0, .int .i64 0, .slice none 0 0] 25)).alloc (.cells #[.bool (isB kk)] 4)) (w.heap.size + 1 + 1 + 1 + 1) 4 (.bool (isB kk))) := Blk.nw _ _ _ _ (by simp)
  have HT5 : ∀ k, k < w.heap.size → ¬ S k → ¬ (S k ∨ (w.heap.size ≤ k ∧ k ≤ w.heap.size + 4)) := fun k hk hn q => q.elim hn (fun q => by omega)
  have HR : Hid (Reads (fun k => S k ∨ (w.heap.size ≤ k ∧ k ≤ w.heap.size + 4)) _ A ts) := Lib.hid (hr.step HT5 (fun k hk _ => hb5.block k hk))
  have HTH : Hid (ReadsE (fun k => S k ∨ (w.heap.size ≤ k ∧ k ≤ w.heap.size + 4)) _ Y th) := Lib.hid (hth.step HT5 hb5)
  have IH := Lib.hid ih
  have HSS := Lib.hid hS
  have HFI := Lib.hid hfi
  have HBT := Lib.hid hbt
  have HCN := Lib.hid hcn
  have HCN' := Lib.hid hcn'
  clear ih hS hr hth hfi hbt hcn hcn' HT5 hb5
  go_enter Tryz.func47, Tryz.ntmps47
  go_upto_region 1 with fail
  go_cut [8] (fun s8 wx => s8 = .pointer (some ⟨w.heap.size + 1 + 1 + 1 + 1, 0, none⟩) ∧ wx = (((((w.alloc (.cells #[.int .i64 kk, .int .i64 hh, .slice A ts.length c] 25)).alloc (.cells #[.slice Y th.length cy] 23)).alloc (.cells #[.int .i64 n] 3)).alloc (.cells #[.int .i64 0, .int .i64 0, .slice none 0 0] 25)).alloc (.cells #[.bool (isB kk)] 4)))
  case first =>
    by_cases hk1 : kk = 1
    · subst hk1
      go_wp2_with fail
      go_meet
      exact ⟨rfl, rfl⟩
    · by_cases hk3 : kk = 3
      · subst hk3
        go_wp2_with fail
        go_meet
        exact ⟨rfl, rfl⟩
      · go_wp2_with fail
        go_meet
        exact ⟨rfl, by unfold isB; rfl⟩
  case rest =>
    obtain ⟨rfl, rfl⟩ := hcut
    by_cases h6 : kk = 6
    · subst h6
      by_cases hsc : (th.length : Int) ≤ hh
      · go_wp2_with (first
          | (go_at_call 43
             go_loud (
             refine (eachX_calls 64 (enters_of Tryz.func64 (by kernel_rfl) rfl) #[] #[.pointer (some ⟨w.heap.size + 1 + 1 + 1 + 1, 0, none⟩), .pointer (some ⟨w.heap.size, 0, none⟩), .pointer (some ⟨w.heap.size + 1, 0, none⟩), .pointer (some ⟨w.heap.size + 1 + 1, 0, none⟩)]
               (fun j t => fillF th t (lastN (isB 6) (ts.drop (j + 1)) n)) (fun k => S k ∨ (w.heap.size ≤ k ∧ k ≤ w.heap.size + 4)) ts A c _ ?hs ?hd ?hr).mono ?_
             case hs => exact fun k q => by (rcases q with q | q; (have := HSS.out k q; have := HBB.out.size; omega); (have := E4.out.lt; omega))
             case hr => exact HR.out
             case hd =>
               intro i hi S2 B2 d W2 h1 h1b h2 h3 h4
               have hnn := lastN_tst (kk := 6) (n := n) hi
               have hci := cnt_mem (List.getElem_mem hi)
               refine fill1_calls S2 (w.heap.size + 1 + 1 + 1 + 1) w.heap.size (w.heap.size + 1) (w.heap.size + 1 + 1) (isB 6) (6) (hh) n A Y ts.length c th.length cy i ts[i] B2 d _ W2 h1 (boxed_mov E4.out h2) (E0.out.mov h2) (boxed_mov E1.out h2) (boxed_mov E2.out h2) (by unfold lim; omega) ?_ h3
               intro W3 hb3 S3 h5 h5b h6
               rw [show (if (isB 6 && ((i : Int) == (ts.length : Int) - 1)) = true then wrap64 (n + 1) else n) = lastN (isB 6) (ts.drop (i + 1)) n from hnn.symm]
               exact IH.out ts[i] (List.getElem_mem hi) S3 B2 d _ W3 h5 h6 h4 (HTH.out.step (fun k hk hn q => hn (h1b k hk (h5b k (by have := h2.size; omega) q))) (bl_then h2 hb3)) ((HFI.out).last (by rw [cnt]; omega) _ _) (hBL_iff.1 HBT.out.2.2 _ (List.getElem_mem hi)) (by have := HCN'.out; omega)
             clear IH
             rintro e w4 ⟨hb4, hor⟩
             have z := E3.out.mov hb4
             have z0 := z.cell 0
             have z1 := z.cell 1
             have z2 := z.cell 2
             have y0 := z.frozen 0
             have y1 := z.frozen 1
             have y2 := z.frozen 2
             have o := E0.out.mov hb4
             have o0 := o.cell 0
             have o1 := o.cell 1
             have ol := o.lt
             have t0 := (boxed_mov E1.out hb4).cell
             have n0 := (boxed_mov E2.out hb4).cell
             have HZ := Lib.hid z
             have hw4 := bl_then HBB.out hb4
             clear z o
             have he := fillL_each th (isB 6) ts n ts.length 0 (by omega)
             rw [List.drop_zero] at he
             rw [he] at hor
             clear he
             rcases hor with (⟨x, hcn, hx0, rfl⟩ | ⟨us, B4, c4, hcs, rfl, hc4, hr4⟩))))
        · exact bodyPost_ret (res_tm rfl _ _ _ _ _ _ rfl (HZ.out.set3 (.int .i64 0) (.int .i64 0) (.slice none 0 0))) rfl ⟨bl_set3 hw4 (by omega), .inl ⟨x, fillF_err hcn, hx0, rfl⟩⟩
        · exact bodyPost_ret (res_tm rfl _ _ _ _ _ _ rfl (HZ.out.set3 (.int .i64 0) (.int .i64 0) (.slice none 0 0))) rfl ⟨bl_set3 hw4 (by omega), .inl ⟨2, fillF_scope hcs hsc, by decide, rfl⟩⟩
      · obtain ⟨j, rfl⟩ := Int.eq_ofNat_of_zero_le hh0
        have hj : j < th.length := by omega
        go_upto_region 11 with (first
          | (go_at_call 43
             go_loud (
             refine (eachX_calls 64 (enters_of Tryz.func64 (by kernel_rfl) rfl) #[] #[.pointer (some ⟨w.heap.size + 1 + 1 + 1 + 1, 0, none⟩), .pointer (some ⟨w.heap.size, 0, none⟩), .pointer (some ⟨w.heap.size + 1, 0, none⟩), .pointer (some ⟨w.heap.size + 1 + 1, 0, none⟩)]
               (fun j t => fillF th t (lastN (isB 6) (ts.drop (j + 1)) n)) (fun k => S k ∨ (w.heap.size ≤ k ∧ k ≤ w.heap.size + 4)) ts A c _ ?hs ?hd ?hr).mono ?_
             case hs => exact fun k q => by (rcases q with q | q; (have := HSS.out k q; have := HBB.out.size; omega); (have := E4.out.lt; omega))
             case hr => exact HR.out
             case hd =>
               intro i hi S2 B2 d W2 h1 h1b h2 h3 h4
               have hnn := lastN_tst (kk := 6) (n := n) hi
               have hci := cnt_mem (List.getElem_mem hi)
               refine fill1_calls S2 (w.heap.size + 1 + 1 + 1 + 1) w.heap.size (w.heap.size + 1) (w.heap.size + 1 + 1) (isB 6) (6) ((j : Int)) n A Y ts.length c th.length cy i ts[i] B2 d _ W2 h1 (boxed_mov E4.out h2) (E0.out.mov h2) (boxed_mov E1.out h2) (boxed_mov E2.out h2) (by unfold lim; omega) ?_ h3
               intro W3 hb3 S3 h5 h5b h6
               rw [show (if (isB 6 && ((i : Int) == (ts.length : Int) - 1)) = true then wrap64 (n + 1) else n) = lastN (isB 6) (ts.drop (i + 1)) n from hnn.symm]
               exact IH.out ts[i] (List.getElem_mem hi) S3 B2 d _ W3 h5 h6 h4 (HTH.out.step (fun k hk hn q => hn (h1b k hk (h5b k (by have := h2.size; omega) q))) (bl_then h2 hb3)) ((HFI.out).last (by rw [cnt]; omega) _ _) (hBL_iff.1 HBT.out.2.2 _ (List.getElem_mem hi)) (by have := HCN'.out; omega)
             clear IH
             rintro e w4 ⟨hb4, hor⟩
             have z := E3.out.mov hb4
             have z0 := z.cell 0
             have z1 := z.cell 1
             have z2 := z.cell 2
             have y0 := z.frozen 0
             have y1 := z.frozen 1
             have y2 := z.frozen 2
             have o := E0.out.mov hb4
             have o0 := o.cell 0
             have o1 := o.cell 1
             have ol := o.lt
             have t0 := (boxed_mov E1.out hb4).cell
             have n0 := (boxed_mov E2.out hb4).cell
             have HZ := Lib.hid z
             have hw4 := bl_then HBB.out hb4
             clear z o
             have he := fillL_each th (isB 6) ts n ts.length 0 (by omega)
             rw [List.drop_zero] at he
             rw [he] at hor
             clear he
             rcases hor with (⟨x, hcn, hx0, rfl⟩ | ⟨us, B4, c4, hcs, rfl, hc4, hr4⟩)))
          | (go_at_call 46
             refine (ContainsFuncT_calls 45 (enters_of Tryz.func45 (by kernel_rfl) rfl) #[] (fun t => !mayB t) us B4 c4 w4 (fun i hi B d W _ h2 h3 => oddM_calls _ _ _ _ h2 h3) (hr4.less (fun _ q => q.elim))).mono ?_
             rintro e w5 ⟨rfl, hb5⟩
             obtain ⟨an, han⟩ : ∃ b, (us.any fun t => !mayB t) = b := ⟨_, rfl⟩
             rw [han]
             have z := HZ.out.mov hb5
             have z0 := z.cell 0
             have z1 := z.cell 1
             have z2 := z.cell 2
             have y0 := z.frozen 0
             have y1 := z.frozen 1
             have y2 := z.frozen 2
             have HZ5 := Lib.hid z
             have hw5 := bl_then hw4 hb5
             clear z
             cases an))
        · exact bodyPost_ret (res_tm rfl _ _ _ _ _ _ rfl (HZ.out.set3 (.int .i64 0) (.int .i64 0) (.slice none 0 0))) rfl ⟨bl_set3 hw4 (by omega), .inl ⟨x, fillF_err hcn, hx0, rfl⟩⟩
        · have hl2 := fill_fits hB0 HFI.out (Nat.le_refl _) (by have := HCN'.out; omega) HBT.out.2.2 hcs han
          have hfe := fillF_app hcs hj han
          have hfit : (mayB th[j] && maySu ⟨us, n⟩) = true → Fit (.app 0 th[j] ⟨us, n⟩) := fun hmm => by
            have htop := HFI.out.top
            rw [Bool.and_eq_true] at hmm
            refine FitG.up (B := B + stepB * (cntL ts : Int)) ?_ (fit_app ((HFI.out.each _ (List.getElem_mem hj)).1.mono (by unfold stepB; omega)) hl2 hmm.2)
            rw [cnt] at htop
            unfold baseB stepB at *
            omega
          have hthj := (ReadsE.mov hb5 (ReadsE.mov hb4 HTH.out)).at hj
          obtain ⟨ad, Bj, dj, rfl, -, c0, c1, c2, hdj, hsj⟩ := hthj
          have HAP : Hid (∀ W, Below w5.heap.size w5 W → Calls Tryz.prog 65 #[.agg #[.int .i64 th[j].k, .int .i64 th[j].h, .slice Bj th[j].a.length dj], .agg #[.slice B4 us.length c4, .int .i64 n]] W (RetQ (fun k => S k ∨ (w.heap.size ≤ k ∧ k ≤ w.heap.size + 4)) (fillF th ⟨6, j, ts⟩ n) W)) :=
            fun W hb => (Apply_calls _ th[j] ⟨us, n⟩ Bj dj B4 c4 W (fun k q => by (rcases q with q | q; (have := HSS.out k q; have := hw5.size; have := hb.size; omega); (have := (boxed_mov (boxed_mov E4.out hb4) hb5).lt; have := hb.size; omega))) (hsj.mov hb) hdj ((hr4.mov hb5).mov hb) hc4 hfit).mono fun e w' q => by rw [hfe]; exact q.toQ
          have p := (E0.out.mov hb4).mov hb5
          have p1 := p.cell 1
          have pl := p.lt
          have q0 := (boxed_mov (boxed_mov E1.out hb4) hb5).cell
          have r0 := (boxed_mov (boxed_mov E2.out hb4) hb5).cell
          clear hl2 hfit hsj p
          go_region_law (rw [if_pos (by rfl)]; go_simp; go_at_call 65; refine (HAP.out _ (Below.refl _ _).drew).mono ?_; rintro e w6 hq; obtain ⟨hb6', k, h, B6, n6, c6, x, rfl, hrc⟩ := hq.open; have hb6 := bl_undrew hb6'; have z := HZ5.out.mov hb6; have z0 := z.cell 0; have z1 := z.cell 1; have z2 := z.cell 2; have y0 := z.frozen 0; have y1 := z.frozen 1; have y2 := z.frozen 2; have HZ6 := Lib.hid z; clear z hq)
          all_goals
            go_wp2_with fail
            refine bodyPost_ret (res_tm rfl _ _ _ _ _ _ rfl (HZ6.out.set3 (.int .i64 k) (.int .i64 h) (.slice B6 n6 c6))) rfl ?_
            exact ((hrc.set3 (.inr ⟨by omega, by omega⟩) _ _ _).less (fun k q => .inl q)).close (bl_set3 (bl_then hw5 hb6) (by omega))
        · exact bodyPost_ret (res_tm rfl _ _ _ _ _ _ rfl (HZ5.out.set3 (.int .i64 0) (.int .i64 0) (.slice none 0 0))) rfl ⟨bl_set3 hw5 (by omega), .inl ⟨4, fillF_lim hcs (by omega) han, by decide, rfl⟩⟩
    · go_wp2_with (first
        | (go_at_call 43
           go_loud (
           refine (eachX_calls 64 (enters_of Tryz.func64 (by kernel_rfl) rfl) #[] #[.pointer (some ⟨w.heap.size + 1 + 1 + 1 + 1, 0, none⟩), .pointer (some ⟨w.heap.size, 0, none⟩), .pointer (some ⟨w.heap.size + 1, 0, none⟩), .pointer (some ⟨w.heap.size + 1 + 1, 0, none⟩)]
             (fun j t => fillF th t (lastN (isB kk) (ts.drop (j + 1)) n)) (fun k => S k ∨ (w.heap.size ≤ k ∧ k ≤ w.heap.size + 4)) ts A c _ ?hs ?hd ?hr).mono ?_
           case hs => exact fun k q => by (rcases q with q | q; (have := HSS.out k q; have := HBB.out.size; omega); (have := E4.out.lt; omega))
           case hr => exact HR.out
           case hd =>
             intro i hi S2 B2 d W2 h1 h1b h2 h3 h4
             have hnn := lastN_tst (kk := kk) (n := n) hi
             have hci := cnt_mem (List.getElem_mem hi)
             refine fill1_calls S2 (w.heap.size + 1 + 1 + 1 + 1) w.heap.size (w.heap.size + 1) (w.heap.size + 1 + 1) (isB kk) (kk) (hh) n A Y ts.length c th.length cy i ts[i] B2 d _ W2 h1 (boxed_mov E4.out h2) (E0.out.mov h2) (boxed_mov E1.out h2) (boxed_mov E2.out h2) (by unfold lim; omega) ?_ h3
             intro W3 hb3 S3 h5 h5b h6
             rw [show (if (isB kk && ((i : Int) == (ts.length : Int) - 1)) = true then wrap64 (n + 1) else n) = lastN (isB kk) (ts.drop (i + 1)) n from hnn.symm]
             exact IH.out ts[i] (List.getElem_mem hi) S3 B2 d _ W3 h5 h6 h4 (HTH.out.step (fun k hk hn q => hn (h1b k hk (h5b k (by have := h2.size; omega) q))) (bl_then h2 hb3)) ((HFI.out).last (by rw [cnt]; omega) _ _) (hBL_iff.1 HBT.out.2.2 _ (List.getElem_mem hi)) (by have := HCN'.out; omega)
           clear IH
           rintro e w4 ⟨hb4, hor⟩
           have z := E3.out.mov hb4
           have z0 := z.cell 0
           have z1 := z.cell 1
           have z2 := z.cell 2
           have y0 := z.frozen 0
           have y1 := z.frozen 1
           have y2 := z.frozen 2
           have o := E0.out.mov hb4
           have o0 := o.cell 0
           have o1 := o.cell 1
           have ol := o.lt
           have t0 := (boxed_mov E1.out hb4).cell
           have n0 := (boxed_mov E2.out hb4).cell
           have HZ := Lib.hid z
           have hw4 := bl_then HBB.out hb4
           clear z o
           have he := fillL_each th (isB kk) ts n ts.length 0 (by omega)
           rw [List.drop_zero] at he
           rw [he] at hor
           clear he
           rcases hor with (⟨x, hcn, hx0, rfl⟩ | ⟨us, B4, c4, hcs, rfl, hc4, hr4⟩))))
      · exact bodyPost_ret (res_tm rfl _ _ _ _ _ _ rfl (HZ.out.set3 (.int .i64 0) (.int .i64 0) (.slice none 0 0))) rfl ⟨bl_set3 hw4 (by omega), .inl ⟨x, fillF_err hcn, hx0, rfl⟩⟩
      · exact bodyPost_ret (res_tm rfl _ _ _ _ _ _ rfl (HZ.out.set3 (.int .i64 kk) (.int .i64 hh) (.slice B4 us.length c4))) rfl ⟨bl_set3 hw4 (by omega), .inr ⟨⟨kk, hh, us⟩, B4, c4, fillF_node hcs h6, rfl, hc4, (hr4.set3 (.inr ⟨by omega, by omega⟩)).less (fun k q => .inl q)⟩⟩

set_option maxHeartbeats 16000000 in
theorem Fill_callsE (S : Nat → Prop) (th : List Tm) (Y : Option Addr) (cy : Nat) (hcy : th.length ≤ cy) (B : Int) (hB0 : 0 ≤ B) (htop : B + stepB * 4000 ≤ 1152921504606846976) (t : Tm) (A : Option Addr) (c : Nat) (n : Int) (w : World)
    (hS : ∀ k, S k → k < w.heap.size) (hr : Reads S w A t.a) (hc : t.a.length ≤ c) (hth : ReadsE S w Y th) (hbt : mayB t = true → hB B t) (hct : cnt t ≤ 1048576) (hbth : ∀ x ∈ th, (mayB x = true → hB B x) ∧ cnt x ≤ 1048576) :
    Calls Tryz.prog 25 #[.agg #[.int .i64 t.k, .int .i64 t.h, .slice A t.a.length c], .slice Y th.length cy, .int .i64 n] w (RetQ S (FillV th t n) w) := by
  have hlt := hth.len
  unfold lim at hlt
  have HB0 : Hid (Below w.heap.size w ((w.alloc (.cells #[.int .i64 t.k, .int .i64 t.h, .slice A t.a.length c] 25)).alloc (.cells #[.int .i64 0, .int .i64 0, .slice none 0 0] 25))) := bl_alloc (bl_alloc (Below.refl _ _) _) _
  have E0 : Hid (Blk ((w.alloc (.cells #[.int .i64 t.k, .int .i64 t.h, .slice A t.a.length c] 25)).alloc (.cells #[.int .i64 0, .int .i64 0, .slice none 0 0] 25)) w.heap.size #[.int .i64 t.k, .int .i64 t.h, .slice A t.a.length c] 25) := (Blk.nw _ _ _ _ rfl).al _
  have E1 : Hid (Blk ((w.alloc (.cells #[.int .i64 t.k, .int .i64 t.h, .slice A t.a.length c] 25)).alloc (.cells #[.int .i64 0, .int .i64 0, .slice none 0 0] 25)) (w.heap.size + 1) #[.int .i64 0, .int .i64 0, .slice none 0 0] 25) := Blk.nw _ _ _ _ (by simp)
  have HO := Lib.hid (fun (W : World) (hb : Below w.heap.size w W) => oddM_calls t A c W ((hr.less (fun _ q => q.elim)).mov hb) hc)
  have HOA := Lib.hid (fun (W : World) (hb : Below w.heap.size w W) => ContainsFuncT_calls 45 (enters_of Tryz.func45 (by kernel_rfl) rfl) #[] (fun t => !mayB t) th Y cy W (fun i hi B d W _ h2 h3 => oddM_calls _ _ _ _ h2 h3) (ReadsE.plain (ReadsE.mov hb (ReadsE.less (fun _ q => q.elim) hth))))
  have HFL : Hid (mayB t = true → ¬ n < 0 → ¬ 1000 < n → (th.any fun t => !mayB t) = false → ∀ W, Below w.heap.size w W → w.heap.size + 1 < W.heap.size → Calls Tryz.prog 47 #[.agg #[.int .i64 t.k, .int .i64 t.h, .slice A t.a.length c], .slice Y th.length cy, .int .i64 n] W (RetQ (fun k => S k ∨ k = w.heap.size + 1) (fillF th t n) W)) :=
    fun h1 h2 h3 h4 W hb hlt => by
      have hT : ∀ k, k < w.heap.size → ¬ S k → ¬ (S k ∨ k = w.heap.size + 1) := fun k hk hn q => q.elim hn (fun q => by omega)
      have hc4 := may_cnt h1 (by omega)
      refine fill_calls th Y cy hcy B hB0 t _ A c n W (fun k q => q.elim (fun q => Nat.lt_of_lt_of_le (hS k q) hb.size) (fun q => q ▸ hlt)) (hr.step hT (fun k hk _ => hb.block k hk)) hc (hth.step hT hb) ⟨by omega, by omega, fun x hx => ?_, by unfold stepB at *; omega⟩ (hbt h1) hct
      have hm : mayB x = true := by
        have := List.any_eq_false.1 h4 x hx
        simpa using this
      exact ⟨(hbth x hx).1 hm, may_cnt hm (by have := (hbth x hx).2; omega)⟩
  have HMU : Hid (∀ (u : Tm) (B3 : Option Addr) (c3 : Nat) (W : World), Reads (fun _ => False) W B3 u.a → u.a.length ≤ c3 → Calls Tryz.prog 45 #[.agg #[.int .i64 u.k, .int .i64 u.h, .slice B3 u.a.length c3]] W fun e w' => e = .returned (.bool (!mayB u)) ∧ Below W.heap.size W w') := fun u B3 c3 W h1 h2 => oddM_calls u B3 c3 W h1 h2
  have HV := Lib.hid (rfl : FillV th t n = FillV th t n)
  conv at HV => rhs; rhs; unfold FillV
  generalize FillV th t n = fv at *
  generalize (th.any fun t => !mayB t) = m4 at *
  obtain ⟨fr, hfr⟩ : ∃ fr, fillF th t n = fr := ⟨_, rfl⟩
  rw [hfr] at HFL HV
  clear hr hth hfr hbt hbth
  generalize mayB t = m0 at *
  cases m0
  · go_enter Tryz.func25, Tryz.ntmps25
    go_wp2_with (first
      | (go_at_call 45; refine (HO.out _ HB0.out).mono ?_; clear HO; rintro e w1 ⟨rfl, hb1⟩; have z := E1.out.mov hb1; have z0 := z.cell 0; have z1 := z.cell 1; have z2 := z.cell 2; have y0 := z.frozen 0; have y1 := z.frozen 1; have y2 := z.frozen 2; have HZ := Lib.hid z; have HWZ := Lib.hid (bl_then HB0.out hb1); clear z))
    refine bodyPost_ret (res_tm rfl _ _ _ _ _ _ rfl (HZ.out.set3 (.int .i64 0) (.int .i64 0) (.slice none 0 0))) rfl ⟨bl_set3 HWZ.out (Nat.le_succ _), .inl ⟨1, ?_, by decide, rfl⟩⟩
    exact HV.out
  by_cases h1 : n < 0
  · simp only [h1, decide_true, Bool.not_true, Bool.false_and, Bool.and_false, Bool.false_eq_true, if_false] at HV
    go_enter Tryz.func25, Tryz.ntmps25
    go_wp2_with (first
      | (go_at_call 45; refine (HO.out _ HB0.out).mono ?_; clear HO; rintro e w1 ⟨rfl, hb1⟩; have z := E1.out.mov hb1; have z0 := z.cell 0; have z1 := z.cell 1; have z2 := z.cell 2; have y0 := z.frozen 0; have y1 := z.frozen 1; have y2 := z.frozen 2; have HZ := Lib.hid z; have HWZ := Lib.hid (bl_then HB0.out hb1); clear z))
    refine bodyPost_ret (res_tm rfl _ _ _ _ _ _ rfl (HZ.out.set3 (.int .i64 0) (.int .i64 0) (.slice none 0 0))) rfl ⟨bl_set3 HWZ.out (Nat.le_succ _), .inl ⟨1, ?_, by decide, rfl⟩⟩
    exact HV.out
  by_cases h2 : 1000 < n
  · simp only [h2, decide_true, Bool.not_true, Bool.false_and, Bool.and_false, Bool.false_eq_true, if_false] at HV
    go_enter Tryz.func25, Tryz.ntmps25
    go_wp2_with (first
      | (go_at_call 45; refine (HO.out _ HB0.out).mono ?_; clear HO; rintro e w1 ⟨rfl, hb1⟩; have z := E1.out.mov hb1; have z0 := z.cell 0; have z1 := z.cell 1; have z2 := z.cell 2; have y0 := z.frozen 0; have y1 := z.frozen 1; have y2 := z.frozen 2; have HZ := Lib.hid z; have HWZ := Lib.hid (bl_then HB0.out hb1); clear z))
    refine bodyPost_ret (res_tm rfl _ _ _ _ _ _ rfl (HZ.out.set3 (.int .i64 0) (.int .i64 0) (.slice none 0 0))) rfl ⟨bl_set3 HWZ.out (Nat.le_succ _), .inl ⟨1, ?_, by decide, rfl⟩⟩
    exact HV.out
  by_cases h3 : 200 < (th.length : Int)
  · simp only [h3, decide_true, Bool.not_true, Bool.false_and, Bool.and_false, Bool.false_eq_true, if_false] at HV
    go_enter Tryz.func25, Tryz.ntmps25
    go_wp2_with (first
      | (go_at_call 45; refine (HO.out _ HB0.out).mono ?_; clear HO; rintro e w1 ⟨rfl, hb1⟩; have z := E1.out.mov hb1; have z0 := z.cell 0; have z1 := z.cell 1; have z2 := z.cell 2; have y0 := z.frozen 0; have y1 := z.frozen 1; have y2 := z.frozen 2; have HZ := Lib.hid z; have HWZ := Lib.hid (bl_then HB0.out hb1); clear z))
    refine bodyPost_ret (res_tm rfl _ _ _ _ _ _ rfl (HZ.out.set3 (.int .i64 0) (.int .i64 0) (.slice none 0 0))) rfl ⟨bl_set3 HWZ.out (Nat.le_succ _), .inl ⟨1, ?_, by decide, rfl⟩⟩
    exact HV.out
  cases m4
  · have HFL2 := Lib.hid (HFL.out rfl h1 h2 rfl)
    clear HFL
    simp only [h1, h2, h3, decide_false, Bool.not_false, Bool.and_self, if_true] at HV
    go_enter Tryz.func25, Tryz.ntmps25
    go_wp2_with (first
      | (go_at_call 45; refine (HO.out _ HB0.out).mono ?_; clear HO; rintro e w1 ⟨rfl, hb1⟩; have hw1 := bl_then HB0.out hb1)
      | (go_at_call 46; refine (HOA.out _ hw1).mono ?_; clear HOA; rintro e w2 ⟨rfl, hb2⟩; have hw2 := bl_then hw1 hb2; have q := (E0.out.mov hb1).mov hb2; have q0 := q.cell 0; have q1 := q.cell 1; have q2 := q.cell 2; clear q)
      | (go_at_call 47; refine (HFL2.out _ hw2 ((E1.out.mov hb1).mov hb2).lt).mono ?_; clear HFL2; rintro e w3 ⟨hb3, hor⟩; have hw3 := bl_then hw2 hb3; have z := ((E1.out.mov hb1).mov hb2).mov hb3; have z0 := z.cell 0; have z1 := z.cell 1; have z2 := z.cell 2; have y0 := z.frozen 0; have y1 := z.frozen 1; have y2 := z.frozen 2; have zl := z.lt; have HZ := Lib.hid z; clear z q0 q1 q2; rcases hor with ⟨x, rfl, hx0, rfl⟩ | ⟨u, B3, c3, rfl, rfl, hc3, hr3⟩)
      | (go_at_call 45; refine (HMU.out u B3 c3 _ ((hr3.less (fun _ q => q.elim)).mov (bl_alloc (Below.refl _ _) _)) hc3).mono ?_; clear HMU; obtain ⟨mu, hmu⟩ : ∃ b, mayB u = b := ⟨_, rfl⟩; rw [hmu]; rintro e w4 ⟨rfl, hb4⟩; have hb4' := bl_then (bl_alloc (Below.refl w3.heap.size w3) (.cells #[.int .i64 u.k, .int .i64 u.h, .slice B3 u.a.length c3] 25)) hb4; have hw4 := bl_then hw3 hb4'; have z := HZ.out.mov hb4'; have z0 := z.cell 0; have z1 := z.cell 1; have z2 := z.cell 2; have y0 := z.frozen 0; have y1 := z.frozen 1; have y2 := z.frozen 2; have zl4 := z.lt; have HZ4 := Lib.hid z; clear z; have q := (Blk.new w3 #[.int .i64 u.k, .int .i64 u.h, .slice B3 u.a.length c3] 25).mov hb4; have q0 := q.cell 0; have q1 := q.cell 1; have q2 := q.cell 2; clear q; cases mu))
    · exact bodyPost_ret (res_tm rfl _ _ _ _ _ _ rfl ((HZ.out.set3 (.int .i64 0) (.int .i64 0) (.slice none 0 0)).al _)) rfl ⟨bl_alloc (bl_set3 hw3 (Nat.le_succ _)) _, .inl ⟨x, HV.out, hx0, rfl⟩⟩
    · refine bodyPost_ret (res_tm rfl _ _ _ _ _ _ rfl (HZ4.out.set3 (.int .i64 0) (.int .i64 0) (.slice none 0 0))) rfl ⟨bl_set3 hw4 (Nat.le_succ _), .inl ⟨4, ?_, by decide, rfl⟩⟩
      rw [HV.out]
      simp only [hmu, Bool.false_eq_true, if_false]
    · refine bodyPost_ret (res_tm rfl _ _ _ _ _ _ rfl (HZ4.out.set3 (.int .i64 u.k) (.int .i64 u.h) (.slice B3 u.a.length c3))) rfl ⟨bl_set3 hw4 (Nat.le_succ _), .inr ⟨u, B3, c3, ?_, rfl, hc3, (((hr3.mov hb4').set3 (.inr rfl)).less (fun k q => .inl q))⟩⟩
      rw [HV.out]
      simp only [hmu, if_true]
  · simp only [Bool.not_true, Bool.and_false, Bool.false_eq_true, if_false] at HV
    go_enter Tryz.func25, Tryz.ntmps25
    go_wp2_with (first
      | (go_at_call 45; refine (HO.out _ HB0.out).mono ?_; clear HO; rintro e w1 ⟨rfl, hb1⟩; have hw1 := bl_then HB0.out hb1)
      | (go_at_call 46; refine (HOA.out _ hw1).mono ?_; clear HOA; rintro e w2 ⟨rfl, hb2⟩; have HWZ := Lib.hid (bl_then hw1 hb2); have z := (E1.out.mov hb1).mov hb2; have z0 := z.cell 0; have z1 := z.cell 1; have z2 := z.cell 2; have y0 := z.frozen 0; have y1 := z.frozen 1; have y2 := z.frozen 2; have HZ := Lib.hid z; clear z))
    refine bodyPost_ret (res_tm rfl _ _ _ _ _ _ rfl (HZ.out.set3 (.int .i64 0) (.int .i64 0) (.slice none 0 0))) rfl ⟨bl_set3 HWZ.out (Nat.le_succ _), .inl ⟨1, ?_, by decide, rfl⟩⟩
    exact HV.out
theorem Fill_calls (S : Nat → Prop) (th : List Tm) (Y : Option Addr) (cy : Nat) (hcy : th.length ≤ cy) (B : Int) (hB0 : 0 ≤ B) (htop : B + stepB * 4000 ≤ 1152921504606846976) (t : Tm) (A : Option Addr) (c : Nat) (n : Int) (w : World)
    (hS : ∀ k, S k → k < w.heap.size) (hr : Reads S w A t.a) (hc : t.a.length ≤ c) (hth : Reads S w Y th) (hbt : mayB t = true → hB B t) (hct : cnt t ≤ 1048576) (hbth : ∀ x ∈ th, (mayB x = true → hB B x) ∧ cnt x ≤ 1048576) :
    Calls Tryz.prog 25 #[.agg #[.int .i64 t.k, .int .i64 t.h, .slice A t.a.length c], .slice Y th.length cy, .int .i64 n] w (RetQ S (FillV th t n) w) :=
  Fill_callsE S th Y cy hcy B hB0 htop t A c n w hS hr hc hth.toE hbt hct hbth
end Go.Proofs.YtbmmdfehhhgkcaaGreat
