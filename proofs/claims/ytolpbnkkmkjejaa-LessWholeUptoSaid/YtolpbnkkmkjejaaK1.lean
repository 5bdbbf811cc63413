/- The contracts of the tests of package less. -/
import Derived.Test.YtolpbnkkmkjejaaLF
import Derived.Test.YtolpbnkkmkjejaaRF
import Derived.Test.YtolpbnkkmkjejaaO10
import Derived.Test.YtolpbnkkmkjejaaO11
namespace Go.Proofs.Ytolpbnkkmkjejaa
open Go.RowKit Go.Shelf
set_option linter.unusedVariables false
set_option linter.unusedSimpArgs false

theorem Metas_ret (t : Tm) (A : Option Addr) (c : Nat) (w : World) (hr : Reads (fun _ => False) w A t.a) (hc : t.a.length ≤ c) (hk : okT t) (hn : cnt t ≤ 1048576) :
    Calls Try.prog 15 #[.agg #[.int .i64 t.k, .int .i64 t.h, .slice A t.a.length c]] w (RetS ((nodesW t 0).foldl stepM []) w) :=
  (Metas_calls t A c w hr hc hk (by unfold limI; omega)).mono fun e w' ⟨⟨l, B, c', h1, _, _, h4, h5, h6⟩, hb⟩ => by
    have hf := foldM_rise (nodesW t 0) [] List.Pairwise.nil
    obtain rfl : l = (nodesW t 0).foldl stepM [] := rise_unique h5 hf.1 fun x => (h6 x).trans ((hf.2 x).trans (by simp)).symm
    exact ⟨⟨B, c', h1, h4⟩, hb⟩

theorem bl_drewN {a w : World} (h : Below a.heap.size a w) (n : Nat) : Below a.heap.size a (w.drewN n) := ⟨h.os, h.tape, h.output, h.size, h.block⟩

def totB (fs : List Fu) (x : Cl) : Bool := decide (0 ≤ x.f) && (decide (x.f < (fs.length : Int)) && ((fs[x.f.toNat]?.map (·.tot)).getD false))
def metB (c : Cs) (x : Cl) : Bool := (x.arg.k == 6) && (decide (0 ≤ x.arg.h) && decide (x.arg.h < (c.ms.length : Int)))
def plainB (t : Tm) : Bool := (t.k == 4) && !decide (0 < t.a.length)
def renB (x : Cl) : Bool := x.arg.a.all plainB
def partB (c : Cs) (x : Cl) : Bool := (c.p.k != 6) && decide (x.arg.h ∈ (nodesW c.p 0).foldl stepM [])
def lessB (fs : List Fu) (c : Cs) (x : Cl) : Bool := totB fs x && (metB c x && (renB x && partB c x))

set_option maxHeartbeats 4000000 in
theorem total_calls (fs : List Fu) (A : Option Addr) (a : Nat) (y : Cs) (x : Cl) (ks xs : List Value) (w : World) (hr : Row eF 13 (fun _ => False) w A fs) (hk : eK (fun _ => False) w ks y) (hx : eC (fun _ => False) w xs x) :
    Calls Try.prog 24 #[.agg (.slice A fs.length a :: (ks ++ xs)).toArray] w fun e w' => e = .returned (.bool (totB fs x)) ∧ Below w.heap.size w w' := by
  have hlen := hr.1
  unfold lim at hlen
  obtain ⟨A1, a1, B1, b1, C1, c1, D1, d1, E1, e1, rfl, -⟩ := hk
  obtain ⟨A2, a2, B2, b2, C2, c2, rfl, -⟩ := hx
  have hT : totB fs x = (decide (0 ≤ x.f) && (decide (x.f < (fs.length : Int)) && ((fs[x.f.toNat]?.map (·.tot)).getD false))) := rfl
  rcases Int.lt_or_le x.f 0 with h0 | h0
  · rw [decide_eq_false (by omega)] at hT
    have HT := Lib.hid hT
    clear hT
    go_enter Try.func24, Try.ntmps24
    go_wp2_with fail
    go_ret
    exact ⟨ret_bool HT.out.symm, bl_alloc (Below.refl _ _) _⟩
  rcases Int.lt_or_le x.f (fs.length : Int) with h1 | h1
  rotate_left
  · rw [decide_eq_true h0, decide_eq_false (by omega)] at hT
    have HT := Lib.hid hT
    clear hT
    go_enter Try.func24, Try.ntmps24
    go_wp2_with fail
    go_ret
    exact ⟨ret_bool HT.out.symm, bl_alloc (Below.refl _ _) _⟩
  obtain ⟨n, hn⟩ : ∃ n : Nat, x.f = (n : Int) := ⟨x.f.toNat, by omega⟩
  have hlt : n < fs.length := by omega
  rw [hn] at hT h0 h1 ⊢
  rw [decide_eq_true h0, decide_eq_true h1, Int.toNat_natCast, List.getElem?_eq_getElem hlt] at hT
  have HT := Lib.hid hT
  obtain ⟨ad, cs, rfl, -, hcl, k0, kj, hE⟩ := hr.at hlt
  obtain ⟨A3, a3, B3, b3, C3, c3, D3, d3, E3, e3, F3, f3, G3, g3, rfl, -⟩ := hE
  have q11 := cell_mov (kj 11 _ rfl) (bl_alloc (Below.refl _ _) (.cells #[.slice (some ad) fs.length a, .slice A1 y.ms.length a1, .slice B1 y.th.length b1, .int .i64 y.p.k, .int .i64 y.p.h, .slice C1 y.p.a.length c1, .slice D1 y.cs.length d1, .int .i64 y.r.k, .int .i64 y.r.h, .slice E1 y.r.a.length e1, .int .i64 (n : Int), .slice A2 x.ext.length a2, .slice B2 x.th.length b2, .int .i64 x.arg.k, .int .i64 x.arg.h, .slice C2 x.arg.a.length c2] 54))
  clear hT hn hcl k0 kj
  go_enter Try.func24, Try.ntmps24
  go_wp2_with fail
  go_ret
  exact ⟨ret_bool HT.out.symm, bl_alloc (Below.refl _ _) _⟩

set_option maxHeartbeats 4000000 in
theorem meta_calls (fs : List Fu) (A : Option Addr) (a : Nat) (y : Cs) (x : Cl) (ks xs : List Value) (w : World) (hk : eK (fun _ => False) w ks y) (hx : eC (fun _ => False) w xs x) :
    Calls Try.prog 25 #[.agg (.slice A fs.length a :: (ks ++ xs)).toArray] w fun e w' => e = .returned (.bool (metB y x)) ∧ Below w.heap.size w w' := by
  obtain ⟨A1, a1, B1, b1, C1, c1, D1, d1, E1, e1, rfl, ⟨-, hms⟩, -⟩ := hk
  obtain ⟨A2, a2, B2, b2, C2, c2, rfl, -⟩ := hx
  have hlen := hms.1
  unfold lim at hlen
  have hT : metB y x = ((x.arg.k == 6) && (decide (0 ≤ x.arg.h) && decide (x.arg.h < (y.ms.length : Int)))) := rfl
  cases h6 : (x.arg.k == 6)
  · rw [h6] at hT
    have HT := Lib.hid hT
    clear hT
    go_enter Try.func25, Try.ntmps25
    go_wp2_with fail
    go_ret
    exact ⟨ret_bool HT.out.symm, bl_alloc (bl_alloc (Below.refl _ _) _) _⟩
  cases h0 : decide (0 ≤ x.arg.h)
  · rw [h6, h0] at hT
    have HT := Lib.hid hT
    clear hT
    go_enter Try.func25, Try.ntmps25
    go_wp2_with fail
    go_ret
    exact ⟨ret_bool HT.out.symm, bl_alloc (bl_alloc (Below.refl _ _) _) _⟩
  cases h1 : decide (x.arg.h < (y.ms.length : Int))
  all_goals
    rw [h6, h0, h1] at hT
    have HT := Lib.hid hT
    clear hT
    go_enter Try.func25, Try.ntmps25
    go_wp2_with fail
    go_ret
    exact ⟨ret_bool HT.out.symm, bl_alloc (bl_alloc (Below.refl _ _) _) _⟩

set_option maxHeartbeats 2000000 in
theorem odd_calls (k h : Int) (A : Option Addr) (n c : Nat) (w : World) (hn : n ≤ lim) :
    Calls Try.prog 34 #[.agg #[.int .i64 k, .int .i64 h, .slice A n c]] w fun e w' => e = .returned (.bool ((k != 4) || decide (0 < n))) ∧ Below w.heap.size w w' := by
  unfold lim at hn
  cases h4 : (k != 4) <;> cases h0 : decide (0 < n)
  all_goals
    go_enter Try.func34, Try.ntmps34
    go_wp2_with fail
    go_ret
    exact ⟨rfl, bl_alloc (Below.refl _ _) _⟩

/-- A function value that tells of a term what q says. -/
def TellsT (w : World) (S : Nat → Prop) (kf : Nat) (cap : Array Value) (ts : List Tm) (q : Tm → Bool) : Prop :=
  ∀ (i : Nat) (hi : i < ts.length) (B : Option Addr) (d : Nat) (W : World), Below w.heap.size w W → Reads S W B ts[i].a → ts[i].a.length ≤ d →
    Calls Try.prog kf (#[.agg #[.int .i64 ts[i].k, .int .i64 ts[i].h, .slice B ts[i].a.length d]] ++ cap) W fun e W' => e = .returned (.bool (q ts[i])) ∧ Below W.heap.size W W'

structure IdxRel (q : Tm → Bool) (ts : List Tm) (w : World) (i : Nat) (wr : World) : Prop where
  le : i ≤ ts.length
  below : Below w.heap.size w wr
  no : (ts.take i).any q = false
theorem any_take {q : Tm → Bool} {ts : List Tm} {i : Nat} (hi : i < ts.length) (h : (ts.take i).any q = false) : (ts.take (i + 1)).any q = q ts[i] := by
  rw [List.take_add_one, List.any_append, h]
  simp [hi]

set_option maxHeartbeats 4000000 in
theorem IndexFuncT_calls (kf : Nat) (eg : ∀ args w, (callFunc kf args).run Try.prog w = .ok (.enter kf args) w) (cap : Array Value) (q : Tm → Bool) (ts : List Tm) (A : Option Addr) (c : Nat) (w : World) (hq : TellsT w (fun _ => False) kf cap ts q) (hr : Reads (fun _ => False) w A ts) :
    Calls Try.prog 41 #[.slice A ts.length c, .func (.func kf) #[] cap] w fun e w' => (∃ j : Int, e = .returned (.int .i64 j) ∧ decide (0 ≤ j) = ts.any q) ∧ Below w.heap.size w w' := by
  have hlen := hr.len
  unfold lim at hlen
  have HQ := Lib.hid hq
  clear hq
  go_enter Try.func41, Try.ntmps41
  go_wp2_with fail
  go_loopw [5, 8] (fun _ j wr => ∃ i : Nat, j = .int .i64 i ∧ IdxRel q ts w i wr) (fun _ j _ => ts.length - (intOf j).toNat)
  case atStart => exact ⟨0, rfl, Nat.zero_le _, Below.refl _ _, rfl⟩
  case round =>
    obtain ⟨i, rfl, hrel⟩ := hrel
    have hbw := hrel.below
    by_cases hlt : i < ts.length
    · obtain ⟨ad, B, d, rfl, -, c0, c1, c2, hd, hsub⟩ := (hr.mov hbw).at hlt
      have hc := HQ.out i hlt B d wr hbw hsub hd
      have ha := any_take hlt hrel.no
      cases hv : q ts[i]
      all_goals
        rw [hv] at hc ha
        have HC := Lib.hid hc
        have HA := Lib.hid ha
        clear hc ha hv
        go_wp2_with (refine HC.out.mono ?_; clear HC; rintro e w1 ⟨rfl, hb⟩)
      · exact ⟨⟨i + 1, by go_num, hlt, bl_then hbw hb, HA.out⟩, by simp [intOf]; omega⟩
      · go_ret
        refine ⟨⟨_, rfl, ?_⟩, bl_then hbw hb⟩
        have : ts.any q = true := by
          rw [← List.take_append_drop (i + 1) ts, List.any_append, HA.out]
          rfl
        rw [this]
        simp
    · obtain rfl : i = ts.length := by have := hrel.le; omega
      have hn := hrel.no
      rw [List.take_length] at hn
      have HN := Lib.hid hn
      clear hn hrel
      go_wp2_with fail
      go_ret
      exact ⟨⟨_, rfl, by rw [HN.out]; rfl⟩, hbw⟩

set_option maxHeartbeats 2000000 in
theorem ContainsFuncT_calls (kf : Nat) (eg : ∀ args w, (callFunc kf args).run Try.prog w = .ok (.enter kf args) w) (cap : Array Value) (q : Tm → Bool) (ts : List Tm) (A : Option Addr) (c : Nat) (w : World) (hq : TellsT w (fun _ => False) kf cap ts q) (hr : Reads (fun _ => False) w A ts) :
    Calls Try.prog 35 #[.slice A ts.length c, .func (.func kf) #[] cap] w fun e w' => e = .returned (.bool (ts.any q)) ∧ Below w.heap.size w w' := by
  have HI := Lib.hid (IndexFuncT_calls kf eg cap q ts A c w hq hr)
  go_enter Try.func35, Try.ntmps35
  go_wp2_with (go_at_call 41; refine HI.out.mono ?_; clear HI; rintro e w1 ⟨⟨j, rfl, hj⟩, hb⟩; have HJ := Lib.hid hj; clear hj)
  go_ret
  exact ⟨ret_bool HJ.out, hb⟩

set_option maxHeartbeats 4000000 in
theorem renamed_calls (fs : List Fu) (A : Option Addr) (a : Nat) (y : Cs) (x : Cl) (ks xs : List Value) (w : World) (hk : eK (fun _ => False) w ks y) (hx : eC (fun _ => False) w xs x) :
    Calls Try.prog 26 #[.agg (.slice A fs.length a :: (ks ++ xs)).toArray] w fun e w' => e = .returned (.bool (renB x)) ∧ Below w.heap.size w w' := by
  obtain ⟨A1, a1, B1, b1, C1, c1, D1, d1, E1, e1, rfl, -⟩ := hk
  obtain ⟨A2, a2, B2, b2, C2, c2, rfl, -, -, -, -, hc, hr⟩ := hx
  have hb0 : Below w.heap.size w (w.alloc (.cells #[.slice A fs.length a, .slice A1 y.ms.length a1, .slice B1 y.th.length b1, .int .i64 y.p.k, .int .i64 y.p.h, .slice C1 y.p.a.length c1, .slice D1 y.cs.length d1, .int .i64 y.r.k, .int .i64 y.r.h, .slice E1 y.r.a.length e1, .int .i64 x.f, .slice A2 x.ext.length a2, .slice B2 x.th.length b2, .int .i64 x.arg.k, .int .i64 x.arg.h, .slice C2 x.arg.a.length c2] 54)) := bl_alloc (Below.refl _ _) _
  have hC := ContainsFuncT_calls 34 (enters_of Try.func34 (by kernel_rfl) rfl) #[] (fun t => (t.k != 4) || decide (0 < t.a.length)) x.arg.a C2 c2 _ (fun i hi B d W _ h2 _ => odd_calls _ _ _ _ _ W h2.len) (hr.mov hb0)
  have hR : renB x = !(x.arg.a.any fun t => (t.k != 4) || decide (0 < t.a.length)) := by
    unfold renB
    rw [List.all_eq_not_any_not]
    congr 2
    funext t
    unfold plainB
    cases h : (t.k == 4) <;> simp [bne, h]
  have HC := Lib.hid hC
  have HR := Lib.hid hR
  have HB0 := Lib.hid hb0
  clear hC hR hb0
  generalize (x.arg.a.any fun t => (t.k != 4) || decide (0 < t.a.length)) = r at *
  go_enter Try.func26, Try.ntmps26
  go_wp2_with (go_at_call 35; refine HC.out.mono ?_; clear HC; rintro e w1 ⟨rfl, hb⟩)
  go_ret
  exact ⟨ret_bool HR.out.symm, bl_then HB0.out hb⟩

set_option maxHeartbeats 4000000 in
theorem part_calls (fs : List Fu) (A : Option Addr) (a : Nat) (y : Cs) (x : Cl) (ks xs : List Value) (w : World) (hk : eK (fun _ => False) w ks y) (hx : eC (fun _ => False) w xs x) (hp : gT 1048576 y.p) :
    Calls Try.prog 27 #[.agg (.slice A fs.length a :: (ks ++ xs)).toArray] w fun e w' => e = .returned (.bool (partB y x)) ∧ Below w.heap.size w w' := by
  obtain ⟨A1, a1, B1, b1, C1, c1, D1, d1, E1, e1, rfl, -, -, ⟨hc, hr⟩, -⟩ := hk
  obtain ⟨A2, a2, B2, b2, C2, c2, rfl, -⟩ := hx
  have hT : partB y x = ((y.p.k != 6) && decide (x.arg.h ∈ (nodesW y.p 0).foldl stepM [])) := rfl
  have hb0 : Below w.heap.size w (w.alloc (.cells #[.slice A fs.length a, .slice A1 y.ms.length a1, .slice B1 y.th.length b1, .int .i64 y.p.k, .int .i64 y.p.h, .slice C1 y.p.a.length c1, .slice D1 y.cs.length d1, .int .i64 y.r.k, .int .i64 y.r.h, .slice E1 y.r.a.length e1, .int .i64 x.f, .slice A2 x.ext.length a2, .slice B2 x.th.length b2, .int .i64 x.arg.k, .int .i64 x.arg.h, .slice C2 x.arg.a.length c2] 54)) := bl_alloc (Below.refl _ _) _
  have e0 := Blk.new w #[.slice A fs.length a, .slice A1 y.ms.length a1, .slice B1 y.th.length b1, .int .i64 y.p.k, .int .i64 y.p.h, .slice C1 y.p.a.length c1, .slice D1 y.cs.length d1, .int .i64 y.r.k, .int .i64 y.r.h, .slice E1 y.r.a.length e1, .int .i64 x.f, .slice A2 x.ext.length a2, .slice B2 x.th.length b2, .int .i64 x.arg.k, .int .i64 x.arg.h, .slice C2 x.arg.a.length c2] 54
  cases h6 : (y.p.k != 6)
  · rw [h6, Bool.false_and] at hT
    have HT := Lib.hid hT
    have HB0 := Lib.hid hb0
    clear hT hb0 e0
    go_enter Try.func27, Try.ntmps27
    go_wp2_with fail
    go_quiet (fail)
    go_wp2_with fail
    go_ret
    exact ⟨ret_bool HT.out.symm, bl_drewN HB0.out _⟩
  · rw [h6, Bool.true_and] at hT
    have HT := Lib.hid hT
    have HM := Lib.hid (fun (W : World) (hb : Below w.heap.size w W) => Metas_ret y.p C1 c1 W (hr.mov hb) hc hp.1 hp.2)
    have hcells : ∀ W : World, Below (w.alloc (.cells #[.slice A fs.length a, .slice A1 y.ms.length a1, .slice B1 y.th.length b1, .int .i64 y.p.k, .int .i64 y.p.h, .slice C1 y.p.a.length c1, .slice D1 y.cs.length d1, .int .i64 y.r.k, .int .i64 y.r.h, .slice E1 y.r.a.length e1, .int .i64 x.f, .slice A2 x.ext.length a2, .slice B2 x.th.length b2, .int .i64 x.arg.k, .int .i64 x.arg.h, .slice C2 x.arg.a.length c2] 54)).heap.size (w.alloc (.cells #[.slice A fs.length a, .slice A1 y.ms.length a1, .slice B1 y.th.length b1, .int .i64 y.p.k, .int .i64 y.p.h, .slice C1 y.p.a.length c1, .slice D1 y.cs.length d1, .int .i64 y.r.k, .int .i64 y.r.h, .slice E1 y.r.a.length e1, .int .i64 x.f, .slice A2 x.ext.length a2, .slice B2 x.th.length b2, .int .i64 x.arg.k, .int .i64 x.arg.h, .slice C2 x.arg.a.length c2] 54)) W →
        (Below (w.alloc (.cells #[.slice A fs.length a, .slice A1 y.ms.length a1, .slice B1 y.th.length b1, .int .i64 y.p.k, .int .i64 y.p.h, .slice C1 y.p.a.length c1, .slice D1 y.cs.length d1, .int .i64 y.r.k, .int .i64 y.r.h, .slice E1 y.r.a.length e1, .int .i64 x.f, .slice A2 x.ext.length a2, .slice B2 x.th.length b2, .int .i64 x.arg.k, .int .i64 x.arg.h, .slice C2 x.arg.a.length c2] 54)).heap.size (w.alloc (.cells #[.slice A fs.length a, .slice A1 y.ms.length a1, .slice B1 y.th.length b1, .int .i64 y.p.k, .int .i64 y.p.h, .slice C1 y.p.a.length c1, .slice D1 y.cs.length d1, .int .i64 y.r.k, .int .i64 y.r.h, .slice E1 y.r.a.length e1, .int .i64 x.f, .slice A2 x.ext.length a2, .slice B2 x.th.length b2, .int .i64 x.arg.k, .int .i64 x.arg.h, .slice C2 x.arg.a.length c2] 54)) W ∧ W.cell? ⟨w.heap.size, 3, none⟩ = some (.int .i64 y.p.k) ∧ W.cell? ⟨w.heap.size, 4, none⟩ = some (.int .i64 y.p.h) ∧ W.cell? ⟨w.heap.size, 5, none⟩ = some (.slice C1 y.p.a.length c1) ∧ W.cell? ⟨w.heap.size, 14, none⟩ = some (.int .i64 x.arg.h)) :=
      fun W hb => ⟨hb, (e0.mov hb).cell 3, (e0.mov hb).cell 4, (e0.mov hb).cell 5, (e0.mov hb).cell 14⟩
    have HCE := Lib.hid hcells
    have HB0 := Lib.hid hb0
    clear hT hb0 e0 hcells
    generalize (nodesW y.p 0).foldl stepM [] = ms at *
    go_enter Try.func27, Try.ntmps27
    go_wp2_with fail
    obtain ⟨W0, hW0⟩ : ∃ W0, (w.alloc (.cells #[.slice A fs.length a, .slice A1 y.ms.length a1, .slice B1 y.th.length b1, .int .i64 y.p.k, .int .i64 y.p.h, .slice C1 y.p.a.length c1, .slice D1 y.cs.length d1, .int .i64 y.r.k, .int .i64 y.r.h, .slice E1 y.r.a.length e1, .int .i64 x.f, .slice A2 x.ext.length a2, .slice B2 x.th.length b2, .int .i64 x.arg.k, .int .i64 x.arg.h, .slice C2 x.arg.a.length c2] 54)) = W0 := ⟨_, rfl⟩
    rw [hW0] at HCE HB0 ⊢
    clear hW0
    go_region_held3 (fun W => (Below W0.heap.size W0 W ∧ W.cell? ⟨w.heap.size, 3, none⟩ = some (.int .i64 y.p.k) ∧ W.cell? ⟨w.heap.size, 4, none⟩ = some (.int .i64 y.p.h) ∧ W.cell? ⟨w.heap.size, 5, none⟩ = some (.slice C1 y.p.a.length c1) ∧ W.cell? ⟨w.heap.size, 14, none⟩ = some (.int .i64 x.arg.h)))
      ((refine HCE.out _ ?_; first | exact hs2 | exact hs1 | exact bl_eta (Below.refl _ _)))
      (first
        | (go_at_call 15; refine (HM.out _ (bl_then HB0.out (‹Below W0.heap.size W0 _ ∧ _›).1)).mono ?_; rintro e w1 ⟨⟨B3, c3, rfl, hr3⟩, hx1⟩; have hs1 := bl_then (‹Below W0.heap.size W0 _ ∧ _›).1 hx1)
        | (go_at_call 36; refine (Contains_calls ms B3 c3 x.arg.h _ hr3).mono ?_; rintro e w2 ⟨rfl, hx2⟩; have hs2 := bl_then hs1 hx2))
    go_wp2_with fail
    go_ret
    exact ⟨ret_bool HT.out.symm, bl_then HB0.out hs2⟩
end Go.Proofs.Ytolpbnkkmkjejaa
