/- The contracts of package term: binds, may, Depth. The contracts of package term: all, may, Depth, May. The contracts of package term: may, Depth, May. -/
import Derived.Test.YtbmmdfehhhgkcaaGreatLib
import Derived.Test.YtbmmdfehhhgkcaaGreatProg
namespace Go.Proofs.YtbmmdfehhhgkcaaGreat
open Go.RowKit Go.Shelf
attribute [local go_sem] Oper.semAt_some

/-- Does a node of this kind bind? -/
def isB (k : Int) : Bool := decide (k = 1) || decide (k = 3)

theorem binds_calls (k h : Int) (A : Option Addr) (n c : Nat) (w : World) :
    Calls Tryz.prog 87 #[.agg #[.int .i64 k, .int .i64 h, .slice A n c]] w fun e w' => e = .returned (.bool (isB k)) ∧ Below w.heap.size w w' := by
  go_enter Tryz.func87, Tryz.ntmps87
  go_wp2
  all_goals go_ret
  · exact ⟨by subst_vars; rfl, bl_alloc (Below.refl _ _) _⟩
  · exact ⟨by simp [isB, *]; exact Bool.eq_iff_iff.2 (by simp [*]), bl_alloc (Below.refl _ _) _⟩

theorem binds_is (b : Bool) (k h : Int) (hb : isB k = b) (A : Option Addr) (n c : Nat) (w : World) :
    Calls Tryz.prog 87 #[.agg #[.int .i64 k, .int .i64 h, .slice A n c]] w fun e w' => e = .returned (.bool b) ∧ Below w.heap.size w w' := hb ▸ binds_calls k h A n c w

/-- All nodes of a term, with how many nodes bind around each. -/
def lastN (b : Bool) (l : List Tm) (n : Int) : Int := if b && l.isEmpty then wrap64 (n + 1) else n
mutual
def nodesW : Tm → Int → List (Int × Tm)
  | ⟨k, h, a⟩, n => (n, ⟨k, h, a⟩) :: nodesL (isB k) a n
def nodesL : Bool → List Tm → Int → List (Int × Tm)
  | _, [], _ => []
  | b, t :: l, n => nodesW t (lastN b l n) ++ nodesL b l n
end

structure Nd where
  n : Int
  t : Tm
  A : Option Addr
  c : Nat
abbrev NdIn (M : Nat → Prop) (w0 : World) := { x : Nd // Reads M w0 x.A x.t.a ∧ x.t.a.length ≤ x.c }
abbrev encN {M : Nat → Prop} {w0 : World} (x : NdIn M w0) : Array Value := #[.int .i64 x.1.n, .agg #[.int .i64 x.1.t.k, .int .i64 x.1.t.h, .slice x.1.A x.1.t.a.length x.1.c]]
def prN {M : Nat → Prop} {w0 : World} (x : NdIn M w0) : Int × Tm := (x.1.n, x.1.t)

/-- What the loop of 'walk' keeps. -/
structure WalkRel (M : Nat → Prop) (w0 W : World) (J : List (NdIn M w0) → World → Prop) (k h n : Int) (A : Option Addr) (ts : List Tm) (c : Nat) (pre : List (NdIn M w0)) (i : Nat) (wr : World) : Prop where
  le : i ≤ ts.length
  kc : KC M W wr
  blk : Blk wr W.heap.size #[.int .i64 k, .int .i64 h, .slice A ts.length c] 25
  seen : ∃ xs, J (pre ++ xs) wr ∧ xs.map prN ++ nodesL (isB k) (ts.drop i) n = nodesW ⟨k, h, ts⟩ n

theorem lastN_of {b : Bool} {ts : List Tm} {i : Nat} (n : Int) (hlt : i < ts.length) : lastN b (ts.drop (i + 1)) n = if b = true ∧ i + 1 = ts.length then wrap64 (n + 1) else n := by
  unfold lastN
  by_cases h : i + 1 = ts.length
  · simp [h]
  · have : (ts.drop (i + 1)).isEmpty = false := by simp; omega
    simp [h, this]
section
variable {M : Nat → Prop} {w0 W : World} {J Jx : List (NdIn M w0) → World → Prop} {k h n : Int} {A : Option Addr} {ts : List Tm} {c : Nat} {pre : List (NdIn M w0)} {i : Nat} {wr w1 w3 : World} {xs ys : List (NdIn M w0)}
theorem nodesL_at (b : Bool) (hlt : i < ts.length) : nodesL b (ts.drop i) n = nodesW ts[i] (lastN b (ts.drop (i + 1)) n) ++ nodesL b (ts.drop (i + 1)) n := by
  rw [List.drop_eq_getElem_cons hlt, nodesL]
theorem WalkRel.next (r : WalkRel M w0 W J k h n A ts c pre i wr) (hlt : i < ts.length) (hW : ∀ k, M k → k < W.heap.size) (hb : Below wr.heap.size wr w1) (hk : KC M w1 w3) (hx : J (pre ++ xs ++ ys) w3)
    (e1 : xs.map prN ++ nodesL (isB k) (ts.drop i) n = nodesW ⟨k, h, ts⟩ n) (e2 : ys.map prN = nodesW ts[i] (lastN (isB k) (ts.drop (i + 1)) n)) : WalkRel M w0 W J k h n A ts c pre (i + 1) w3 := by
  refine ⟨hlt, (r.kc.below hb).trans hk, (r.blk.mov hb).kc hk (fun q => by have := hW _ q; omega), xs ++ ys, by rw [← List.append_assoc]; exact hx, ?_⟩
  rw [← e1, nodesL_at _ hlt, List.map_append, e2, List.append_assoc]
theorem walk_len (hlt : i < ts.length) (e1 : xs.map prN ++ nodesL (isB k) (ts.drop i) n = nodesW ⟨k, h, ts⟩ n) {N : Nat} (hN : pre.length + (nodesW ⟨k, h, ts⟩ n).length ≤ N) :
    (pre ++ xs).length + (nodesW ts[i] (lastN (isB k) (ts.drop (i + 1)) n)).length ≤ N := by
  rw [← e1, nodesL_at _ hlt] at hN
  simp at hN ⊢
  omega
theorem walk_cut (hlt : i < ts.length) (e1 : xs.map prN ++ nodesL (isB k) (ts.drop i) n = nodesW ⟨k, h, ts⟩ n) (e2 : ys.map prN <+: nodesW ts[i] (lastN (isB k) (ts.drop (i + 1)) n)) :
    (xs ++ ys).map prN <+: nodesW ⟨k, h, ts⟩ n := by
  obtain ⟨r, hr⟩ := e2
  rw [← e1, nodesL_at _ hlt, ← hr]
  exact ⟨r ++ nodesL (isB k) (ts.drop (i + 1)) n, by simp⟩
end

set_option maxHeartbeats 1000000 in
theorem walkIn (M : Nat → Prop) (w0 : World) (hM : ∀ k, M k → k < w0.heap.size) (l N : Nat) (J Jx : List (NdIn M w0) → World → Prop)
    (hJ : ∀ pre W W', J pre W → Below W.heap.size W W' → J pre W')
    (hY : ∀ m pre x W, J pre W → pre.length < N → YieldAt Fence.wide m Tryz.prog l (encN x) W fun e W' =>
      (e = .returned (.bool true) ∧ J (pre ++ [x]) W' ∧ KC M W W') ∨ (e = .returned (.bool false) ∧ Jx (pre ++ [x]) W')) (t : Tm) :
    ∀ (m : Nat) (A : Option Addr) (c : Nat) (n : Int) (pre : List (NdIn M w0)) (W : World), Reads M w0 A t.a → t.a.length ≤ c → KC M w0 W → J pre W → pre.length + (nodesW t n).length ≤ N →
      CallsIn Fence.wide m Tryz.prog 68 #[.agg #[.int .i64 t.k, .int .i64 t.h, .slice A t.a.length c], .int .i64 n, .func (.yield l) #[] #[]] W fun e W' =>
        (e = .returned (.bool true) ∧ ∃ xs, xs.map prN = nodesW t n ∧ J (pre ++ xs) W' ∧ KC M W W') ∨ (e = .returned (.bool false) ∧ ∃ q, q.map prN <+: nodesW t n ∧ Jx (pre ++ q) W') := by
  induction t using Tm.ind with
  | h t ih =>
  intro m A c n pre W hr hc hk hj hN
  have hdd : ∀ k : Nat, (Fence.wide.depth.isSome = true → 1 ≤ k) := fun k h => by cases h
  obtain ⟨kk, hh, ts⟩ := t
  dsimp only at hr hc ih ⊢
  have hW := hk.size
  have hb1 : Below W.heap.size W (W.alloc (.cells #[.int .i64 kk, .int .i64 hh, .slice A ts.length c] 25)) := bl_alloc (Below.refl _ _) _
  have y1 := hY (m - 1) pre ⟨⟨n, ⟨kk, hh, ts⟩, A, c⟩, hr, hc⟩ (W.alloc (.cells #[.int .i64 kk, .int .i64 hh, .slice A ts.length c] 25)) (hJ _ _ _ hj hb1) (by simp [nodesW] at hN; omega)
  have y2 := YieldAt.mono (R' := fun e W' => (e = .returned (.bool true) ∧ WalkRel M w0 W J kk hh n A ts c pre 0 W' ∧ W'.cell? ⟨W.heap.size, 2, none⟩ = some (.slice A ts.length c)) ∨ (e = .returned (.bool false) ∧ ∃ q, q.map prN <+: nodesW ⟨kk, hh, ts⟩ n ∧ Jx (pre ++ q) W')) y1 (by
    rintro e W' (⟨he, h1, h2⟩ | ⟨he, h1⟩)
    · have hb : Blk W' W.heap.size #[.int .i64 kk, .int .i64 hh, .slice A ts.length c] 25 := (Blk.new W _ _).kc h2 (fun q => by have := hM _ q; omega)
      exact .inl ⟨he, ⟨Nat.zero_le _, (KC.of_below hb1).trans h2, hb, ⟨_, h1, by simp [prN, nodesW]⟩⟩, hb.cell 2⟩
    · exact .inr ⟨he, _, by simp [prN, nodesW], h1⟩)
  clear y1
  obtain ⟨fn, tmps, assign, body, hy, hR⟩ := y2
  dsimp only [encN] at hy
  have HR := Lib.hid hR
  have HJ := Lib.hid hJ
  have HY := Lib.hid hY
  have IH := Lib.hid ih
  clear hR hJ hY ih hj hb1
  refine callsIn_of_wp Tryz.func68 rfl trivial ?_ rfl
  simp only [Tryz.ntmps68, List.size_toArray, List.length_cons, List.length_nil, Nat.reduceAdd, Nat.reduceSub, Array.replicate_succ, Array.replicate_zero, List.push_toArray, List.append_toArray, List.nil_append, List.cons_append]
  gi_wp2_with ((try refine ⟨hdd _, ?_⟩); refine HR.out.mono ?_; clear HR; rintro e W1 (⟨rfl, h1, hcell⟩ | ⟨rfl, hx⟩))
  · gi_loopw [18] (fun v wr => ∃ i : Nat, v = .int .i64 i ∧ WalkRel M w0 W J kk hh n A ts c pre i wr) (fun v _ => ts.length - (intOf v).toNat)
    case atStart => exact ⟨0, rfl, h1⟩
    case round =>
      obtain ⟨i, rfl, hrel⟩ := hrel
      have hlen := hr.len
      unfold lim at hlen
      by_cases hlt : i < ts.length
      · obtain ⟨ad, B, d, rfl, hM2, c0, c1, c2, hd, hsub⟩ := hr.at hlt
        have kw : KC M w0 wr := hk.trans hrel.kc
        replace c0 := kw.cell (by rw [add_block]; exact hM2) c0
        replace c1 := kw.cell (by exact (add_block _ _).symm ▸ hM2) c1
        replace c2 := kw.cell (by exact (add_block _ _).symm ▸ hM2) c2
        have g0 := hrel.blk.cell 0
        have g1 := hrel.blk.cell 1
        have g2 := hrel.blk.cell 2
        have hbl := hrel.blk.lt
        obtain ⟨xs, hJx, hxs⟩ := hrel.seen
        have hnn := lastN_of (b := isB kk) n hlt
        have hih := fun (w1 : World) (hb : Below wr.heap.size wr w1) => IH.out ts[i] (List.getElem_mem hlt) (m - 1) B d (lastN (isB kk) (ts.drop (i + 1)) n) (pre ++ xs) w1 hsub hd (kw.below hb) (HJ.out _ _ _ hJx hb) (walk_len hlt hxs hN)
        have hMW : ∀ k, M k → k < W.heap.size := fun k q => Nat.lt_of_lt_of_le (hM k q) hW
        have hfin := fun (w1 : World) (hb : Below wr.heap.size wr w1) => (hih w1 hb).mono (R' := fun e w3 => (e = .returned (.bool true) ∧ WalkRel M w0 W J kk hh n (some ad) ts c pre (i + 1) w3) ∨
          (e = .returned (.bool false) ∧ ∃ q, q.map prN <+: nodesW ⟨kk, hh, ts⟩ n ∧ Jx (pre ++ q) w3)) (by
            rintro e w3 (⟨he, ys, h2, h3, h4⟩ | ⟨he, q, h2, h3⟩)
            · exact .inl ⟨he, hrel.next hlt hMW hb h4 h3 hxs h2⟩
            · exact .inr ⟨he, xs ++ q, walk_cut hlt hxs h2, by rw [← List.append_assoc]; exact h3⟩)
        have HF := Lib.hid hfin
        have hbo : Below wr.heap.size wr (wr.alloc (.cells #[.int .i64 ts[i].k, .int .i64 ts[i].h, .slice B ts[i].a.length d] 25)) := bl_alloc (Below.refl _ _) _
        have HBO := Lib.hid hbo
        have HB := Lib.hid hrel.blk
        clear hih hfin hJx hxs hbo hMW
        cases hb : isB kk
        · have hbc := binds_is false kk hh hb
          rw [hb] at hnn
          simp only [Bool.false_eq_true, false_and, if_false] at hnn
          rw [hb, hnn] at HF
          clear hb hnn
          gi_wp2_with (first
            | (refine ⟨trivial, hdd _, ?_⟩; gi_at_call 87; refine (callsIn_wide.2 (hbc _ _ _ _)).mono ?_; clear hbc; rintro e w1 ⟨rfl, hb1⟩; have q := (Blk.new wr _ _).mov hb1; have q0 := q.cell 0; have q1 := q.cell 1; have q2 := q.cell 2; clear q; have hb2 := bl_then HBO.out hb1; clear hb1)
            | (refine ⟨trivial, hdd _, ?_⟩; gi_at_call 68; refine (HF.out _ hb2).mono ?_; clear HF; rintro e w3 (⟨rfl, h3⟩ | ⟨rfl, hq⟩)))
          · exact ⟨⟨i + 1, by go_num, h3⟩, by simp [intOf]; omega⟩
          · go_ret
            exact .inr ⟨rfl, hq⟩
        · have hbc := binds_is true kk hh hb
          rw [hb] at hnn
          rw [hb] at HF
          clear hb
          obtain ⟨tst, htst⟩ : ∃ tst, ((i : Int) == (ts.length : Int) - 1) = tst := ⟨_, rfl⟩
          have hn2 : lastN true (ts.drop (i + 1)) n = if tst = true then wrap64 (n + 1) else n := by
            rw [hnn, ← htst]
            by_cases h : i + 1 = ts.length
            · rw [if_pos ⟨rfl, h⟩, if_pos (by simp; omega)]
            · rw [if_neg (fun q => h q.2), if_neg (by simp; omega)]
          rw [hn2] at HF
          clear hnn hn2
          cases tst
          all_goals
            simp only [Bool.false_eq_true, if_false, if_true] at HF
            gi_wp2_with (first
              | (refine ⟨trivial, hdd _, ?_⟩; gi_at_call 87; refine (callsIn_wide.2 (hbc _ _ _ _)).mono ?_; clear hbc; rintro e w1 ⟨rfl, hb1⟩; have q := (Blk.new wr _ _).mov hb1; have q0 := q.cell 0; have q1 := q.cell 1; have q2 := q.cell 2; clear q; have hb2 := bl_then HBO.out hb1; have q3 := (HB.out.mov hb2).cell 2; clear hb1)
              | (refine ⟨trivial, hdd _, ?_⟩; gi_at_call 68; refine (HF.out _ hb2).mono ?_; clear HF; rintro e w3 (⟨rfl, h3⟩ | ⟨rfl, hq⟩)))
            · exact ⟨⟨i + 1, by go_num, h3⟩, by simp [intOf]; omega⟩
            · go_ret
              exact .inr ⟨rfl, hq⟩
      · have hi := hrel.le
        obtain rfl : i = ts.length := by omega
        obtain ⟨xs, hJx, hxs⟩ := hrel.seen
        have hkc := hrel.kc
        simp only [List.drop_length, nodesL, List.append_nil] at hxs
        have HX := Lib.hid hxs
        clear hxs hrel
        gi_wp2
        go_ret
        exact .inl ⟨rfl, xs, HX.out, hJx, hkc⟩
  · go_ret
    exact .inr ⟨rfl, hx⟩

set_option maxHeartbeats 1000000 in
theorem nodes1_in (M : Nat → Prop) (w0 : World) (hM : ∀ k, M k → k < w0.heap.size) (l Bn : Nat) (t : Tm) (A : Option Addr) (c : Nat) (J Jx : List (NdIn M w0) → World → Prop)
    (hJ : ∀ pre W W', J pre W → Below W.heap.size W W' → J pre W') (m : Nat)
    (hY : ∀ m pre x W, J pre W → pre.length < (nodesW t 0).length → YieldAt Fence.wide m Tryz.prog l (encN x) W fun e W' =>
      (e = .returned (.bool true) ∧ J (pre ++ [x]) W' ∧ KC M W W') ∨ (e = .returned (.bool false) ∧ Jx (pre ++ [x]) W'))
    (W : World) (hBn : W.heap[Bn]? = some (.cells #[.int .i64 t.k, .int .i64 t.h, .slice A t.a.length c] 25 (0, 0))) (hr : Reads M w0 A t.a) (hc : t.a.length ≤ c) (hk : KC M w0 W) (h0 : J [] W) :
    CallsIn Fence.wide m Tryz.prog 67 #[.func (.yield l) #[] #[], .pointer (some ⟨Bn, 0, none⟩)] W fun e W' => (∃ v, e = .returned v) ∧
      ((∃ ys, ys.map prN = nodesW t 0 ∧ J ys W') ∨ (∃ pre, pre.map prN <+: nodesW t 0 ∧ Jx pre W')) := by
  have hp := walkIn M w0 hM l (nodesW t 0).length J Jx hJ hY t (m - 1) A c 0 [] W hr hc hk h0 (by simp)
  have hdd : ∀ k : Nat, (Fence.wide.depth.isSome = true → 1 ≤ k) := fun k h => by cases h
  have HP := Lib.hid hp
  have hb : Blk W Bn _ _ := hBn
  have q0 := hb.cell 0
  have q1 := hb.cell 1
  have q2 := hb.cell 2
  clear hp hJ hY hBn hb
  refine callsIn_of_wp Tryz.func67 rfl trivial ?_ rfl
  simp only [Tryz.ntmps67, List.size_toArray, List.length_cons, List.length_nil, Nat.reduceAdd, Nat.reduceSub, Array.replicate_succ, Array.replicate_zero, List.push_toArray, List.append_toArray, List.nil_append, List.cons_append]
  gi_wp2_with (refine ⟨trivial, hdd _, ?_⟩; gi_at_call 68; refine HP.out.mono ?_; clear HP; rintro e W1 (⟨rfl, xs, hx, hJ1, _⟩ | ⟨rfl, q, hq, hx⟩))
  · go_end0
    exact ⟨⟨_, rfl⟩, .inl ⟨_, hx, by simpa using hJ1⟩⟩
  · go_end0
    exact ⟨⟨_, rfl⟩, .inr ⟨q, hq, by simpa using hx⟩⟩

theorem nodes_stops (M : Nat → Prop) (w0 : World) (hM : ∀ k, M k → k < w0.heap.size) (n Bn : Nat) (t : Tm) (A : Option Addr) (c : Nat) (hr : Reads M w0 A t.a) (hc : t.a.length ≤ c)
    (hB : w0.heap[Bn]? = some (.cells #[.int .i64 t.k, .int .i64 t.h, .slice A t.a.length c] 25 (0, 0))) :
    SeqStopsK Fence.wide n Tryz.prog 67 #[.pointer (some ⟨Bn, 0, none⟩)] (encN (M := M) (w0 := w0)) (KC M) (fun ys => ys.map prN = nodesW t 0) (fun pre => pre.map prN <+: nodesW t 0) (nodesW t 0).length w0 := by
  intro l J Jx W hW hJ hJx hY h0
  refine nodes1_in M w0 hM l Bn t A c J Jx (fun pre W W' h hb => hJ pre W W' none h ⟨hb.os, hb.tape, hb.output, hb.size, fun k hk _ => hb.block k hk⟩ (fun r e => by cases e)) n (fun m pre x W hj hl => ?_) W ((hW.block _ (Array.getElem?_eq_some_iff.1 hB).1).trans hB) hr hc (.of_below hW) h0
  obtain ⟨fn, tmps, assign, body, hy, hR⟩ := hY pre x W hj hl
  exact ⟨fn, tmps, assign, body, hy, hR.1, fun c cs _ => hR.2 c cs (fun d h => by cases h)⟩

theorem nodes_calls (k h : Int) (A : Option Addr) (n c : Nat) (w : World) :
    Calls Tryz.prog 51 #[.agg #[.int .i64 k, .int .i64 h, .slice A n c]] w fun e w' => e = .returned (.func (.func 67) #[] #[.pointer (some ⟨w.heap.size, 0, none⟩)]) ∧
      w' = w.alloc (.cells #[.int .i64 k, .int .i64 h, .slice A n c] 25) := by
  go_enter Tryz.func51, Tryz.ntmps51
  have hmf : ∀ (fn : Fn) (first cap : Array Value) (w : World), (Instr.makeFunc fn first cap).run Tryz.prog w = .ok (.func fn first cap) w := fun _ _ _ _ => rfl
  go_wp2
  go_ret
  exact ⟨rfl, rfl⟩

theorem KC.putObj {M : Nat → Prop} (W : World) (l : Nat) (o o' : Obj) (h : W.heap[l]? = some o) (hc : o.isCells = false) : KC M W (W.putObj l o') := by
  have hg := grownBy_putObj' W l o'
  refine ⟨hg.size, fun k cs t fr _ e => ?_⟩
  by_cases hk : k = l
  · subst hk; rw [h] at e; cases e; cases hc
  · rw [hg.block k (Array.getElem?_eq_some_iff.1 e).1 (fun q => hk (by injection q))]; exact e
theorem KC.setCell {M : Nat → Prop} (W : World) (p : Addr) (v : Value) (h : M p.block) : KC M W (W.setCell p v) :=
  ⟨by simp [World.setCell], fun k cs t fr hm e => by rw [Below.heap_setCell W p v k (fun q => hm (q ▸ h))]; exact e⟩

theorem wrap_zero : wrap64 ((0 : Nat) : Int) = 0 := by
  unfold wrap64
  omega
theorem wrap_succ (k : Nat) : wrap64 (wrap64 (k : Int) + 1) = wrap64 ((k + 1 : Nat) : Int) := by
  unfold wrap64
  omega

set_option maxHeartbeats 2000000 in
set_option maxRecDepth 100000 in
theorem size_calls (t : Tm) (A : Option Addr) (c : Nat) (w : World) (hr : Reads (fun _ => False) w A t.a) (hc : t.a.length ≤ c) :
    Calls Tryz.prog 30 #[.agg #[.int .i64 t.k, .int .i64 t.h, .slice A t.a.length c]] w fun e w' => e = .returned (.int .i64 (wrap64 ((nodesW t 0).length : Int))) ∧ Below w.heap.size w w' := by
  refine (callsIn_wide (n := 9)).1 ?_
  have hdd : ∀ k : Nat, (Fence.wide.depth.isSome = true → 1 ≤ k) := fun k h => by cases h
  obtain ⟨kk, hh, ts⟩ := t
  dsimp only at hr hc ⊢
  refine callsIn_of_wp_marks Tryz.func30 rfl trivial ?_ rfl
  simp only [Tryz.ntmps30, List.size_toArray, List.length_cons, List.length_nil, Nat.reduceAdd, Nat.reduceSub, Array.replicate_succ, Array.replicate_zero, List.push_toArray, List.append_toArray, List.nil_append, List.cons_append]
  gi_wp2_with (refine ⟨trivial, ?_⟩; gi_at_call 51; refine (callsIn_wide.2 (nodes_calls _ _ _ _ _ _)).mono ?_; rintro e w' ⟨rfl, rfl⟩)
  have bS := (Boxed.new (w.alloc (.cells #[.int .i64 kk, .int .i64 hh, .slice A ts.length c] 25)) 3 (.int .i64 0)).alloc (.cells #[.int .i64 kk, .int .i64 hh, .slice A ts.length c] 25)
  have bT := Blk.new ((w.alloc (.cells #[.int .i64 kk, .int .i64 hh, .slice A ts.length c] 25)).alloc (.cells #[.int .i64 0] 3)) #[.int .i64 kk, .int .i64 hh, .slice A ts.length c] 25
  simp only [World.size_alloc] at bS bT
  have hB0 : Below w.heap.size w (((w.alloc (.cells #[.int .i64 kk, .int .i64 hh, .slice A ts.length c] 25)).alloc (.cells #[.int .i64 0] 3)).alloc (.cells #[.int .i64 kk, .int .i64 hh, .slice A ts.length c] 25)) := bl_alloc (bl_alloc (bl_alloc (Below.refl _ _) _) _) _
  have hsz : (((w.alloc (.cells #[.int .i64 kk, .int .i64 hh, .slice A ts.length c] 25)).alloc (.cells #[.int .i64 0] 3)).alloc (.cells #[.int .i64 kk, .int .i64 hh, .slice A ts.length c] 25)).heap.size = w.heap.size + 3 := by simp
  obtain ⟨W0, hW0⟩ : ∃ W0, (((w.alloc (.cells #[.int .i64 kk, .int .i64 hh, .slice A ts.length c] 25)).alloc (.cells #[.int .i64 0] 3)).alloc (.cells #[.int .i64 kk, .int .i64 hh, .slice A ts.length c] 25)) = W0 := ⟨_, rfl⟩
  rw [hW0] at bS bT hB0 hsz ⊢
  clear hW0
  have hr0 : Reads (fun k => k = w.heap.size + 1) W0 A ts := hr.step (fun k hk _ q => by omega) (fun k hk _ => hB0.block k hk)
  refine wpIn_rangeFunc_ownH rfl (by decide) (gf := 67) (lb := #[.pointer (some ⟨w.heap.size + 1 + 1, 0, none⟩)]) rfl trivial (enters_of Tryz.func67 (by kernel_rfl) rfl)
    (nodes_stops (fun k => k = w.heap.size + 1) W0 (fun k q => by omega) _ (w.heap.size + 1 + 1) ⟨kk, hh, ts⟩ A c hr0 hc bT) KC.trans (fun W l o o' _ h hc _ => KC.putObj W l o o' h hc) (Below.refl _ _) (fun _ => rfl)
    (fun pre W => Boxed W (w.heap.size + 1) 3 (.int .i64 (wrap64 (pre.length : Int))) ∧ Below w.heap.size w W)
    (fun _ _ _ => False)
    (OwnFrom.and (Own.from (boxed_own _ _ _) _) (ownFrom_below (Nat.le_refl _) (by omega)))
    (fun _ _ _ _ _ hs _ _ => hs)
    ⟨by show Boxed W0 (w.heap.size + 1) 3 (.int .i64 (wrap64 ((0 : Nat) : Int))); rw [wrap_zero]; exact bS, hB0⟩
    (fun x a' _ => a' = { tmps := #[.agg #[.int .i64 kk, .int .i64 hh, .slice A ts.length c], .pointer (some ⟨w.heap.size, 0, none⟩), .int .i64 0, .pointer (some ⟨w.heap.size + 1, 0, none⟩), .agg #[.int .i64 kk, .int .i64 hh, .slice A ts.length c],
      .func (.func 67) #[] #[.pointer (some ⟨w.heap.size + 1 + 1, 0, none⟩)], .int .i64 x.1.n, .agg #[.int .i64 x.1.t.k, .int .i64 x.1.t.h, .slice x.1.A x.1.t.a.length x.1.c], undef, undef, undef], defers := [] })
    (fun _ _ _ _ _ _ hs _ _ => hs)
    ?assign ?body ?done ?stop
  case assign =>
    rintro l pre x W K hi hK
    gi_wp2
    exact hK _ _ (KeepsFrom.refl _ _) (KC.refl _ _) hi (by simp)
  case body =>
    rintro l pre x a' W hl ⟨r, hr⟩ ⟨b1, hB1⟩ rfl hlt
    have cS := b1.cell
    have fS := b1.frozen
    gi_wp2
    exact ⟨(KeepsOthers.setCell _ _ _).from _, KC.setCell _ _ _ rfl, by rw [List.length_append]; simp only [List.length_cons, List.length_nil, Nat.zero_add]; rw [← wrap_succ]; exact b1.set _, bl_set hB1 (by simp) _⟩
  case done =>
    rintro D ys W hD hys ⟨b1, hB1⟩ hK
    have cS := b1.cell
    gi_wp2
    refine ⟨by simp, .inl ⟨_, _, rfl, run_takeDeferred hK, ?_⟩⟩
    refine ⟨_, results_tmp rfl _ _ _, ?_, hB1.trans (belowK_b (w := w) (Nat.le_refl _) W D _ _ (by omega) hK rfl rfl)⟩
    rw [← hys, List.length_map]
    rfl
  case stop =>
    rintro D c pre W _ _ h _
    exact h.elim
end Go.Proofs.YtbmmdfehhhgkcaaGreat
namespace Go.Proofs.YtbmmdfehhhgkcaaGreat
open Go.RowKit Go.Shelf
attribute [local go_sem] Oper.semAt_some

abbrev tmv (t : Tm) (A : Option Addr) (c : Nat) : Value := .agg #[.int .i64 t.k, .int .i64 t.h, .slice A t.a.length c]

/-- Is a function value asked of a node what p says? -/
def Asks (w : World) (S : Nat → Prop) (kf : Nat) (cap : Array Value) (p : Int → Tm → Bool) : Prop :=
  ∀ (n : Int) (s : Tm) (B : Option Addr) (d : Nat) (W : World), Below w.heap.size w W → Reads S W B s.a → s.a.length ≤ d →
    Calls Tryz.prog kf (#[.int .i64 n, .agg #[.int .i64 s.k, .int .i64 s.h, .slice B s.a.length d]] ++ cap) W fun e W' => e = .returned (.bool (p n s)) ∧ Below W.heap.size W W'

theorem boxed_mov {W W' : World} {B : Nat} {t : TypeId} {v : Value} (h : Boxed W B t v) (k : Below W.heap.size W W') : Boxed W' B t v := (k.block B h.lt).trans h

theorem kc_of_grown {M : Nat → Prop} {X Y : World} {row : Option Nat} {B : Nat} (hg : X.grownBy Y row) (hr : ∀ r, row = some r → B ≤ r ∧ ∃ o : Obj, X.heap[r]? = some o ∧ o.isCells = false) : KC M X Y :=
  ⟨hg.size, fun k cs t fr _ e => by
    rw [hg.block k (Array.getElem?_eq_some_iff.1 e).1 (fun q => by obtain ⟨_, o, ho, hc⟩ := hr k q.symm; rw [e] at ho; cases ho; cases hc)]; exact e⟩
theorem ownFrom_kc {β : Type} {M : Nat → Prop} (B : Nat) (W0 : World) : OwnFrom B (fun (_ : β) W => KC M W0 W) := fun _ _ _ _ hs hg hr => hs.trans (kc_of_grown hg hr)
theorem Reads.less {S S' : Nat → Prop} {W : World} {A : Option Addr} {ts : List Tm} (h : Reads S W A ts) (hs : ∀ k, S' k → S k) : Reads S' W A ts := h.step (fun k _ hk q => hk (hs k q)) (fun _ _ _ => rfl)
theorem boxed_put {W : World} {B : Nat} {t : TypeId} {v : Value} (h : Boxed W B t v) {l : Nat} {o : Obj} (o' : Obj) (hl : W.heap[l]? = some o) (ho : o.isCells = false) : Boxed (W.putObj l o') B t v :=
  h.kept (grownBy_putObj' W l o') (fun e => by cases e; rw [show W.heap[B]? = _ from h] at hl; cases hl; cases ho)

theorem kf_of_below {B : Nat} {W W' : World} (h : Below W.heap.size W W') : KeepsFrom B W W' := ⟨h.size, fun k o _ e _ => by rw [h.block k (Array.getElem?_eq_some_iff.1 e).1]; exact e⟩

set_option maxHeartbeats 2000000 in
set_option maxRecDepth 100000 in
theorem all_calls (kf : Nat) (eg : ∀ args w, (callFunc kf args).run Tryz.prog w = .ok (.enter kf args) w) (cap : Array Value) (p : Int → Tm → Bool) (t : Tm) (A : Option Addr) (c : Nat) (w : World) (hp : Asks w (fun _ => False) kf cap p) (hr : Reads (fun _ => False) w A t.a) (hc : t.a.length ≤ c) :
    Calls Tryz.prog 58 #[.agg #[.int .i64 t.k, .int .i64 t.h, .slice A t.a.length c], .func (.func kf) #[] cap] w fun e w' => e = .returned (.bool ((nodesW t 0).all fun x => p x.1 x.2)) ∧ Below w.heap.size w w' := by
  refine (callsIn_wide (n := 9)).1 ?_
  obtain ⟨kk, hh, ts⟩ := t
  dsimp only at hr hc ⊢
  have HP := Lib.hid hp
  clear hp
  refine callsIn_of_wp_marks Tryz.func58 rfl trivial ?_ rfl
  simp only [Tryz.ntmps58, List.size_toArray, List.length_cons, List.length_nil, Nat.reduceAdd, Nat.reduceSub, Array.replicate_succ, Array.replicate_zero, List.push_toArray, List.append_toArray, List.nil_append, List.cons_append]
  gi_wp2_with (refine ⟨trivial, ?_⟩; gi_at_call 51; refine (callsIn_wide.2 (nodes_calls _ _ _ _ _ _)).mono ?_; rintro e w' ⟨rfl, rfl⟩)
  have bS := ((Boxed.new (w.alloc (.cells #[.int .i64 kk, .int .i64 hh, .slice A ts.length c] 25)) 103 (.func (.func kf) #[] cap)).alloc (.cells #[.bool false] 4)).alloc (.cells #[.int .i64 kk, .int .i64 hh, .slice A ts.length c] 25)
  have bR := (Boxed.new ((w.alloc (.cells #[.int .i64 kk, .int .i64 hh, .slice A ts.length c] 25)).alloc (.cells #[.func (.func kf) #[] cap] 103)) 4 (.bool false)).alloc (.cells #[.int .i64 kk, .int .i64 hh, .slice A ts.length c] 25)
  have bT := Blk.new (((w.alloc (.cells #[.int .i64 kk, .int .i64 hh, .slice A ts.length c] 25)).alloc (.cells #[.func (.func kf) #[] cap] 103)).alloc (.cells #[.bool false] 4)) #[.int .i64 kk, .int .i64 hh, .slice A ts.length c] 25
  simp only [World.size_alloc] at bS bR bT
  have hB0 : Below w.heap.size w ((((w.alloc (.cells #[.int .i64 kk, .int .i64 hh, .slice A ts.length c] 25)).alloc (.cells #[.func (.func kf) #[] cap] 103)).alloc (.cells #[.bool false] 4)).alloc (.cells #[.int .i64 kk, .int .i64 hh, .slice A ts.length c] 25)) := bl_alloc (bl_alloc (bl_alloc (bl_alloc (Below.refl _ _) _) _) _) _
  have hsz : ((((w.alloc (.cells #[.int .i64 kk, .int .i64 hh, .slice A ts.length c] 25)).alloc (.cells #[.func (.func kf) #[] cap] 103)).alloc (.cells #[.bool false] 4)).alloc (.cells #[.int .i64 kk, .int .i64 hh, .slice A ts.length c] 25)).heap.size = w.heap.size + 4 := by simp
  obtain ⟨W0, hW0⟩ : ∃ W0, ((((w.alloc (.cells #[.int .i64 kk, .int .i64 hh, .slice A ts.length c] 25)).alloc (.cells #[.func (.func kf) #[] cap] 103)).alloc (.cells #[.bool false] 4)).alloc (.cells #[.int .i64 kk, .int .i64 hh, .slice A ts.length c] 25)) = W0 := ⟨_, rfl⟩
  rw [hW0] at bS bR bT hB0 hsz ⊢
  clear hW0
  have hr0 : Reads (fun k => k = w.heap.size + 2) W0 A ts := hr.step (fun k hk _ q => by omega) (fun k hk _ => hB0.block k hk)
  refine wpIn_rangeFunc_ownH rfl (by decide) (gf := 67) (lb := #[.pointer (some ⟨w.heap.size + 1 + 1 + 1, 0, none⟩)]) rfl trivial (enters_of Tryz.func67 (by kernel_rfl) rfl)
    (nodes_stops (fun k => k = w.heap.size + 2) W0 (fun k q => by omega) _ (w.heap.size + 1 + 1 + 1) ⟨kk, hh, ts⟩ A c hr0 hc bT) KC.trans (fun W l o o' _ h hc _ => KC.putObj W l o o' h hc) (Below.refl _ _) (fun _ => rfl)
    (fun pre W => ((Boxed W (w.heap.size + 1) 103 (.func (.func kf) #[] cap) ∧ Boxed W (w.heap.size + 1 + 1) 4 (.bool false)) ∧ (∀ x ∈ pre, p x.1.n x.1.t = true)) ∧ (Below w.heap.size w W ∧ KC (fun k => k = w.heap.size + 2) W0 W))
    (fun c pre W => (Boxed W (w.heap.size + 1 + 1) 4 (.bool false) ∧ (c = .ret ∧ ∃ x ∈ pre, p x.1.n x.1.t = false)) ∧ Below w.heap.size w W)
    (OwnFrom.and (OwnFrom.and (OwnFrom.and (Own.from (boxed_own _ _ _) _) (Own.from (boxed_own _ _ _) _)) (ownFrom_pure _ _)) (OwnFrom.and (ownFrom_below (Nat.le_refl _) (by omega)) (ownFrom_kc _ _)))
    (fun c => OwnFrom.and (OwnFrom.and (Own.from (boxed_own _ _ _) _) (ownFrom_pure _ _)) (ownFrom_below (Nat.le_refl _) (by omega)))
    ⟨⟨⟨bS, bR⟩, by simp⟩, hB0, KC.refl _ _⟩
    (fun x a' W => ∃ Bx, w.heap.size + 3 < Bx ∧ Blk W Bx #[.int .i64 x.1.t.k, .int .i64 x.1.t.h, .slice x.1.A x.1.t.a.length x.1.c] 25 ∧ Reads (fun _ => False) W x.1.A x.1.t.a ∧ a' = { tmps := #[.agg #[.int .i64 kk, .int .i64 hh, .slice A ts.length c], .func (.func kf) #[] cap, .pointer (some ⟨w.heap.size, 0, none⟩), .pointer (some ⟨w.heap.size + 1, 0, none⟩), .pointer (some ⟨w.heap.size + 1 + 1, 0, none⟩), .int .i64 x.1.n, .pointer (some ⟨Bx, 0, none⟩), .agg #[.int .i64 kk, .int .i64 hh, .slice A ts.length c],
      .func (.func 67) #[] #[.pointer (some ⟨w.heap.size + 1 + 1 + 1, 0, none⟩)], .int .i64 x.1.n, .agg #[.int .i64 x.1.t.k, .int .i64 x.1.t.h, .slice x.1.A x.1.t.a.length x.1.c], undef, undef, undef, undef, undef], defers := [] })
    (fun x a' _ X Y row hs hg hr => by
      obtain ⟨Bx, h1, h2, h3, h4⟩ := hs
      have hkc : KC (fun _ => False) X Y := kc_of_grown hg hr
      exact ⟨Bx, h1, h2.kc hkc id, h3.kc hkc (fun _ q => q), h4⟩)
    ?assign ?body ?done ?stop
  case assign =>
    rintro l pre x W K ⟨⟨⟨b1, b2⟩, hall⟩, hB1, hK1⟩ hK
    have hx : Reads (fun _ => False) W x.1.A x.1.t.a := (x.2.1.kc hK1 (fun _ q => q)).less (fun _ q => q.elim)
    have HK := Lib.hid hK
    have hbl : Below W.heap.size W (W.alloc (.cells #[.int .i64 x.1.t.k, .int .i64 x.1.t.h, .slice x.1.A x.1.t.a.length x.1.c] 25)) := bl_alloc (Below.refl _ _) _
    have HB := Lib.hid hbl
    have hlt := hK1.size
    clear hK hbl
    gi_wp2
    exact HK.out _ _ ((KeepsOthers.alloc _ _).from _) (KC.of_below HB.out) ⟨⟨⟨b1.alloc _, b2.alloc _⟩, hall⟩, bl_then hB1 HB.out, hK1.below HB.out⟩ ⟨W.heap.size, by omega, Blk.new W _ _, hx.mov HB.out, rfl⟩
  case body =>
    rintro l pre x a' W hl ⟨r, hr⟩ ⟨⟨⟨b1, b2⟩, hall⟩, hB1, hK1⟩ ⟨Bx, hBx, bX, hx, rfl⟩ hlt
    have c1 := b1.cell
    have c2 := b2.cell
    have f2 := b2.frozen
    have q0 := bX.cell 0
    have q1 := bX.cell 1
    have q2 := bX.cell 2
    have hcall := HP.out x.1.n x.1.t x.1.A x.1.c W hB1 hx x.2.2
    cases hpx : p x.1.n x.1.t
    all_goals
      rw [hpx] at hcall
      have HC := Lib.hid hcall
      have HX := Lib.hid hpx
      clear hcall hpx
      gi_wp2_with (refine ⟨trivial, ?_⟩; refine (CallsIn.inRound l (callsIn_wide.2 HC.out)).mono ?_; clear HC; rintro e w' ⟨rfl, hb⟩; have c3 := (boxed_mov b2 hb).cell; have f3 := (boxed_mov b2 hb).frozen)
    · exact ⟨(kf_of_below hb).trans ((KeepsOthers.setCell _ _ _).from _), ⟨(boxed_mov b2 hb).set _, rfl, x, by simp, HX.out⟩, bl_set (bl_then hB1 hb) (by simp; omega) _⟩
    · refine ⟨kf_of_below hb, KC.of_below hb, ⟨⟨boxed_mov b1 hb, boxed_mov b2 hb⟩, fun y hy => ?_⟩, bl_then hB1 hb, hK1.below hb⟩
      rcases List.mem_append.1 hy with hy | hy
      · exact hall y hy
      · obtain rfl := List.mem_singleton.1 hy
        exact HX.out
  case done =>
    rintro D ys W hD hys ⟨⟨⟨b1, b2⟩, hall⟩, hB1, hK1⟩ hK
    have cS := b2.cell
    have fS := b2.frozen
    gi_wp2
    have hK' := (KeepsOthers.setCell W ⟨w.heap.size + 1 + 1, 0, none⟩ (.bool true)).same D _ hK rfl
    refine ⟨by simp, .inl ⟨_, _, rfl, run_takeDeferred hK', ?_⟩⟩
    have b3 := boxed_put (b2.set (.bool true)) (.deferred none) hK' rfl
    have c3 := b3.cell
    refine ⟨.bool true, by simp [results, Tryz.results58, go_sem, c3], ?_, (bl_set hB1 (p := ⟨w.heap.size + 1 + 1, 0, none⟩) (by simp; omega) _).trans (belowK_b (w := w) (Nat.le_refl _) _ D _ _ (by omega) hK' rfl rfl)⟩
    have hq : ((nodesW ⟨kk, hh, ts⟩ 0).all fun x => p x.1 x.2) = true := by
      rw [← hys, List.all_eq_true]
      intro y hy
      obtain ⟨x, hx, rfl⟩ := List.mem_map.1 hy
      exact hall x hx
    rw [hq]
  case stop =>
    rintro D c pre W hD hpre ⟨⟨b2, rfl, hex⟩, hB1⟩ hK
    have cS := b2.cell
    gi_wp2
    refine ⟨by simp, .inl ⟨_, _, rfl, run_takeDeferred hK, ?_⟩⟩
    have c3 := (boxed_put b2 (.deferred none) hK rfl).cell
    refine ⟨.bool false, by simp [results, Tryz.results58, go_sem, c3], ?_, hB1.trans (belowK_b (w := w) (Nat.le_refl _) W D _ _ (by omega) hK rfl rfl)⟩
    have hq : ((nodesW ⟨kk, hh, ts⟩ 0).all fun x => p x.1 x.2) = false := by
      obtain ⟨r, hr⟩ := hpre
      obtain ⟨x, hx, hpx⟩ := hex
      rw [← hr, List.all_eq_false]
      exact ⟨prN x, List.mem_append_left _ (List.mem_map_of_mem hx), by show ¬ p x.1.n x.1.t = true; rw [hpx]; exact Bool.false_ne_true⟩
    rw [hq]
end Go.Proofs.YtbmmdfehhhgkcaaGreat
namespace Go.Proofs.YtbmmdfehhhgkcaaGreat
open Go.RowKit Go.Shelf
attribute [local go_sem] Oper.semAt_some

theorem ret_bool {a b : Bool} (h : a = b) : Ending.returned (.bool a) = Ending.returned (.bool b) := by rw [h]
theorem ret_int {a b : Int} (h : a = b) : Ending.returned (.int .i64 a) = Ending.returned (.int .i64 b) := by rw [h]

/-- May a node of this kind, head and number of parts be? -/
def mayN (k h : Int) (n : Nat) : Bool :=
  if k = 0 then decide (h = 0) && decide (n = 0) else if k = 1 then decide (h = 0) && decide (n = 2) else if k = 3 then decide (h = 0) && decide (n = 1) else decide (0 ≤ k) && decide (k < 7) && decide (0 ≤ h)

set_option maxHeartbeats 1000000 in
theorem may_calls (k h : Int) (A : Option Addr) (n c : Nat) (w : World) :
    Calls Tryz.prog 60 #[.agg #[.int .i64 k, .int .i64 h, .slice A n c]] w fun e w' => e = .returned (.bool (mayN k h n)) ∧ Below w.heap.size w w' := by
  go_enter Tryz.func60, Tryz.ntmps60
  go_wp2
  all_goals go_ret
  all_goals refine ⟨ret_bool ?_, bl_alloc (Below.refl _ _) _⟩
  all_goals (subst_vars; (try simp only [mayN, *]); first | rfl | (simp; done) | (simp_all; done) | grind)

set_option maxHeartbeats 1000000 in
theorem may1_calls (i k h : Int) (A : Option Addr) (n c : Nat) (w : World) :
    Calls Tryz.prog 59 #[.int .i64 i, .agg #[.int .i64 k, .int .i64 h, .slice A n c]] w fun e w' => e = .returned (.bool (mayN k h n)) ∧ Below w.heap.size w w' := by
  go_enter Tryz.func59, Tryz.ntmps59
  go_wp2_with (go_at_call 60; refine (may_calls _ _ _ _ _ _).mono ?_; rintro e w1 ⟨rfl, hb⟩)
  go_ret
  exact ⟨rfl, bl_then (bl_alloc (Below.refl _ _) _) hb⟩

def mx (a b : Int) : Int := if a < b then b else a
mutual
def depthW : Tm → Int
  | ⟨_, _, a⟩ => wrap64 (depthL 0 a + 1)
def depthL : Int → List Tm → Int
  | m, [] => m
  | m, t :: l => depthL (mx m (depthW t)) l
end

structure DepthRel (w : World) (A : Option Addr) (ts : List Tm) (i : Nat) (m : Int) (wr : World) : Prop where
  le : i ≤ ts.length
  below : Below w.heap.size w wr
  sum : depthL m (ts.drop i) = depthL 0 ts

set_option maxHeartbeats 1000000 in
theorem depth_calls (t : Tm) : ∀ (A : Option Addr) (c : Nat) (w : World), Reads (fun _ => False) w A t.a → t.a.length ≤ c →
    Calls Tryz.prog 57 #[.agg #[.int .i64 t.k, .int .i64 t.h, .slice A t.a.length c]] w fun e w' => e = .returned (.int .i64 (depthW t)) ∧ Below w.heap.size w w' := by
  induction t using Tm.ind with
  | h t ih =>
  intro A c w hr hc
  obtain ⟨kk, hh, ts⟩ := t
  dsimp only at hr hc ih ⊢
  have hlen := hr.len
  unfold lim at hlen
  have IH := Lib.hid ih
  clear ih
  go_enter Tryz.func57, Tryz.ntmps57
  go_wp2
  go_loopw [3, 9] (fun v j wr => ∃ (i : Nat) (m : Int), v = .int .i64 m ∧ j = .int .i64 i ∧ DepthRel w A ts i m wr) (fun _ j _ => ts.length - (intOf j).toNat)
  case atStart => exact ⟨0, 0, rfl, rfl, Nat.zero_le _, bl_alloc (Below.refl _ _) _, rfl⟩
  case round =>
    obtain ⟨i, m, rfl, rfl, hrel⟩ := hrel
    by_cases hlt : i < ts.length
    · obtain ⟨ad, B, d, rfl, -, c0, c1, c2, hd, hsub⟩ := (hr.mov hrel.below).at hlt
      have hih := fun (W : World) (hb : Below wr.heap.size wr W) => IH.out ts[i] (List.getElem_mem hlt) B d W (hsub.mov hb) hd
      have HI := Lib.hid hih
      have hbo : Below wr.heap.size wr (wr.alloc (.cells #[.int .i64 ts[i].k, .int .i64 ts[i].h, .slice B ts[i].a.length d] 25)) := bl_alloc (Below.refl _ _) _
      have HB := Lib.hid hbo
      clear hih hbo
      go_wp2_with (go_at_call 57; refine (HI.out _ HB.out).mono ?_; clear HI; rintro e w1 ⟨rfl, hb⟩)
      refine ⟨⟨i + 1, mx m (depthW ts[i]), rfl, by go_num, hlt, bl_then (bl_then hrel.below HB.out) hb, ?_⟩, by simp [intOf]; omega⟩
      rw [← hrel.sum, List.drop_eq_getElem_cons hlt, depthL]
    · have hi := hrel.le
      obtain rfl : i = ts.length := by omega
      have hs := hrel.sum
      simp only [List.drop_length, depthL] at hs
      have HS := Lib.hid hs
      clear hs
      go_wp2
      go_ret
      exact ⟨ret_int (by rw [depthW, ← HS.out]), hrel.below⟩
theorem may1_asks (w : World) : Asks w (fun _ => False) 59 #[] (fun _ s => mayN s.k s.h s.a.length) := by
  intro n s B d W _ _ _
  exact may1_calls n s.k s.h B s.a.length d W

def sizeW (t : Tm) : Int := wrap64 ((nodesW t 0).length : Int)
def mayB (t : Tm) : Bool := decide (depthW t ≤ 60) && (decide (sizeW t ≤ 4000) && (nodesW t 0).all fun x => mayN x.2.k x.2.h x.2.a.length)

set_option maxHeartbeats 1000000 in
theorem May_calls (t : Tm) (A : Option Addr) (c : Nat) (w : World) (hr : Reads (fun _ => False) w A t.a) (hc : t.a.length ≤ c) :
    Calls Tryz.prog 38 #[.agg #[.int .i64 t.k, .int .i64 t.h, .slice A t.a.length c]] w fun e w' => e = .returned (.bool (mayB t)) ∧ Below w.heap.size w w' := by
  have hbo : Below w.heap.size w (w.alloc (.cells #[.int .i64 t.k, .int .i64 t.h, .slice A t.a.length c] 25)) := bl_alloc (Below.refl _ _) _
  have HB := Lib.hid hbo
  have hbk := Blk.new w #[.int .i64 t.k, .int .i64 t.h, .slice A t.a.length c] 25
  have HK := Lib.hid hbk
  have hD := fun (W : World) (hb : Below w.heap.size w W) => depth_calls t A c W (hr.mov hb) hc
  have hS := fun (W : World) (hb : Below w.heap.size w W) => size_calls t A c W (hr.mov hb) hc
  have hA := fun (W : World) (hb : Below w.heap.size w W) => all_calls 59 (enters_of Tryz.func59 (by kernel_rfl) rfl) #[] _ t A c W (may1_asks W) (hr.mov hb) hc
  have HD := Lib.hid hD
  have HS := Lib.hid hS
  have HA := Lib.hid hA
  clear hbo hbk hD hS hA
  have hm : mayB t = (decide (depthW t ≤ 60) && (decide (sizeW t ≤ 4000) && (nodesW t 0).all fun x => mayN x.2.k x.2.h x.2.a.length)) := rfl
  generalize (nodesW t 0).all (fun x => mayN x.2.k x.2.h x.2.a.length) = al at *
  unfold sizeW at hm
  generalize wrap64 ((nodesW t 0).length : Int) = sz at *
  generalize depthW t = de at *
  cases h1 : decide (de ≤ 60)
  · rw [h1] at hm
    have HM := Lib.hid hm
    clear hm
    go_enter Tryz.func38, Tryz.ntmps38
    go_wp2_with (go_at_call 57; refine (HD.out _ HB.out).mono ?_; clear HD; rintro e w1 ⟨rfl, hb⟩)
    go_ret
    exact ⟨ret_bool (by rw [HM.out]; rfl), bl_then HB.out hb⟩
  · cases h2 : decide (sz ≤ 4000)
    · rw [h1, h2] at hm
      have HM := Lib.hid hm
      clear hm
      go_enter Tryz.func38, Tryz.ntmps38
      go_wp2_with (first
        | (go_at_call 57; refine (HD.out _ HB.out).mono ?_; clear HD; rintro e w1 ⟨rfl, hb⟩; have q := HK.out.mov hb; have q0 := q.cell 0; have q1 := q.cell 1; have q2 := q.cell 2; clear q)
        | (go_at_call 30; refine (HS.out _ (bl_then HB.out hb)).mono ?_; clear HS; rintro e w2 ⟨rfl, hb2⟩))
      go_ret
      exact ⟨ret_bool (by rw [HM.out]; rfl), bl_then (bl_then HB.out hb) hb2⟩
    · rw [h1, h2] at hm
      have HM := Lib.hid hm
      clear hm
      go_enter Tryz.func38, Tryz.ntmps38
      go_wp2_with (first
        | (go_at_call 57; refine (HD.out _ HB.out).mono ?_; clear HD; rintro e w1 ⟨rfl, hb⟩; have q := HK.out.mov hb; have q0 := q.cell 0; have q1 := q.cell 1; have q2 := q.cell 2; clear q)
        | (go_at_call 30; refine (HS.out _ (bl_then HB.out hb)).mono ?_; clear HS; rintro e w2 ⟨rfl, hb2⟩; have p := (HK.out.mov hb).mov hb2; have p0 := p.cell 0; have p1 := p.cell 1; have p2 := p.cell 2; clear p)
        | (go_at_call 58; refine (HA.out _ (bl_then (bl_then HB.out hb) hb2)).mono ?_; clear HA; rintro e w3 ⟨rfl, hb3⟩))
      go_ret
      exact ⟨ret_bool (by rw [HM.out]; rfl), bl_then (bl_then (bl_then HB.out hb) hb2) hb3⟩
end Go.Proofs.YtbmmdfehhhgkcaaGreat
