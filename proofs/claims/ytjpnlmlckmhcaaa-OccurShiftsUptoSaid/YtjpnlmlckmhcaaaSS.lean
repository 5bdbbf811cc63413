/- The contract of subst.Same. -/
import Derived.Test.YtjpnlmlckmhcaaaRT
import Derived.IntWalk
namespace Go.Proofs.Ytjpnlmlckmhcaaa
open Go.RowKit Go.Shelf

/-- The variables n-1, n-2, .., k of them. -/
def downT' (n : Int) (k : Nat) : List Tm := (List.range k).map fun (j : Nat) => ⟨4, n - 1 - (j : Int), []⟩
theorem downT'_succ (n : Int) (k : Nat) : downT' n k ++ [⟨4, n - 1 - (k : Int), []⟩] = downT' n (k + 1) := by unfold downT'; rw [List.range_succ, List.map_append]; rfl
theorem downT'_len (n : Int) (k : Nat) : (downT' n k).length = k := by simp [downT']
def sameN (n : Int) : Nat := if n ≤ 0 then 0 else if 200 ≤ n then 200 else n.toNat
theorem sameN_le (n : Int) : sameN n ≤ 200 := by unfold sameN; split; omega; split <;> omega

/-- A substitution handed back. -/
theorem res_su {fn : Func} {p : Tmp} (h : fn.results = #[.cell p 41]) (tmps : Array Value) (W : World) (g : Nat) (x y : Value) (hp : tmps[p]?.getD undef = .pointer (some ⟨g, 0, none⟩)) (hb : Blk W g #[x, y] 41) :
    (results fn tmps).run Try.prog W = .ok (.agg #[x, y]) W := by
  have q0 := hb.cell 0
  have q1 := hb.cell 1
  simp [results, h, hp, go_sem, q0, q1]

structure SameRel (S : Nat → Prop) (n : Int) (m : Nat) (w : World) (i : Nat) (wr : World) : Prop where
  le : i ≤ m
  below : Below w.heap.size w wr
  b0 : Blk wr w.heap.size #[.slice none 0 0, .int .i64 0] 41
  out : ∃ v, Blk wr (w.heap.size + 1) #[v, .int .i64 n] 41 ∧ Mine w.heap.size (fun k => S k ∨ k = w.heap.size ∨ k = w.heap.size + 1) wr v (downT' n i)

def RetS' (S : Nat → Prop) (ts : List Tm) (n : Int) (w : World) (e : Ending) (w' : World) : Prop :=
  Below w.heap.size w w' ∧ ∃ B c, e = .returned (.agg #[.slice B ts.length c, .int .i64 n]) ∧ ts.length ≤ c ∧ Reads S w' B ts

set_option maxHeartbeats 4000000 in
theorem SameN_calls (S : Nat → Prop) (n : Int) (w : World) (hS : ∀ k, S k → k < w.heap.size) :
    Calls Try.prog 27 #[.int .i64 n] w (RetS' S (downT' (sameN n) (sameN n)) (sameN n) w) := by
  have HSS := Lib.hid hS
  clear hS
  rcases Int.lt_or_le n 0 with h0 | h0
  · have e : sameN n = 0 := by unfold sameN; rw [if_pos (by omega)]
    rw [e]
    clear e
    have hb0 : Below w.heap.size w ((w.alloc (.cells #[.slice none 0 0, .int .i64 0] 41)).alloc (.cells #[.slice none 0 0, .int .i64 0] 41)) := bl_alloc (bl_alloc (Below.refl _ _) _) _
    have e0 := (Blk.new w #[.slice none 0 0, .int .i64 0] 41).mov (bl_alloc (Below.refl _ _) (.cells #[.slice none 0 0, .int .i64 0] 41))
    have e1 := Blk.new (w.alloc (.cells #[.slice none 0 0, .int .i64 0] 41)) #[.slice none 0 0, .int .i64 0] 41
    simp only [World.size_alloc] at e1
    have HR := Lib.hid (show Below w.heap.size w _ ∧ Blk _ _ _ _ ∧ Blk _ _ _ _ from ⟨hb0, e0, e1⟩)
    clear hb0 e0 e1
    go_enter Try.func27, Try.ntmps27
    go_wp2_with fail
    go_loopw [4, 11] (fun _ j wr => j = .int .i64 0 ∧ Below w.heap.size w wr ∧ Blk wr w.heap.size #[.slice none 0 0, .int .i64 0] 41 ∧ Blk wr (w.heap.size + 1) #[.slice none 0 0, .int .i64 0] 41) (fun _ _ _ => 0)
    case atStart => exact ⟨rfl, HR.out⟩
    case round =>
      clear HR
      obtain ⟨rfl, hbw, hb0, hbk⟩ := hrel
      have p0 := hbk.cell 0
      have p1 := hbk.cell 1
      have q0 := hb0.cell 0
      have q1 := hb0.cell 1
      have y0 := hb0.frozen 0
      have y1 := hb0.frozen 1
      have HZ := Lib.hid hb0
      go_wp2_with fail
      exact bodyPost_ret (res_su rfl _ _ _ _ _ rfl ((HZ.out.set 0 (.slice none 0 0)).set 1 (.int .i64 0))) rfl ⟨bl_set (bl_set hbw (p := ⟨w.heap.size, 0, none⟩) (Nat.le_refl _) _) (p := ⟨w.heap.size, 1, none⟩) (Nat.le_refl _) _, none, 0, by rw [downT'_len]; rfl, by rw [downT'_len]; exact Nat.le_refl _, .nil _⟩
  rcases Int.lt_or_le 200 n with h1 | h1
  · have e : sameN n = 200 := by unfold sameN; rw [if_neg (by omega), if_pos (by omega)]
    obtain ⟨m, hm⟩ : ∃ m, sameN n = m := ⟨_, rfl⟩
    obtain ⟨nv, hnv⟩ : ∃ nv : Int, (sameN n : Int) = nv := ⟨_, rfl⟩
    rw [hnv, hm]
    have HMI : Hid ((m : Int) = nv) := Lib.hid (by omega)
    have H2 : Hid ((200 : Int) = nv) := Lib.hid (by omega)
    have hm2 : m ≤ 200 := by omega
    have hn2 : nv ≤ 200 := by omega
    clear e hm hnv
    go_enter Try.func27, Try.ntmps27
    go_wp2_with fail
    clear h1
    rw [H2.out]
    have hb0 : Below w.heap.size w ((w.alloc (.cells #[.slice none 0 0, .int .i64 0] 41)).alloc (.cells #[.slice none 0 0, .int .i64 nv] 41)) := bl_alloc (bl_alloc (Below.refl _ _) _) _
    have e0 := (Blk.new w #[.slice none 0 0, .int .i64 0] 41).mov (bl_alloc (Below.refl _ _) (.cells #[.slice none 0 0, .int .i64 nv] 41))
    have e1 := Blk.new (w.alloc (.cells #[.slice none 0 0, .int .i64 0] 41)) #[.slice none 0 0, .int .i64 nv] 41
    simp only [World.size_alloc] at e1
    have hrel0 : SameRel S nv m w 0 _ := ⟨Nat.zero_le _, hb0, e0, _, e1, Mine.nil _ _ _⟩
    have hrel1 := Lib.hid hrel0
    clear hb0 e0 e1 hrel0
    go_loopw [4, 11] (fun _ j wr => ∃ i : Nat, j = .int .i64 i ∧ SameRel S nv m w i wr) (fun _ j _ => m - (intOf j).toNat)
    case atStart => exact ⟨0, rfl, hrel1.out⟩
    case round =>
      clear hrel1
      obtain ⟨i, rfl, hrel⟩ := hrel
      obtain ⟨v, hbk, hmine⟩ := hrel.out
      have hbw := hrel.below
      have hb0 := hrel.b0
      have p0 := hbk.cell 0
      have p1 := hbk.cell 1
      have f0 := hbk.frozen 0
      have f1 := hbk.frozen 1
      have q0 := hb0.cell 0
      have q1 := hb0.cell 1
      have y0 := hb0.frozen 0
      have y1 := hb0.frozen 1
      have hml := hmine.lt
      have hmg := hmine.ge
      have hbl := hbk.lt
      by_cases hlt : i < m
      · have hl := downT'_len nv i
        have HL := Lib.hid hl
        have hle := hbk.mov (bl_alloc (Below.refl _ _) (.cells #[.int .i64 4, .int .i64 (nv - 1 - (i : Int)), .slice none 0 0] 30))
        have HLE := Lib.hid hle
        clear hl hle
        have hmi : (i : Int) < nv := by have := HMI.out; omega
        go_wp2_with (at_builtin; refine append_tm rfl _ _ rfl w.heap.size (fun k => S k ∨ k = w.heap.size ∨ k = w.heap.size + 1) v (downT' nv i) ⟨4, nv - 1 - (i : Int), []⟩ none 0 rfl rfl (by simp) hmine (.nil _) (Nat.le_refl _) ?ss ?bb ?ll ?_
                     case ss => (have h1 := hbw.size; exact fun k q => by (rcases q with q | q | q; (have := HSS.out k q; omega); omega; omega))
                     case bb => exact hbw.size
                     case ll => (rw [HL.out]; unfold lim; omega)
                     intro v1 w1 hm1 hg1
                     rw [downT'_succ] at hm1
                     obtain ⟨A1, c1, ev1⟩ := hm1.slice
                     subst ev1
                     have z := hbk.grown hg1 (fun e => hmine.2.1 _ e.symm (.inr (.inr rfl)))
                     have z0 := z.cell 0
                     have z1 := z.cell 1
                     have g0 := z.frozen 0
                     have g1 := z.frozen 1
                     have HZ := Lib.hid z
                     clear z)
        exact ⟨⟨i + 1, by go_num, hlt, bl_set (bl_grown hbw hg1 (fun k e => hmg k e)) (p := ⟨w.heap.size + 1, 0, none⟩) (by show w.heap.size ≤ w.heap.size + 1; omega) _, (hb0.grown hg1 (fun e => hmine.2.1 _ e.symm (.inr (.inl rfl)))).far (by show w.heap.size ≠ w.heap.size + 1; omega) _, _, HZ.out.set 0 _, hm1.set (p := ⟨w.heap.size + 1, 0, none⟩) (.inr (.inr rfl)) _⟩, by simp [intOf]; omega⟩
      · have eim : m = i := by have := hrel.le; omega
        subst eim
        obtain ⟨B, d, rfl, hd2, hrd⟩ := hmine.reads
        rw [downT'_len] at hd2
        have HZ := Lib.hid hb0
        have HN := HMI
        clear hrel
        have hge : decide ((m : Int) < nv) = false := decide_eq_false (by have := HMI.out; omega)
        rw [downT'_len] at p0
        go_wp2_with fail
        exact bodyPost_ret (res_su rfl _ _ _ _ _ rfl ((HZ.out.set 0 (.slice B m d)).set 1 (.int .i64 nv))) rfl ⟨bl_set (bl_set hbw (p := ⟨w.heap.size, 0, none⟩) (Nat.le_refl _) _) (p := ⟨w.heap.size, 1, none⟩) (Nat.le_refl _) _, B, d, by rw [downT'_len], by rw [downT'_len]; exact hd2, ((hrd.set (p := ⟨w.heap.size, 0, none⟩) (.inr (.inl rfl)) _).set (p := ⟨w.heap.size, 1, none⟩) (.inr (.inl rfl)) _).less (fun k q => .inl q)⟩
  · obtain ⟨m, rfl⟩ : ∃ m : Nat, n = (m : Int) := ⟨n.toNat, by omega⟩
    have e : sameN (m : Int) = m := by unfold sameN; split; omega; split <;> omega
    rw [e]
    have HMI : Hid ((m : Int) = (m : Int)) := rfl
    have hm2 : m ≤ 200 := by omega
    clear e
    go_enter Try.func27, Try.ntmps27
    go_wp2_with fail
    have hb0 : Below w.heap.size w ((w.alloc (.cells #[.slice none 0 0, .int .i64 0] 41)).alloc (.cells #[.slice none 0 0, .int .i64 (m : Int)] 41)) := bl_alloc (bl_alloc (Below.refl _ _) _) _
    have e0 := (Blk.new w #[.slice none 0 0, .int .i64 0] 41).mov (bl_alloc (Below.refl _ _) (.cells #[.slice none 0 0, .int .i64 (m : Int)] 41))
    have e1 := Blk.new (w.alloc (.cells #[.slice none 0 0, .int .i64 0] 41)) #[.slice none 0 0, .int .i64 (m : Int)] 41
    simp only [World.size_alloc] at e1
    have hrel0 : SameRel S (m : Int) m w 0 _ := ⟨Nat.zero_le _, hb0, e0, _, e1, Mine.nil _ _ _⟩
    have hrel1 := Lib.hid hrel0
    clear hb0 e0 e1 hrel0
    go_loopw [4, 11] (fun _ j wr => ∃ i : Nat, j = .int .i64 i ∧ SameRel S (m : Int) m w i wr) (fun _ j _ => m - (intOf j).toNat)
    case atStart => exact ⟨0, rfl, hrel1.out⟩
    case round =>
      clear hrel1
      obtain ⟨i, rfl, hrel⟩ := hrel
      obtain ⟨v, hbk, hmine⟩ := hrel.out
      have hbw := hrel.below
      have hb0 := hrel.b0
      have p0 := hbk.cell 0
      have p1 := hbk.cell 1
      have f0 := hbk.frozen 0
      have f1 := hbk.frozen 1
      have q0 := hb0.cell 0
      have q1 := hb0.cell 1
      have y0 := hb0.frozen 0
      have y1 := hb0.frozen 1
      have hml := hmine.lt
      have hmg := hmine.ge
      have hbl := hbk.lt
      by_cases hlt : i < m
      · have hl := downT'_len (m : Int) i
        have HL := Lib.hid hl
        have hle := hbk.mov (bl_alloc (Below.refl _ _) (.cells #[.int .i64 4, .int .i64 ((m : Int) - 1 - (i : Int)), .slice none 0 0] 30))
        have HLE := Lib.hid hle
        clear hl hle
        have hmi : (i : Int) < (m : Int) := by have := HMI.out; omega
        go_wp2_with (at_builtin; refine append_tm rfl _ _ rfl w.heap.size (fun k => S k ∨ k = w.heap.size ∨ k = w.heap.size + 1) v (downT' (m : Int) i) ⟨4, (m : Int) - 1 - (i : Int), []⟩ none 0 rfl rfl (by simp) hmine (.nil _) (Nat.le_refl _) ?ss ?bb ?ll ?_
                     case ss => (have h1 := hbw.size; exact fun k q => by (rcases q with q | q | q; (have := HSS.out k q; omega); omega; omega))
                     case bb => exact hbw.size
                     case ll => (rw [HL.out]; unfold lim; omega)
                     intro v1 w1 hm1 hg1
                     rw [downT'_succ] at hm1
                     obtain ⟨A1, c1, ev1⟩ := hm1.slice
                     subst ev1
                     have z := hbk.grown hg1 (fun e => hmine.2.1 _ e.symm (.inr (.inr rfl)))
                     have z0 := z.cell 0
                     have z1 := z.cell 1
                     have g0 := z.frozen 0
                     have g1 := z.frozen 1
                     have HZ := Lib.hid z
                     clear z)
        exact ⟨⟨i + 1, by go_num, hlt, bl_set (bl_grown hbw hg1 (fun k e => hmg k e)) (p := ⟨w.heap.size + 1, 0, none⟩) (by show w.heap.size ≤ w.heap.size + 1; omega) _, (hb0.grown hg1 (fun e => hmine.2.1 _ e.symm (.inr (.inl rfl)))).far (by show w.heap.size ≠ w.heap.size + 1; omega) _, _, HZ.out.set 0 _, hm1.set (p := ⟨w.heap.size + 1, 0, none⟩) (.inr (.inr rfl)) _⟩, by simp [intOf]; omega⟩
      · have eim : m = i := by have := hrel.le; omega
        subst eim
        obtain ⟨B, d, rfl, hd2, hrd⟩ := hmine.reads
        rw [downT'_len] at hd2
        have HZ := Lib.hid hb0
        have HN := HMI
        clear hrel
        have hge : decide ((m : Int) < (m : Int)) = false := decide_eq_false (by have := HMI.out; omega)
        rw [downT'_len] at p0
        go_wp2_with fail
        exact bodyPost_ret (res_su rfl _ _ _ _ _ rfl ((HZ.out.set 0 (.slice B m d)).set 1 (.int .i64 (m : Int)))) rfl ⟨bl_set (bl_set hbw (p := ⟨w.heap.size, 0, none⟩) (Nat.le_refl _) _) (p := ⟨w.heap.size, 1, none⟩) (Nat.le_refl _) _, B, d, by rw [downT'_len], by rw [downT'_len]; exact hd2, ((hrd.set (p := ⟨w.heap.size, 0, none⟩) (.inr (.inl rfl)) _).set (p := ⟨w.heap.size, 1, none⟩) (.inr (.inl rfl)) _).less (fun k q => .inl q)⟩
end Go.Proofs.Ytjpnlmlckmhcaaa
