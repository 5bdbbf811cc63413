/- The contracts of amanuensisref05.heads, vars, Metas, Vars. -/
import Derived.Test.YtolpbnkkmkjejaaO9
import Derived.Test.YtolpbnkkmkjejaaO7
import Derived.IntWalk
namespace Go.Proofs.Ytolpbnkkmkjejaa
open Go.RowKit Go.Shelf

def stepM (l : List Int) (x : Int × Tm) : List Int := if x.2.k = 6 then addL l x.2.h else l
def stepV (l : List Int) (x : Int × Tm) : List Int := if x.2.k = 4 ∧ x.1 ≤ x.2.h then addL l (wrap64 (x.2.h - x.1)) else l

theorem addL_len (l : List Int) (n : Int) : (addL l n).length ≤ l.length + 1 := by
  have := addGo_len n l [] false
  simpa [addL] using this
theorem stepM_len (l : List Int) (x : Int × Tm) : (stepM l x).length ≤ l.length + 1 := by
  unfold stepM
  split
  · exact addL_len _ _
  · omega
theorem stepV_len (l : List Int) (x : Int × Tm) : (stepV l x).length ≤ l.length + 1 := by
  unfold stepV
  split
  · exact addL_len _ _
  · omega
theorem fold_len {f : List Int → Int × Tm → List Int} (hf : ∀ l x, (f l x).length ≤ l.length + 1) : ∀ (p : List (Int × Tm)) (l : List Int), (p.foldl f l).length ≤ l.length + p.length
  | [], l => by simp
  | x :: p, l => by
    have h1 := fold_len hf p (f l x)
    have h2 := hf l x
    simp only [List.foldl_cons, List.length_cons]
    omega
theorem foldM_rise : ∀ (p : List (Int × Tm)) (l : List Int), Rise l → Rise (p.foldl stepM l) ∧ ∀ z, z ∈ p.foldl stepM l ↔ z ∈ l ∨ z ∈ metasOf p
  | [], l, h => ⟨h, fun z => by simp [metasOf]⟩
  | x :: p, l, h => by
    by_cases hk : x.2.k = 6
    · have e : stepM l x = addL l x.2.h := if_pos hk
      have ih := foldM_rise p _ (addL_rise h x.2.h)
      rw [List.foldl_cons, e]
      refine ⟨ih.1, fun z => (ih.2 z).trans ?_⟩
      rw [addL_mem h]
      have : metasOf (x :: p) = x.2.h :: metasOf p := by simp [metasOf, hk]
      rw [this, List.mem_cons]
      constructor
      · rintro ((h | h) | h)
        · exact .inr (.inl h)
        · exact .inl h
        · exact .inr (.inr h)
      · rintro (h | h | h)
        · exact .inl (.inr h)
        · exact .inl (.inl h)
        · exact .inr h
    · have e : stepM l x = l := if_neg hk
      have ih := foldM_rise p _ h
      rw [List.foldl_cons, e]
      have : metasOf (x :: p) = metasOf p := by simp [metasOf, hk]
      rw [this]
      exact ih
theorem foldV_rise : ∀ (p : List (Int × Tm)) (l : List Int), Rise l → Rise (p.foldl stepV l) ∧ ∀ z, z ∈ p.foldl stepV l ↔ z ∈ l ∨ z ∈ varsOf p
  | [], l, h => ⟨h, fun z => by simp [varsOf]⟩
  | x :: p, l, h => by
    by_cases hk : x.2.k = 4 ∧ x.1 ≤ x.2.h
    · have e : stepV l x = addL l (wrap64 (x.2.h - x.1)) := if_pos hk
      have ih := foldV_rise p _ (addL_rise h (wrap64 (x.2.h - x.1)))
      rw [List.foldl_cons, e]
      refine ⟨ih.1, fun z => (ih.2 z).trans ?_⟩
      rw [addL_mem h]
      have : varsOf (x :: p) = wrap64 (x.2.h - x.1) :: varsOf p := by simp [varsOf, hk]
      rw [this, List.mem_cons]
      constructor
      · rintro ((h | h) | h)
        · exact .inr (.inl h)
        · exact .inl h
        · exact .inr (.inr h)
      · rintro (h | h | h)
        · exact .inl (.inr h)
        · exact .inl (.inl h)
        · exact .inr h
    · have e : stepV l x = l := if_neg hk
      have ih := foldV_rise p _ h
      rw [List.foldl_cons, e]
      have : varsOf (x :: p) = varsOf p := by
        unfold varsOf
        rw [List.filterMap_cons]
        simp only [hk, if_false]
      rw [this]
      exact ih

structure FoldRel (f : List Int → Int × Tm → List Int) (k h n : Int) (A : Option Addr) (ts : List Tm) (c : Nat) (out : List Int) (w : World) (i : Nat) (v : Value) (wr : World) : Prop where
  le : i ≤ ts.length
  below : Below w.heap.size w wr
  blk : Blk wr w.heap.size #[.int .i64 k, .int .i64 h, .slice A ts.length c] 26
  out : ∃ ys B d, v = .slice B ys.length d ∧ RdI (fun _ => False) wr B ys ∧ ys.length + cntL (ts.drop i) ≤ out.length + 1 + cntL ts ∧ ((n, (⟨k, h, ts⟩ : Tm)) :: nodesL (isB k) ts n).foldl f out = (nodesL (isB k) (ts.drop i) n).foldl f ys

def RetS (r : List Int) (w : World) (e : Ending) (w' : World) : Prop := (∃ B c, e = .returned (.slice B r.length c) ∧ RdI (fun _ => False) w' B r) ∧ Below w.heap.size w w'

theorem cntL_at {ts : List Tm} {i : Nat} (hlt : i < ts.length) : cntL (ts.drop i) = cnt ts[i] + cntL (ts.drop (i + 1)) := by rw [List.drop_eq_getElem_cons hlt, cntL]
theorem cnt_pos (t : Tm) : 0 < cnt t := by obtain ⟨k, h, a⟩ := t; rw [cnt]; omega

set_option maxHeartbeats 4000000 in
theorem heads_calls (t : Tm) : ∀ (A : Option Addr) (c : Nat) (n : Int) (out : List Int) (B : Option Addr) (d : Nat) (w : World), Reads (fun _ => False) w A t.a → t.a.length ≤ c → RdI (fun _ => False) w B out → out.length + cnt t + 2 ≤ limI →
    Calls Try.prog 37 #[.agg #[.int .i64 t.k, .int .i64 t.h, .slice A t.a.length c], .slice B out.length d] w (RetS ((nodesW t n).foldl stepM out) w) := by
  induction t using Tm.ind with
  | h t ih =>
  intro A c n out B d w hr hc ho hl
  obtain ⟨kk, hh, ts⟩ := t
  dsimp only at hr hc ih ⊢
  rw [cnt] at hl
  have hlen := hr.len
  have hll := hlen
  unfold lim at hlen
  have IH := Lib.hid ih
  have hb0 : Below w.heap.size w (w.alloc (.cells #[.int .i64 kk, .int .i64 hh, .slice A ts.length c] 26)) := bl_alloc (Below.refl _ _) _
  have e0 := Blk.new w #[.int .i64 kk, .int .i64 hh, .slice A ts.length c] 26
  have hadd := add_calls out B d hh _ (ho.mov hb0) (by omega)
  have HA := Lib.hid hadd
  have HB0 := Lib.hid hb0
  have E0 := Lib.hid e0
  have HO := Lib.hid (ho.mov hb0)
  clear ih hb0 e0 hadd
  cases h6 : (kk == 6)
  · have hst : stepM out (n, ⟨kk, hh, ts⟩) = out := if_neg (by simpa using h6)
    have hrel0 : FoldRel stepM kk hh n A ts c out w 0 (.slice B out.length d) (w.alloc (.cells #[.int .i64 kk, .int .i64 hh, .slice A ts.length c] 26)) :=
      ⟨Nat.zero_le _, HB0.out, E0.out, out, B, d, rfl, HO.out, by rw [List.drop_zero]; omega, by rw [List.foldl_cons, hst]; rfl⟩
    have hrel1 := Lib.hid hrel0
    clear hrel0 hst HA HO
    go_enter Try.func37, Try.ntmps37
    go_wp2_with fail
    go_loopw [1, 5] (fun v j wr => ∃ i : Nat, j = .int .i64 i ∧ FoldRel stepM kk hh n A ts c out w i v wr) (fun _ j _ => ts.length - (intOf j).toNat)
    case atStart => exact ⟨0, rfl, hrel1.out⟩
    case round =>
      clear hrel1
      obtain ⟨i, rfl, hrel⟩ := hrel
      obtain ⟨ys, B2, d2, rfl, hry, hyl, hyf⟩ := hrel.out
      have hbw := hrel.below
      have hbk := hrel.blk
      have q0 := hbk.cell 0
      have q1 := hbk.cell 1
      have q2 := hbk.cell 2
      by_cases hlt : i < ts.length
      · obtain ⟨ad, B3, d3, rfl, -, c0, c1, c2, hd, hsub⟩ := (hr.mov hbw).at hlt
        rw [nodesL_at _ hlt, List.foldl_append] at hyf
        rw [cntL_at hlt] at hyl
        have hcp := cnt_pos ts[i]
        have hcall := IH.out ts[i] (List.getElem_mem hlt) B3 d3 (lastN (isB kk) (ts.drop (i + 1)) n) ys B2 d2 wr hsub hd hry (by omega)
        have hfl := fold_len stepM_len (nodesW ts[i] (lastN (isB kk) (ts.drop (i + 1)) n)) ys
        rw [nodesW_len] at hfl
        have HC := Lib.hid hcall
        have HF := Lib.hid hyf
        have HL := Lib.hid hyl
        have HFL := Lib.hid hfl
        clear hcall hyf hyl hfl hrel
        generalize (nodesW ts[i] (lastN (isB kk) (ts.drop (i + 1)) n)).foldl stepM ys = zs at *
        go_wp2_with (go_at_call 37; refine HC.out.mono ?_; clear HC; rintro e w3 ⟨⟨B4, d4, rfl, hr4⟩, hb3⟩)
        refine ⟨⟨i + 1, by go_num, hlt, bl_then hbw hb3, hbk.mov hb3, zs, B4, d4, rfl, hr4, ?_, HF.out⟩, by simp [intOf]; omega⟩
        have h1 := HL.out
        have h2 := HFL.out
        omega
      · obtain rfl : i = ts.length := by have := hrel.le; omega
        have HF := Lib.hid hyf
        clear hyf hrel
        go_wp2_with fail
        go_ret
        have e : (nodesW ⟨kk, hh, ts⟩ n).foldl stepM out = ys := by rw [nodesW, HF.out]; simp [nodesL]
        rw [e]
        exact ⟨⟨B2, d2, rfl, hry⟩, hbw⟩
  · have hst : stepM out (n, ⟨kk, hh, ts⟩) = addL out hh := if_pos (by simpa using h6)
    have HST := Lib.hid hst
    clear hst
    go_enter Try.func37, Try.ntmps37
    go_wp2_with (go_at_call 43; refine HA.out.mono ?_; clear HA; rintro e w1 ⟨⟨B1, c1, rfl, hc1, hr1⟩, hb1⟩)
    have hrel0 : FoldRel stepM kk hh n A ts c out w 0 (.slice B1 (addL out hh).length c1) w1 :=
      ⟨Nat.zero_le _, bl_then HB0.out hb1, E0.out.mov hb1, _, B1, c1, rfl, hr1, by have := addL_len out hh; rw [List.drop_zero]; omega, by rw [List.foldl_cons, HST.out]; rfl⟩
    have hrel1 := Lib.hid hrel0
    clear hrel0 HO
    go_loopw [1, 5] (fun v j wr => ∃ i : Nat, j = .int .i64 i ∧ FoldRel stepM kk hh n A ts c out w i v wr) (fun _ j _ => ts.length - (intOf j).toNat)
    case atStart => exact ⟨0, rfl, hrel1.out⟩
    case round =>
      clear hrel1
      obtain ⟨i, rfl, hrel⟩ := hrel
      obtain ⟨ys, B2, d2, rfl, hry, hyl, hyf⟩ := hrel.out
      have hbw := hrel.below
      have hbk := hrel.blk
      have q0 := hbk.cell 0
      have q1 := hbk.cell 1
      have q2 := hbk.cell 2
      by_cases hlt : i < ts.length
      · obtain ⟨ad, B3, d3, rfl, -, c0, c1, c2, hd, hsub⟩ := (hr.mov hbw).at hlt
        rw [nodesL_at _ hlt, List.foldl_append] at hyf
        rw [cntL_at hlt] at hyl
        have hcp := cnt_pos ts[i]
        have hcall := IH.out ts[i] (List.getElem_mem hlt) B3 d3 (lastN (isB kk) (ts.drop (i + 1)) n) ys B2 d2 wr hsub hd hry (by omega)
        have hfl := fold_len stepM_len (nodesW ts[i] (lastN (isB kk) (ts.drop (i + 1)) n)) ys
        rw [nodesW_len] at hfl
        have HC := Lib.hid hcall
        have HF := Lib.hid hyf
        have HL := Lib.hid hyl
        have HFL := Lib.hid hfl
        clear hcall hyf hyl hfl hrel
        generalize (nodesW ts[i] (lastN (isB kk) (ts.drop (i + 1)) n)).foldl stepM ys = zs at *
        go_wp2_with (go_at_call 37; refine HC.out.mono ?_; clear HC; rintro e w3 ⟨⟨B4, d4, rfl, hr4⟩, hb3⟩)
        refine ⟨⟨i + 1, by go_num, hlt, bl_then hbw hb3, hbk.mov hb3, zs, B4, d4, rfl, hr4, ?_, HF.out⟩, by simp [intOf]; omega⟩
        have h1 := HL.out
        have h2 := HFL.out
        omega
      · obtain rfl : i = ts.length := by have := hrel.le; omega
        have HF := Lib.hid hyf
        clear hyf hrel
        go_wp2_with fail
        go_ret
        have e : (nodesW ⟨kk, hh, ts⟩ n).foldl stepM out = ys := by rw [nodesW, HF.out]; simp [nodesL]
        rw [e]
        exact ⟨⟨B2, d2, rfl, hry⟩, hbw⟩
end Go.Proofs.Ytolpbnkkmkjejaa
