/- The contracts of amanuensisref05.Pattern and amanuensisref05.Ints. -/
import Derived.Test.YtjpnlmlckmhcaaaO1
namespace Go.Proofs.Ytjpnlmlckmhcaaa
open Go.RowKit Go.Shelf

structure PatRel2 (w : World) (ts : List Tm) (hi : Int) (i : Nat) (v : Value) (wr : World) : Prop where
  le : i ≤ ts.length
  below : Below w.heap.size w wr
  out : MineI w.heap.size wr v ((ts.take i).map (·.h)) ∧ patV ts hi = patGo hi ((ts.take i).map (·.h)) (ts.drop i)
structure PatIn (w wr : World) (ts : List Tm) (i k : Nat) (wq : World) : Prop where
  le : k ≤ i
  below : Below w.heap.size w wq
  far : Below wr.heap.size wr wq
  ok : ∀ j, (hj : j < ts.length) → j < k → (hi : i < ts.length) → ts[j].h ≠ ts[i].h

theorem heads_take {ts : List Tm} {i : Nat} (hlt : i < ts.length) : (ts.take (i + 1)).map (·.h) = (ts.take i).map (·.h) ++ [ts[i].h] := by
  rw [List.map_take, List.map_take, List.take_add_one]
  simp [hlt]

set_option maxHeartbeats 4000000 in
set_option maxRecDepth 100000 in
theorem PatternR_calls (ts : List Tm) (A : Option Addr) (c : Nat) (below : Int) (w : World) (hr : Reads (fun _ => False) w A ts) :
    Calls Try.prog 12 #[.slice A ts.length c, .int .i64 below] w (RetI (patV ts below) w) := by
  have hlen := hr.len
  have hli := lim_limI hlen
  unfold lim at hlen
  go_enter Try.func12, Try.ntmps12
  go_wp2_with fail
  have hrel0 : PatRel2 w ts below 0 (.slice none 0 0) w := ⟨Nat.zero_le _, Below.refl _ _, MineI.nil _ _, rfl⟩
  have hrel1 := Lib.hid hrel0
  clear hrel0
  go_loopw [6, 7, 8] (fun v j _ wr => ∃ i : Nat, j = .int .i64 i ∧ PatRel2 w ts below i v wr) (fun _ j _ _ => ts.length - (intOf j).toNat)
  case atStart => exact ⟨0, rfl, hrel1.out⟩
  case round =>
    clear hrel1
    obtain ⟨i, rfl, hrel⟩ := hrel
    obtain ⟨hmine, hfl⟩ := hrel.out
    have hbw := hrel.below
    have hvs : ((ts.take i).map (·.h)).length = i := by have := hrel.le; simp; omega
    by_cases hlt : i < ts.length
    · have hml := hmine.lt
      have hmg := hmine.ge
      have hrw := hr.mov hbw
      obtain ⟨ad, B, d, rfl, -, c0, c1, c2, hd, hsub⟩ := hrw.at hlt
      have hal := hsub.len
      unfold lim at hal
      rw [patGo_at hlt] at hfl
      have HFL := Lib.hid hfl
      clear hfl hrel
      cases h1 : (ts[i].k != 4)
      · cases h2 : ((ts[i].a.length : Int) != 0)
        · cases h3 : decide (ts[i].h < 0)
          · cases h4 : decide (below ≤ ts[i].h)
            · go_wp2_with fail
              go_loopw [8] (fun x wq => ∃ (k : Nat), x = .int .i64 k ∧ PatIn w wr ts i k wq) (fun x _ => i - (intOf x).toNat)
              case atStart => exact ⟨0, rfl, Nat.zero_le _, hbw, Below.refl _ _, fun j _ h _ => absurd h (by omega)⟩
              case round =>
                obtain ⟨k, rfl, hin⟩ := hrel
                have hk := hin.le
                by_cases hkl : k < i
                · have hkx : k < ts.length := by omega
                  obtain ⟨ad1, B1, d1, e1, -, -, x1, -, -, -⟩ := (hrw.mov hin.far).at hkx
                  cases e1
                  obtain ⟨ad2, B2, d2, e2, -, -, y1, -, -, -⟩ := (hrw.mov hin.far).at hlt
                  cases e2
                  have hnx := hin.ok
                  cases hv : (ts[k].h == ts[i].h)
                  all_goals
                    go_wp2_with fail
                    go_still_tail 10, (by kernel_rfl)
                    go_wp2
                  · refine ⟨⟨k + 1, by go_num, hkl, hin.below.drew, hin.far.drew, fun j hj hjk hi2 => ?_⟩, by simp [intOf]; omega⟩
                    by_cases hjk2 : j < k
                    · exact hnx j hj hjk2 hi2
                    · obtain rfl : j = k := by omega
                      simpa using hv
                  · go_ret2
                    refine ⟨hin.below.drew, .inl ⟨?_, rfl⟩⟩
                    have e : ts[k].h = ts[i].h := by simpa using hv
                    have hmem : ts[i].h ∈ (ts.take i).map (·.h) := by
                      rw [← e]
                      exact List.mem_map.2 ⟨ts[k], List.mem_take_iff_getElem.2 ⟨k, by omega, rfl⟩, rfl⟩
                    rw [HFL.out, if_neg (fun q => q.2.2.2.2 hmem)]
                · obtain rfl : k = i := by omega
                  have hok := hin.ok
                  have hfar := hin.far
                  obtain ⟨ad2, B2, d2, e2, -, -, y1, -, -, -⟩ := (hrw.mov hfar).at hlt
                  cases e2
                  go_wp2_with (at_builtin; refine append_int rfl _ _ rfl w.heap.size u6 ((ts.take k).map (·.h)) ts[k].h rfl rfl (by simp) (hmine.mov hfar) ?bb ?ll ?_
                               case bb => exact Nat.le_trans hbw.size hfar.size
                               case ll => (rw [hvs]; unfold limI; omega)
                               intro v1 w1 hm1 hg1 _
                               rw [← heads_take hlt] at hm1)
                  have hmem : ts[k].h ∉ (ts.take k).map (·.h) := by
                    intro q
                    obtain ⟨t, ht, e⟩ := List.mem_map.1 q
                    obtain ⟨j, hj, rfl⟩ := List.mem_take_iff_getElem.1 ht
                    exact hok j (by omega) (by omega) hlt e
                  refine ⟨⟨k + 1, by go_num, hlt, bl_grown hin.below hg1 (fun j e => hmg j e), hm1, ?_⟩, by simp [intOf]; omega⟩
                  rw [HFL.out, if_pos ⟨by simpa using h1, by simpa using h2, by simpa using h3, by simpa using h4, hmem⟩, heads_take hlt]
            · skip
              go_wp2_with fail
              go_ret2
              refine ⟨hbw, .inl ⟨?_, rfl⟩⟩
              rw [HFL.out, if_neg (fun q => ?_)]
              obtain ⟨x1, x2, x3, x4, x5⟩ := q
              first
                | (simp at h4; omega)
                | (simp at h3; omega)
                | (simp [x2] at h2; done)
                | (simp [x1] at h1; done)
          · skip
            go_wp2_with fail
            go_ret2
            refine ⟨hbw, .inl ⟨?_, rfl⟩⟩
            rw [HFL.out, if_neg (fun q => ?_)]
            obtain ⟨x1, x2, x3, x4, x5⟩ := q
            first
              | (simp at h4; omega)
              | (simp at h3; omega)
              | (simp [x2] at h2; done)
              | (simp [x1] at h1; done)
        · skip
          go_wp2_with fail
          go_ret2
          refine ⟨hbw, .inl ⟨?_, rfl⟩⟩
          rw [HFL.out, if_neg (fun q => ?_)]
          obtain ⟨x1, x2, x3, x4, x5⟩ := q
          first
            | (simp at h4; omega)
            | (simp at h3; omega)
            | (simp [x2] at h2; done)
            | (simp [x1] at h1; done)
      · skip
        go_wp2_with fail
        go_ret2
        refine ⟨hbw, .inl ⟨?_, rfl⟩⟩
        rw [HFL.out, if_neg (fun q => ?_)]
        obtain ⟨x1, x2, x3, x4, x5⟩ := q
        first
          | (simp at h4; omega)
          | (simp at h3; omega)
          | (simp [x2] at h2; done)
          | (simp [x1] at h1; done)
    · obtain rfl : i = ts.length := by have := hrel.le; omega
      obtain ⟨B, d, rfl, hd2, hrd⟩ := hmine.reads (by omega)
      have HFL := Lib.hid hfl
      clear hfl hrel
      go_wp2_with fail
      go_ret2
      refine ⟨hbw, .inr ⟨_, B, d, ?_, rfl, hd2, hrd⟩⟩
      rw [HFL.out]
      simp [patGo]

/-- Are two rows of numbers the same? -/
def intsB (a b : List Int) : Bool := decide (a = b)

structure IntsRel (w : World) (xs ys : List Int) (i : Nat) (wr : World) : Prop where
  le : i ≤ xs.length
  below : Below w.heap.size w wr
  ok : ∀ j, (h1 : j < xs.length) → (h2 : j < ys.length) → j < i → xs[j] = ys[j]

set_option maxHeartbeats 4000000 in
set_option maxRecDepth 100000 in
theorem Ints_calls (xs ys : List Int) (A B : Option Addr) (c d : Nat) (w : World) (hx : RdI (fun _ => False) w A xs) (hy : RdI (fun _ => False) w B ys) :
    Calls Try.prog 13 #[.slice A xs.length c, .slice B ys.length d] w fun e w' => e = .returned (.bool (decide (xs = ys))) ∧ Below w.heap.size w w' := by
  have hl1 := hx.1
  have hl2 := hy.1
  unfold limI at hl1 hl2
  cases hne : ((xs.length : Int) != (ys.length : Int))
  · have hle : xs.length = ys.length := by have h0 := hne; simp at h0; omega
    have HLE := Lib.hid hle
    clear hle
    go_enter Try.func13, Try.ntmps13
    go_wp2_with fail
    clear hne
    go_loopw [5] (fun j wr => ∃ (i : Nat), j = .int .i64 i ∧ IntsRel w xs ys i wr) (fun j _ => xs.length - (intOf j).toNat)
    case atStart => exact ⟨0, rfl, Nat.zero_le _, Below.refl _ _, fun j _ _ h => absurd h (by omega)⟩
    case round =>
      obtain ⟨i, rfl, hrel⟩ := hrel
      by_cases hlt : i < xs.length
      · obtain ⟨a1, rfl, -, c1⟩ := (hx.mov hrel.below).2 i hlt
        have hly : i < ys.length := by have := HLE.out; omega
        obtain ⟨a2, rfl, -, c2⟩ := (hy.mov hrel.below).2 i hly
        have hok := hrel.ok
        cases hv : (xs[i] != ys[i])
        all_goals
          go_wp2_with fail
          go_still_tail 8, (by kernel_rfl)
          go_wp2
        · refine ⟨⟨i + 1, by go_num, hlt, hrel.below.drew, fun j h1 h2 hj => ?_⟩, by simp [intOf]; omega⟩
          by_cases hji : j < i
          · exact hok j h1 h2 hji
          · obtain rfl : j = i := by omega
            simpa using hv
        · go_ret
          refine ⟨ret_bool (Eq.symm (decide_eq_false fun e => ?_)), hrel.below.drew⟩
          subst e
          simp at hv
      · have hi := hrel.le
        obtain rfl : i = xs.length := by omega
        have hok := hrel.ok
        go_wp2_with fail
        go_ret
        refine ⟨ret_bool (Eq.symm (decide_eq_true ?_)), hrel.below⟩
        exact List.ext_getElem HLE.out fun j h1 h2 => hok j h1 h2 h1
  · go_enter Try.func13, Try.ntmps13
    go_wp2_with fail
    go_ret
    refine ⟨ret_bool (Eq.symm (decide_eq_false fun e => ?_)), Below.refl _ _⟩
    subst e
    simp at hne
end Go.Proofs.Ytjpnlmlckmhcaaa
