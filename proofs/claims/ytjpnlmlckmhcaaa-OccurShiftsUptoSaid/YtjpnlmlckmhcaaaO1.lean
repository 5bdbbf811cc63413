/- The contracts of occur.Pattern, amanuensisref05.Pattern and amanuensisref05.Ints. -/
import Derived.Test.YtjpnlmlckmhcaaaBI
import Derived.Test.YtjpnlmlckmhcaaaOP
namespace Go.Proofs.Ytjpnlmlckmhcaaa
open Go.RowKit Go.Shelf

/-- What comes back: numbers and true, or nil and false. -/
def RetI (r : Option (List Int)) (w : World) (e : Ending) (w' : World) : Prop :=
  Below w.heap.size w w' ∧ ((r = none ∧ e = .returned (.tuple #[.slice none 0 0, .bool false])) ∨
    ∃ vs B c, r = some vs ∧ e = .returned (.tuple #[.slice B vs.length c, .bool true]) ∧ vs.length ≤ c ∧ RdI (fun _ => False) w' B vs)

structure PatRel (w : World) (ts : List Tm) (hi : Int) (i : Nat) (v : Value) (wr : World) : Prop where
  le : i ≤ ts.length
  below : Below w.heap.size w wr
  out : ∃ vs, MineI w.heap.size wr v vs ∧ vs.length = i ∧ patV ts hi = patGo hi vs (ts.drop i)

theorem lim_limI {n : Nat} (h : n ≤ lim) : n ≤ limI := by unfold lim at h; unfold limI; omega

theorem patGo_at {below : Int} {vs : List Int} {ts : List Tm} {i : Nat} (hlt : i < ts.length) :
    patGo below vs (ts.drop i) = if ts[i].k = 4 ∧ ts[i].a.length = 0 ∧ 0 ≤ ts[i].h ∧ ts[i].h < below ∧ ts[i].h ∉ vs then patGo below (vs ++ [ts[i].h]) (ts.drop (i + 1)) else none := by
  rw [List.drop_eq_getElem_cons hlt, patGo]

set_option maxHeartbeats 4000000 in
theorem Pattern_calls (ts : List Tm) (A : Option Addr) (c : Nat) (below : Int) (w : World) (hr : Reads (fun _ => False) w A ts) :
    Calls Try.prog 11 #[.slice A ts.length c, .int .i64 below] w (RetI (patV ts below) w) := by
  have hlen := hr.len
  have hli := lim_limI hlen
  unfold lim at hlen
  go_enter Try.func11, Try.ntmps11
  go_wp2_with fail
  have hrel0 : PatRel w ts below 0 (.slice none 0 0) w := ⟨Nat.zero_le _, Below.refl _ _, [], MineI.nil _ _, rfl, rfl⟩
  have hrel1 := Lib.hid hrel0
  clear hrel0
  go_loopw [6, 11] (fun v j wr => ∃ i : Nat, j = .int .i64 i ∧ PatRel w ts below i v wr) (fun _ j _ => ts.length - (intOf j).toNat)
  case atStart => exact ⟨0, rfl, hrel1.out⟩
  case round =>
    clear hrel1
    obtain ⟨i, rfl, hrel⟩ := hrel
    obtain ⟨vs, hmine, hvs, hfl⟩ := hrel.out
    have hbw := hrel.below
    by_cases hlt : i < ts.length
    · have hml := hmine.lt
      have hmg := hmine.ge
      have hlim : vs.length ≤ limI := by rw [hvs]; omega
      obtain ⟨ad, B, d, rfl, -, c0, c1, c2, hd, hsub⟩ := (hr.mov hbw).at hlt
      obtain ⟨A2, d2, rfl, hd2, hr2⟩ := hmine.reads hlim
      have hal := hsub.len
      unfold lim at hal
      rw [patGo_at hlt] at hfl
      have HFL := Lib.hid hfl
      have HVS := Lib.hid hvs
      have HC := Lib.hid (fun (W : World) (hb : Below wr.heap.size wr W) => Contains_calls vs A2 d2 ts[i].h W (hr2.mov hb))
      have hdec : ∃ b, decide (ts[i].h ∈ vs) = b := ⟨_, rfl⟩
      obtain ⟨mb, hmb⟩ := hdec
      rw [hmb] at HC
      clear hfl hvs hrel
      cases h1 : (ts[i].k != 4)
      · cases h2 : decide (0 < ts[i].a.length)
        · cases h3 : decide (ts[i].h < 0)
          · cases h4 : decide (below ≤ ts[i].h)
            · cases mb
              · skip
                go_wp2_with (first
                  | (go_at_call 28; refine (HC.out _ (bl_alloc (Below.refl _ _) _)).mono ?_; clear HC; rintro e w3 ⟨rfl, hb3⟩; (with_reducible have z := (Blk.new _ _ _).mov hb3); have z1 := z.cell 1; clear z)
                  | (at_builtin; refine append_int rfl _ _ rfl w.heap.size (.slice A2 vs.length d2) vs ts[i].h rfl rfl (by simp) ((hmine.mov (bl_alloc (Below.refl _ _) _)).mov hb3) ?bb ?ll ?_
                     case bb => exact Nat.le_trans hbw.size (Nat.le_trans (bl_alloc (Below.refl _ _) _).size hb3.size)
                     case ll => (rw [HVS.out]; unfold limI; omega)
                     intro v1 w1 hm1 hg1 _))
                refine ⟨⟨i + 1, by go_num, hlt, bl_grown (bl_then (bl_alloc hbw _) hb3) hg1 (fun k e => hmg k e), vs ++ [ts[i].h], hm1, by rw [List.length_append, HVS.out]; rfl, ?_⟩, by simp [intOf]; omega⟩
                rw [HFL.out, if_pos ⟨by simpa using h1, by simpa using h2, by simpa using h3, by simpa using h4, of_decide_eq_false hmb⟩]
              · skip
                go_wp2_with (first
                  | (go_at_call 28; refine (HC.out _ (bl_alloc (Below.refl _ _) _)).mono ?_; clear HC; rintro e w3 ⟨rfl, hb3⟩))
                go_ret2
                refine ⟨by first | exact bl_then (bl_alloc hbw _) hb3 | exact bl_alloc hbw _, .inl ⟨?_, rfl⟩⟩
                rw [HFL.out, if_neg (fun q => ?_)]
                obtain ⟨x1, x2, x3, x4, x5⟩ := q
                first
                  | exact x5 (of_decide_eq_true hmb)
                  | (simp at h4; omega)
                  | (simp at h3; omega)
                  | (simp [x2] at h2; done)
                  | (simp [x1] at h1; done)
            · skip
              go_wp2_with (first
                | (go_at_call 28; refine (HC.out _ (bl_alloc (Below.refl _ _) _)).mono ?_; clear HC; rintro e w3 ⟨rfl, hb3⟩))
              go_ret2
              refine ⟨by first | exact bl_then (bl_alloc hbw _) hb3 | exact bl_alloc hbw _, .inl ⟨?_, rfl⟩⟩
              rw [HFL.out, if_neg (fun q => ?_)]
              obtain ⟨x1, x2, x3, x4, x5⟩ := q
              first
                | exact x5 (of_decide_eq_true hmb)
                | (simp at h4; omega)
                | (simp at h3; omega)
                | (simp [x2] at h2; done)
                | (simp [x1] at h1; done)
          · skip
            go_wp2_with (first
              | (go_at_call 28; refine (HC.out _ (bl_alloc (Below.refl _ _) _)).mono ?_; clear HC; rintro e w3 ⟨rfl, hb3⟩))
            go_ret2
            refine ⟨by first | exact bl_then (bl_alloc hbw _) hb3 | exact bl_alloc hbw _, .inl ⟨?_, rfl⟩⟩
            rw [HFL.out, if_neg (fun q => ?_)]
            obtain ⟨x1, x2, x3, x4, x5⟩ := q
            first
              | exact x5 (of_decide_eq_true hmb)
              | (simp at h4; omega)
              | (simp at h3; omega)
              | (simp [x2] at h2; done)
              | (simp [x1] at h1; done)
        · skip
          go_wp2_with (first
            | (go_at_call 28; refine (HC.out _ (bl_alloc (Below.refl _ _) _)).mono ?_; clear HC; rintro e w3 ⟨rfl, hb3⟩))
          go_ret2
          refine ⟨by first | exact bl_then (bl_alloc hbw _) hb3 | exact bl_alloc hbw _, .inl ⟨?_, rfl⟩⟩
          rw [HFL.out, if_neg (fun q => ?_)]
          obtain ⟨x1, x2, x3, x4, x5⟩ := q
          first
            | exact x5 (of_decide_eq_true hmb)
            | (simp at h4; omega)
            | (simp at h3; omega)
            | (simp [x2] at h2; done)
            | (simp [x1] at h1; done)
      · skip
        go_wp2_with (first
          | (go_at_call 28; refine (HC.out _ (bl_alloc (Below.refl _ _) _)).mono ?_; clear HC; rintro e w3 ⟨rfl, hb3⟩))
        go_ret2
        refine ⟨by first | exact bl_then (bl_alloc hbw _) hb3 | exact bl_alloc hbw _, .inl ⟨?_, rfl⟩⟩
        rw [HFL.out, if_neg (fun q => ?_)]
        obtain ⟨x1, x2, x3, x4, x5⟩ := q
        first
          | exact x5 (of_decide_eq_true hmb)
          | (simp at h4; omega)
          | (simp at h3; omega)
          | (simp [x2] at h2; done)
          | (simp [x1] at h1; done)
    · obtain rfl : i = ts.length := by have := hrel.le; omega
      obtain ⟨B, d, rfl, hd2, hrd⟩ := hmine.reads (by omega)
      have HFL := Lib.hid hfl
      clear hfl hrel
      go_wp2_with fail
      go_ret2
      refine ⟨hbw, .inr ⟨vs, B, d, ?_, rfl, hd2, hrd⟩⟩
      rw [HFL.out]
      simp [patGo]
end Go.Proofs.Ytjpnlmlckmhcaaa
