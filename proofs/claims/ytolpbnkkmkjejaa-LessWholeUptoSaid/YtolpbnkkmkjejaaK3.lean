/- The contract of the document's answer to a call. -/
import Derived.Test.YtolpbnkkmkjejaaK2
namespace Go.Proofs.Ytolpbnkkmkjejaa
open Go.RowKit Go.Shelf
set_option linter.unusedSimpArgs false

structure MemRel (xs : List Int) (h : Int) (w : World) (i : Nat) (wr : World) : Prop where
  le : i ≤ xs.length
  below : Below w.heap.size w wr
  no : ∀ j, (hj : j < xs.length) → j < i → xs[j] ≠ h

set_option maxHeartbeats 8000000 in
set_option maxRecDepth 100000 in
theorem refCall_calls (fs : List Fu) (A : Option Addr) (a : Nat) (y : Cs) (x : Cl) (ks xs : List Value) (w : World) (hr : Row eF 13 (fun _ => False) w A fs) (hk : eK (fun _ => False) w ks y) (hx : eC (fun _ => False) w xs x) (hp : gT 1048576 y.p) :
    Calls Try.prog 12 #[.slice A fs.length a, .agg ks.toArray, .agg xs.toArray] w fun e w' => e = .returned (.int .i64 (lessE fs y x)) ∧ Below w.heap.size w w' := by
  have hlen := hr.1
  unfold lim at hlen
  obtain ⟨A1, a1, B1, b1, C1, c1, D1, d1, E1, e1, rfl, ⟨-, hms⟩, -, ⟨hc, hrp⟩, -⟩ := hk
  obtain ⟨A2, a2, B2, b2, C2, c2, rfl, -, -, -, -, hc2, hra⟩ := hx
  have hlm := hms.1
  have hla := hra.len
  unfold lim at hlm hla
  rcases Int.lt_or_le x.f 0 with h0 | h0
  · have hn : lessB fs y x = false := by unfold lessB totB; rw [decide_eq_false (by omega)]; rfl
    have HN := Lib.hid hn
    clear hn
    go_enter Try.func12, Try.ntmps12
    go_wp2_with fail
    go_ret
    exact ⟨ret_int (lessE_no HN.out).symm, bl_alloc (bl_alloc (Below.refl _ _) _) _⟩
  rcases Int.lt_or_le x.f (fs.length : Int) with h1 | h1
  rotate_left
  · have hn : lessB fs y x = false := by unfold lessB totB; rw [decide_eq_true h0, decide_eq_false (by omega)]; rfl
    have HN := Lib.hid hn
    clear hn
    go_enter Try.func12, Try.ntmps12
    go_wp2_with fail
    go_ret
    exact ⟨ret_int (lessE_no HN.out).symm, bl_alloc (bl_alloc (Below.refl _ _) _) _⟩
  obtain ⟨n, hn⟩ : ∃ n : Nat, x.f = (n : Int) := ⟨x.f.toNat, by omega⟩
  have hlt : n < fs.length := by omega
  have htot : totB fs x = fs[n].tot := by
    unfold totB
    rw [hn, decide_eq_true (by omega), decide_eq_true (by omega), Int.toNat_natCast, List.getElem?_eq_getElem hlt]
    rfl
  have hL : lessB fs y x = (fs[n].tot && (((x.arg.k == 6) && (decide (0 ≤ x.arg.h) && decide (x.arg.h < (y.ms.length : Int)))) && (renB x && ((y.p.k != 6) && decide (x.arg.h ∈ (nodesW y.p 0).foldl stepM []))))) := by
    unfold lessB
    rw [htot]
    rfl
  obtain ⟨ad, cs, rfl, -, hcl, k0, kj, hE⟩ := hr.at hlt
  obtain ⟨A3, a3, B3, b3, C3, c3, D3, d3, E3, e3, F3, f3, G3, g3, rfl, -⟩ := hE
  have q := kj 11 _ rfl
  have hb0 : Below w.heap.size w (((w.alloc (.cells #[.slice A1 y.ms.length a1, .slice B1 y.th.length b1, .int .i64 y.p.k, .int .i64 y.p.h, .slice C1 y.p.a.length c1, .slice D1 y.cs.length d1, .int .i64 y.r.k, .int .i64 y.r.h, .slice E1 y.r.a.length e1] 29)).alloc (.cells #[.int .i64 (n : Int), .slice A2 x.ext.length a2, .slice B2 x.th.length b2, .int .i64 x.arg.k, .int .i64 x.arg.h, .slice C2 x.arg.a.length c2] 31)).alloc (.cells #[.int .i64 x.arg.k, .int .i64 x.arg.h, .slice C2 x.arg.a.length c2] 26)) := bl_alloc (bl_alloc (bl_alloc (Below.refl _ _) _) _) _
  have q11 := cell_mov q (bl_alloc (bl_alloc (bl_alloc (Below.refl w.heap.size w) (.cells #[.slice A1 y.ms.length a1, .slice B1 y.th.length b1, .int .i64 y.p.k, .int .i64 y.p.h, .slice C1 y.p.a.length c1, .slice D1 y.cs.length d1, .int .i64 y.r.k, .int .i64 y.r.h, .slice E1 y.r.a.length e1] 29)) (.cells #[.int .i64 (n : Int), .slice A2 x.ext.length a2, .slice B2 x.th.length b2, .int .i64 x.arg.k, .int .i64 x.arg.h, .slice C2 x.arg.a.length c2] 31)) (.cells #[.int .i64 x.arg.k, .int .i64 x.arg.h, .slice C2 x.arg.a.length c2] 26))
  have e0 := ((Blk.new w #[.slice A1 y.ms.length a1, .slice B1 y.th.length b1, .int .i64 y.p.k, .int .i64 y.p.h, .slice C1 y.p.a.length c1, .slice D1 y.cs.length d1, .int .i64 y.r.k, .int .i64 y.r.h, .slice E1 y.r.a.length e1] 29).mov (bl_alloc (Below.refl _ _) (.cells #[.int .i64 (n : Int), .slice A2 x.ext.length a2, .slice B2 x.th.length b2, .int .i64 x.arg.k, .int .i64 x.arg.h, .slice C2 x.arg.a.length c2] 31))).mov (bl_alloc (Below.refl _ _) (.cells #[.int .i64 x.arg.k, .int .i64 x.arg.h, .slice C2 x.arg.a.length c2] 26))
  have ec := (Blk.new (w.alloc (.cells #[.slice A1 y.ms.length a1, .slice B1 y.th.length b1, .int .i64 y.p.k, .int .i64 y.p.h, .slice C1 y.p.a.length c1, .slice D1 y.cs.length d1, .int .i64 y.r.k, .int .i64 y.r.h, .slice E1 y.r.a.length e1] 29)) #[.int .i64 (n : Int), .slice A2 x.ext.length a2, .slice B2 x.th.length b2, .int .i64 x.arg.k, .int .i64 x.arg.h, .slice C2 x.arg.a.length c2] 31).mov (bl_alloc (Below.refl _ _) (.cells #[.int .i64 x.arg.k, .int .i64 x.arg.h, .slice C2 x.arg.a.length c2] 26))
  have e2 := Blk.new ((w.alloc (.cells #[.slice A1 y.ms.length a1, .slice B1 y.th.length b1, .int .i64 y.p.k, .int .i64 y.p.h, .slice C1 y.p.a.length c1, .slice D1 y.cs.length d1, .int .i64 y.r.k, .int .i64 y.r.h, .slice E1 y.r.a.length e1] 29)).alloc (.cells #[.int .i64 (n : Int), .slice A2 x.ext.length a2, .slice B2 x.th.length b2, .int .i64 x.arg.k, .int .i64 x.arg.h, .slice C2 x.arg.a.length c2] 31)) #[.int .i64 x.arg.k, .int .i64 x.arg.h, .slice C2 x.arg.a.length c2] 26
  simp only [World.size_alloc] at e2 ec
  have EC := Lib.hid ec
  have HM := Lib.hid (fun (W : World) (hb : Below w.heap.size w W) => MetasR_calls y.p C1 c1 W (hrp.mov hb) hc (by have := hp.2; unfold limI; omega))
  have HL := Lib.hid hL
  have HB0 := Lib.hid hb0
  have E0 := Lib.hid e0
  have E2 := Lib.hid e2
  rw [hn] at h0 h1 ⊢
  have htr : ∃ b, fs[n].tot = b := ⟨_, rfl⟩
  have hRT := hra
  clear htot hL hn hcl k0 kj q hb0 e0 e2 ec hr
  generalize hms2 : (nodesW y.p 0).foldl stepM [] = ms at *
  clear hms2
  go_enter Try.func12, Try.ntmps12
  go_upto_region 4 with fail
  obtain ⟨W0, hW0⟩ : ∃ W0, (((w.alloc (.cells #[.slice A1 y.ms.length a1, .slice B1 y.th.length b1, .int .i64 y.p.k, .int .i64 y.p.h, .slice C1 y.p.a.length c1, .slice D1 y.cs.length d1, .int .i64 y.r.k, .int .i64 y.r.h, .slice E1 y.r.a.length e1] 29)).alloc (.cells #[.int .i64 (n : Int), .slice A2 x.ext.length a2, .slice B2 x.th.length b2, .int .i64 x.arg.k, .int .i64 x.arg.h, .slice C2 x.arg.a.length c2] 31)).alloc (.cells #[.int .i64 x.arg.k, .int .i64 x.arg.h, .slice C2 x.arg.a.length c2] 26)) = W0 := ⟨_, rfl⟩
  rw [hW0] at q11 HB0 E0 E2 EC ⊢
  clear hW0
  have r0 := EC.out.cell 0
  have r1 := E2.out.cell 0
  have r2 := E2.out.cell 1
  have r3 := E0.out.cell 0
  have r4 := E0.out.cell 2
  go_wp2_with fail
  all_goals first
    | (go_ret; exact ⟨ret_int (lessE_no (Bool.eq_false_iff.2 fun q => by (rw [HL.out] at q; simp only [Bool.and_eq_true, beq_iff_eq, decide_eq_true_eq, bne_iff_ne] at q; obtain ⟨z1, ⟨z2, z3, z4⟩, z5, z6, z7⟩ := q; exfalso; first | omega | (clear HL; grind)))).symm, HB0.out⟩)
    | skip
  have hL2 : lessB fs y x = (renB x && decide (x.arg.h ∈ ms)) := by
    rw [HL.out]
    simp [*]
    first | done | (clear HL; grind)
  have HL2 := Lib.hid hL2
  clear hL2 HL q11 r0 r1 r2 r3 r4
  go_loopw [8] (fun j wr => ∃ i : Nat, j = .int .i64 i ∧ AllRel plainB x.arg.a W0 i wr) (fun j _ => x.arg.a.length - (intOf j).toNat)
  case atStart => exact ⟨0, rfl, .zero _ _ (Below.refl _ _)⟩
  case round =>
    obtain ⟨i, rfl, hrel⟩ := hrel
    have hbw := hrel.below
    have p2 := (E2.out.mov hbw).cell 2
    by_cases hli : i < x.arg.a.length
    · obtain ⟨ad2, B4, d4, rfl, -, c0, c1, c2, hd, hsub⟩ := ((hra.mov HB0.out).mov hbw).at hli
      have hsl := hsub.len
      unfold lim at hsl
      have hP : plainB x.arg.a[i] = ((x.arg.a[i].k == 4) && !decide (0 < x.arg.a[i].a.length)) := rfl
      cases hv : plainB x.arg.a[i]
      · rw [hv] at hP
        have HP := Lib.hid hP
        have HV := Lib.hid hv
        clear hP hv
        go_wp2_with fail
        all_goals first
          | (go_ret; exact ⟨ret_int (lessE_no (by rw [HL2.out]; unfold renB; rw [hrel.no hli HV.out]; rfl)).symm, bl_then HB0.out hbw⟩)
          | (exfalso; have z := HP.out; simp at z; grind)
      · rw [hv] at hP
        simp at hP
        have HP := Lib.hid hP
        have HV := Lib.hid hv
        have t1 : (x.arg.a[i].k != 4) = false := by simp [hP.1]
        have t2 : ((x.arg.a[i].a.length : Int) != 0) = false := by simp [hP.2]
        clear hP hv
        go_wp2_with fail
        exact ⟨⟨i + 1, by go_num, hrel.next hli HV.out (Below.refl _ _)⟩, by simp [intOf]; omega⟩
    · have hy := hrel.yes hli
      have hL3 : lessB fs y x = decide (x.arg.h ∈ ms) := by rw [HL2.out]; unfold renB; rw [hy]; rfl
      have HL3 := Lib.hid hL3
      rw [Nat.not_lt] at hli
      have s3 := (E0.out.mov hbw).cell 2
      have s4 := (E0.out.mov hbw).cell 3
      have s5 := (E0.out.mov hbw).cell 4
      clear hy hL3 hrel HL2
      go_wp2_with (go_at_call 28; refine (HM.out _ (bl_then HB0.out hbw)).mono ?_; clear HM; rintro e w5 ⟨⟨B5, d5, rfl, hr5⟩, hb5⟩)
      have hl5 := hr5.1
      unfold limI at hl5
      have HR5 := Lib.hid hr5
      have HX2 := Lib.hid ((E2.out.mov hbw).mov hb5)
      have hw5 := bl_then (bl_then HB0.out hbw) hb5
      clear hr5 s3 s4 s5 p2
      go_loopw [10] (fun j wr => ∃ i : Nat, j = .int .i64 i ∧ MemRel ms x.arg.h w5 i wr) (fun j _ => ms.length - (intOf j).toNat)
      case atStart => exact ⟨0, rfl, Nat.zero_le _, Below.refl _ _, fun j _ h => absurd h (by omega)⟩
      case round =>
        obtain ⟨k, rfl, hrel⟩ := hrel
        obtain ⟨wz, rfl⟩ : ∃ wz : World, wz = wr := ⟨_, rfl⟩
        have hbz := hrel.below
        have hno := hrel.no
        have p1 := (HX2.out.mov hbz).cell 1
        by_cases hlk : k < ms.length
        · obtain ⟨ad5, e5, -, m0⟩ := (HR5.out.mov hbz).2 k hlk
          cases e5
          have hi0 : (0 : Int) ≤ (k : Int) := by omega
          have hi1 : (k : Int) < (ms.length : Int) := by omega
          cases hv : (ms[k] == x.arg.h)
          all_goals
            go_wp2_with fail
            go_still_tail 6, (by kernel_rfl)
            go_wp2_with fail
          · refine ⟨⟨k + 1, by go_num, hlk, hbz.drew, fun j hj hjk => ?_⟩, by simp [intOf]; omega⟩
            by_cases h2 : j < k
            · exact hno j hj h2
            · obtain rfl : j = k := by omega
              simpa using hv
          · go_ret
            refine ⟨ret_int (lessE_yes ?_).symm, bl_then hw5 hbz.drew⟩
            rw [HL3.out, ← show ms[k] = x.arg.h by simpa using hv]
            exact decide_eq_true (List.getElem_mem hlk)
        · obtain rfl : k = ms.length := by have := hrel.le; omega
          go_wp2_with fail
          go_ret
          refine ⟨ret_int (lessE_no ?_).symm, bl_then hw5 hbz⟩
          rw [HL3.out]
          refine decide_eq_false fun q => ?_
          obtain ⟨j, hj, e⟩ := List.getElem_of_mem q
          exact hno j hj hj e
end Go.Proofs.Ytolpbnkkmkjejaa
