/- The law LessWhole. -/
import Derived.Test.YtolpbnkkmkjejaaK6
import Derived.Test.YtolpbnkkmkjejaaRA
namespace Go.Proofs.Ytolpbnkkmkjejaa
open Go.RowKit Go.Shelf
set_option linter.unusedVariables false
set_option linter.unusedSimpArgs false

theorem oneF {S : Nat → Prop} {w : World} {cs : List Value} {x : Fu} (h : eF S w cs x) : ∀ u ∈ cs, u.oneCell' = true := by
  obtain ⟨A, a, B, b, C, c, D, d, E, e, F, f, G, g, rfl, -⟩ := h
  intro u hu
  simp only [List.mem_cons, List.not_mem_nil, or_false] at hu
  rcases hu with rfl | rfl | rfl | rfl | rfl | rfl | rfl | rfl | rfl | rfl | rfl | rfl | rfl <;> rfl
theorem infoFu : (Try.prog.info? 44).map (fun i => (i.zero, i.size, i.bytes)) = some (some (.agg #[.string { data := #[] }, .slice none 0 0, .slice none 0 0, .slice none 0 0, .int .i64 0, .int .i64 0, .slice none 0 0, .slice none 0 0, .int .i64 0, .int .i64 0, .slice none 0 0, .bool false, .slice none 0 0]), 13, 224) := by kernel_rfl

def offF (f : Fu) : Fu := { f with tot := false }
def wholeY (y : Cs) (x : Cl) : Cl := ⟨x.f, x.ext, x.th, y.p⟩
def wholeZ (y : Cs) (x : Cl) : Cl := ⟨x.f, x.ext, x.th, ⟨6, y.ms.length, []⟩⟩
theorem wholeY_no (fs : List Fu) (y : Cs) (x : Cl) : lessE fs y (wholeY y x) = 11 := by
  refine lessE_no ?_
  unfold lessB metB partB wholeY
  dsimp only
  cases h : (y.p.k == 6) <;> simp [bne, h]
theorem wholeZ_no (fs : List Fu) (y : Cs) (x : Cl) : lessE fs y (wholeZ y x) = 11 := by
  refine lessE_no ?_
  unfold lessB metB wholeZ
  dsimp only
  simp
theorem offF_no (fs : List Fu) (y : Cs) (x : Cl) : lessE (fs.map offF) y x = 11 := by
  refine lessE_no ?_
  unfold lessB totB
  rw [List.getElem?_map]
  cases fs[x.f.toNat]? with
  | none => simp
  | some f => simp [offF]

/-- Some of the functions are off. -/
def Offs (S : Nat → Prop) (w : World) (g : Nat) (xs : List Fu) (k : Nat) : Prop :=
  ∃ cur, Blk w g cur 44 ∧ ∀ i, (hi : i < xs.length) → ∃ cs, cs.length = 13 ∧ eF S w cs xs[i] ∧ ∀ j, j < 13 → cur[i * 13 + j]? = if j = 11 ∧ i < k then some (.bool false) else cs[j]?
theorem Offs.done {S : Nat → Prop} {w : World} {g : Nat} {xs : List Fu} (h : Offs S w g xs xs.length) (hl : xs.length ≤ lim) : Row eF 13 (fun _ => False) w (some ⟨g, 0, none⟩) (xs.map offF) := by
  obtain ⟨cur, hb, hc⟩ := h
  refine ⟨by rw [List.length_map]; exact hl, fun i hi => ?_⟩
  rw [List.length_map] at hi
  obtain ⟨cs, h1, h2, h3⟩ := hc i hi
  refine ⟨⟨g, 0, none⟩, cs.set 11 (.bool false), rfl, rfl, fun q => q, by simpa using h1, fun j u hu => ?_, ?_⟩
  · rw [Nat.zero_add, hb.cell]
    have hj : j < 13 := by have := (List.getElem?_eq_some_iff.1 hu).1; simp at this; omega
    rw [h3 j hj]
    by_cases e : j = 11
    · subst e
      rw [if_pos ⟨rfl, hi⟩]
      rw [List.getElem?_set_self (by omega)] at hu
      exact hu
    · rw [if_neg (fun q => e q.1)]
      rw [List.getElem?_set_ne (Ne.symm e)] at hu
      exact hu
  · rw [List.getElem_map]
    obtain ⟨A, a, B, b, C, c, D, d, E, e, F, f, G, gg, rfl, r⟩ := (lasts_F.step (S' := fun _ => False) (fun _ _ _ q => q) (fun _ _ _ => rfl) h2 : eF (fun _ => False) w cs xs[i])
    exact ⟨A, a, B, b, C, c, D, d, E, e, F, f, G, gg, rfl, r⟩

set_option maxHeartbeats 16000000 in
set_option maxRecDepth 100000 in
theorem LessWhole_row (w : World) (fs : List Fu) (A : Option Addr) (a : Nat) (hr : Row eF 13 (fun _ => False) w A fs) (_ : fs.length ≤ a) (gf : ∀ f ∈ fs, gF 1048576 f) (nF : fs.length ≤ 1048576) (y : Cs) (ks : List Value) (hk : eK (fun _ => False) w ks y) (gk : gK 1048576 y) (x : Cl) (xs : List Value) (hx : eC (fun _ => False) w xs x) (gx : gC 1048576 x) :
    Calls Try.prog 6 #[.slice A fs.length a, .agg ks.toArray, .agg xs.toArray] w fun e w' => e = .returned (.bool true) ∧ Below w.heap.size w w' := by
  have hlen := hr.1
  have hll := hlen
  unfold lim at hlen
  have hk0' := hk
  have hk0 := hk
  have hx0 := hx
  obtain ⟨A1, a1, B1, b1, C1, c1, D1, d1, E1, e1, rfl, ⟨-, hms⟩, -, ⟨hcp, hrp⟩, -⟩ := hk
  obtain ⟨A2, a2, B2, b2, C2, c2, rfl, hz1, hz2, hz3, hz4, hca, hra⟩ := hx
  have hlm := hms.1
  unfold lim at hlm
  have hxy : eC (fun _ => False) w [.int .i64 x.f, .slice A2 x.ext.length a2, .slice B2 x.th.length b2, .int .i64 y.p.k, .int .i64 y.p.h, .slice C1 y.p.a.length c1] (wholeY y x) := ⟨A2, a2, B2, b2, C1, c1, rfl, hz1, hz2, hz3, hz4, hcp, hrp⟩
  have hxz : eC (fun _ => False) w [.int .i64 x.f, .slice A2 x.ext.length a2, .slice B2 x.th.length b2, .int .i64 6, .int .i64 (y.ms.length : Int), .slice none 0 0] (wholeZ y x) := ⟨A2, a2, B2, b2, none, 0, rfl, hz1, hz2, hz3, hz4, Nat.le_refl _, .nil _⟩
  have G1 := Lib.hid (fun (W : World) (hb : Below w.heap.size w W) => wholeY_no fs y x ▸ lessCall_calls fs A a y (wholeY y x) _ _ W (hr.mov lasts_F (by decide) hb) (lasts_K.mov hk0 hb) (lasts_C.mov hxy hb) gk.2.2.1)
  have G2 := Lib.hid (fun (W : World) (hb : Below w.heap.size w W) => wholeZ_no fs y x ▸ lessCall_calls fs A a y (wholeZ y x) _ _ W (hr.mov lasts_F (by decide) hb) (lasts_K.mov hk0 hb) (lasts_C.mov hxz hb) gk.2.2.1)
  have G3 := Lib.hid (fun (W : World) (hb : Below w.heap.size w W) (B : Option Addr) (d : Nat) (hrb : Row eF 13 (fun _ => False) W B (fs.map offF)) => offF_no fs y x ▸ lessCall_calls (fs.map offF) B d y x _ _ W hrb (lasts_K.mov hk0 hb) (lasts_C.mov hx0 hb) gk.2.2.1)
  have hb0 : Below w.heap.size w ((w.alloc (.cells #[.slice A1 y.ms.length a1, .slice B1 y.th.length b1, .int .i64 y.p.k, .int .i64 y.p.h, .slice C1 y.p.a.length c1, .slice D1 y.cs.length d1, .int .i64 y.r.k, .int .i64 y.r.h, .slice E1 y.r.a.length e1] 29)).alloc (.cells #[.int .i64 x.f, .slice A2 x.ext.length a2, .slice B2 x.th.length b2, .int .i64 x.arg.k, .int .i64 x.arg.h, .slice C2 x.arg.a.length c2] 31)) := bl_alloc (bl_alloc (Below.refl _ _) _) _
  have e0 := (Blk.new w #[.slice A1 y.ms.length a1, .slice B1 y.th.length b1, .int .i64 y.p.k, .int .i64 y.p.h, .slice C1 y.p.a.length c1, .slice D1 y.cs.length d1, .int .i64 y.r.k, .int .i64 y.r.h, .slice E1 y.r.a.length e1] 29).mov (bl_alloc (Below.refl _ _) (.cells #[.int .i64 x.f, .slice A2 x.ext.length a2, .slice B2 x.th.length b2, .int .i64 x.arg.k, .int .i64 x.arg.h, .slice C2 x.arg.a.length c2] 31))
  have e1' := Blk.new (w.alloc (.cells #[.slice A1 y.ms.length a1, .slice B1 y.th.length b1, .int .i64 y.p.k, .int .i64 y.p.h, .slice C1 y.p.a.length c1, .slice D1 y.cs.length d1, .int .i64 y.r.k, .int .i64 y.r.h, .slice E1 y.r.a.length e1] 29)) #[.int .i64 x.f, .slice A2 x.ext.length a2, .slice B2 x.th.length b2, .int .i64 x.arg.k, .int .i64 x.arg.h, .slice C2 x.arg.a.length c2] 31
  simp only [World.size_alloc] at e1'
  have HB0 := Lib.hid hb0
  have E0 := Lib.hid e0
  have EX := Lib.hid e1'
  have HF := Lib.hid (fun (W : World) (hb : Below w.heap.size w W) => LightFuns_calls fs A a W (hr.mov lasts_F (by decide) hb))
  have HK := Lib.hid (fun (W : World) (hb : Below w.heap.size w W) => LightClause_calls y _ W (lasts_K.mov hk0 hb))
  have HL := Lib.hid (fun (W : World) (hb : Below w.heap.size w W) => Light_calls x.arg C2 c2 300 60 W (hra.mov hb) hca)
  have H1 := Lib.hid (fun (W : World) (hb : Below w.heap.size w W) => lessCall_calls fs A a y x _ _ W (hr.mov lasts_F (by decide) hb) (lasts_K.mov hk0 hb) (lasts_C.mov hx0 hb) gk.2.2.1)
  have H2 := Lib.hid (fun (W : World) (hb : Below w.heap.size w W) => refCall_calls fs A a y x _ _ W (hr.mov lasts_F (by decide) hb) (lasts_K.mov hk0 hb) (lasts_C.mov hx0 hb) gk.2.2.1)
  have H3 := Lib.hid (fun (W : World) (hb : Below w.heap.size w W) => lessClause_calls fs A a y _ W (hr.mov lasts_F (by decide) hb) (lasts_K.mov hk0 hb) gk.2.2.1)
  have H4 := Lib.hid (fun (W : World) (hb : Below w.heap.size w W) => refClause_calls fs A a y _ W (hr.mov lasts_F (by decide) hb) (lasts_K.mov hk0 hb) gk.2.2.1)
  clear hb0 e0 e1' hk0 hx0 hk0' hxy hxz
  generalize funsB fs = fb at *
  generalize clauseB y = kb at *
  generalize lightB x.arg 300 60 = lb at *
  clear H1 H2 H3 H4
  cases fb <;> cases kb <;> cases lb
  all_goals
    go_enter Try.func6, Try.ntmps6
    go_upto_region 7 with (first
      | (go_at_call 7; refine (awake18_calls _).mono ?_; rintro e w1 ⟨rfl, hb1⟩; have hw1 := bl_then HB0.out hb1)
      | (go_at_call 8; refine (HF.out _ hw1).mono ?_; clear HF; rintro e w2 ⟨rfl, hb2⟩; have hw2 := bl_then hw1 hb2; have q := (E0.out.mov hb1).mov hb2; have k0 := q.cell 0; have k1 := q.cell 1; have k2 := q.cell 2; have k3 := q.cell 3; have k4 := q.cell 4; have k5 := q.cell 5; have k6 := q.cell 6; have k7 := q.cell 7; have k8 := q.cell 8; clear q)
      | (go_at_call 9; refine (HK.out _ hw2).mono ?_; clear HK k0 k1 k2 k3 k4 k5 k6 k7 k8; rintro e w3 ⟨rfl, hb3⟩; have hw3 := bl_then hw2 hb3; have q := ((EX.out.mov hb1).mov hb2).mov hb3; have x3 := q.cell 3; have x4 := q.cell 4; have x5 := q.cell 5; clear q)
      | (go_at_call 10; refine (HL.out _ hw3).mono ?_; clear HL x3 x4 x5; rintro e w4 ⟨rfl, hb4⟩; have hw4 := bl_then hw3 hb4; have q := (((E0.out.mov hb1).mov hb2).mov hb3).mov hb4; have r := (((EX.out.mov hb1).mov hb2).mov hb3).mov hb4; have k0 := q.cell 0; have k1 := q.cell 1; have k2 := q.cell 2; have k3 := q.cell 3; have k4 := q.cell 4; have k5 := q.cell 5; have k6 := q.cell 6; have k7 := q.cell 7; have k8 := q.cell 8; have x0 := r.cell 0; have x1 := r.cell 1; have x2 := r.cell 2; have x3 := r.cell 3; have x4 := r.cell 4; have x5 := r.cell 5; have lq := q.lt; have lr := r.lt; clear q r))
  all_goals first
    | (go_ret; exact ⟨rfl, hw4⟩)
    | skip
  have HW4 := Lib.hid hw4
  have HQ := Lib.hid ((((E0.out.mov hb1).mov hb2).mov hb3).mov hb4)
  have HR := Lib.hid ((((EX.out.mov hb1).mov hb2).mov hb3).mov hb4)
  have hw6 : Below w.heap.size w ((w4.alloc (.cells #[.int .i64 x.f, .slice A2 x.ext.length a2, .slice B2 x.th.length b2, .int .i64 y.p.k, .int .i64 y.p.h, .slice C1 y.p.a.length c1] 31)).alloc (.cells #[.int .i64 x.f, .slice A2 x.ext.length a2, .slice B2 x.th.length b2, .int .i64 6, .int .i64 (y.ms.length : Int), .slice none 0 0] 31)) := bl_alloc (bl_alloc hw4 _) _
  have cy : Blk ((w4.alloc (.cells #[.int .i64 x.f, .slice A2 x.ext.length a2, .slice B2 x.th.length b2, .int .i64 y.p.k, .int .i64 y.p.h, .slice C1 y.p.a.length c1] 31)).alloc (.cells #[.int .i64 x.f, .slice A2 x.ext.length a2, .slice B2 x.th.length b2, .int .i64 6, .int .i64 (y.ms.length : Int), .slice none 0 0] 31)) w4.heap.size #[.int .i64 x.f, .slice A2 x.ext.length a2, .slice B2 x.th.length b2, .int .i64 y.p.k, .int .i64 y.p.h, .slice C1 y.p.a.length c1] 31 := (Blk.nw _ _ _ _ rfl).al _
  have cz : Blk ((w4.alloc (.cells #[.int .i64 x.f, .slice A2 x.ext.length a2, .slice B2 x.th.length b2, .int .i64 y.p.k, .int .i64 y.p.h, .slice C1 y.p.a.length c1] 31)).alloc (.cells #[.int .i64 x.f, .slice A2 x.ext.length a2, .slice B2 x.th.length b2, .int .i64 6, .int .i64 (y.ms.length : Int), .slice none 0 0] 31)) (w4.heap.size + 1) #[.int .i64 x.f, .slice A2 x.ext.length a2, .slice B2 x.th.length b2, .int .i64 6, .int .i64 (y.ms.length : Int), .slice none 0 0] 31 := Blk.nw _ _ _ _ (by simp)
  have CY0 := Lib.hid cy
  have CZ0 := Lib.hid cz
  have C00 := Lib.hid ((HQ.out.al (.cells #[.int .i64 x.f, .slice A2 x.ext.length a2, .slice B2 x.th.length b2, .int .i64 y.p.k, .int .i64 y.p.h, .slice C1 y.p.a.length c1] 31)).al (.cells #[.int .i64 x.f, .slice A2 x.ext.length a2, .slice B2 x.th.length b2, .int .i64 6, .int .i64 (y.ms.length : Int), .slice none 0 0] 31))
  have CX0 := Lib.hid ((HR.out.al (.cells #[.int .i64 x.f, .slice A2 x.ext.length a2, .slice B2 x.th.length b2, .int .i64 y.p.k, .int .i64 y.p.h, .slice C1 y.p.a.length c1] 31)).al (.cells #[.int .i64 x.f, .slice A2 x.ext.length a2, .slice B2 x.th.length b2, .int .i64 6, .int .i64 (y.ms.length : Int), .slice none 0 0] 31))
  have HW6 := Lib.hid hw6
  clear cy cz hw6
  go_wp2_with (at_builtin; refine wpList_append_row rfl (.tmp 48) lasts_F (fun h => oneF h) 22 rfl Try.underlying22 _ infoFu rfl (by decide) (by decide) (S := fun k => w4.heap.size ≤ k) (xs := fs) (c := a) (A := A) rfl (hr.step lasts_F (by decide) (fun k hk _ q => by have := HW4.out.size; omega) (fun k hk _ => HW6.out.block k hk)) nF ?_; intro v1 w6 hb6 hv; have HW60 := Lib.hid (bl_then HW6.out hb6); have CY1 := Lib.hid (CY0.out.mov hb6); have CZ1 := Lib.hid (CZ0.out.mov hb6); have C01 := Lib.hid (C00.out.mov hb6); have CX1 := Lib.hid (CX0.out.mov hb6); have C0O := Lib.hid HQ.out; have CXO := Lib.hid HR.out)
  clear k0 k1 k2 k3 k4 k5 k6 k7 k8 x0 x1 x2 x3 x4 x5 lq lr hb1 hb2 hb3 hb4 hw1 hw2 hw3 HQ HR HW6 CY0 CZ0 C00 CX0
  rcases hv with ⟨hnil, rfl⟩ | ⟨g, cap, cur, rfl, hg, hcap, hblk, hcp⟩
  · have HROW0 : Hid (∀ W, Row eF 13 (fun _ => False) W none (fs.map offF)) := Lib.hid (fun W => by rw [hnil]; exact .nil _)
    have hl0 : (fs.map offF).length = 0 := by rw [hnil]; rfl
    rw [hl0] at G3
    clear hnil hl0
    go_loopw [14] (fun j wr => j = .int .i64 0 ∧ Below w6.heap.size w6 wr) (fun _ _ => 0)
    case atStart => exact ⟨rfl, Below.refl _ _⟩
    case round =>
        obtain ⟨rfl, hbw⟩ := hrel
        have HW := bl_then HW60.out hbw
        have CX := Lib.hid (CX1.out.mov hbw)
        have C0 := Lib.hid (C01.out.mov hbw)
        have CZ := Lib.hid (CZ1.out.mov hbw)
        have HROW := HROW0.out
        have q := C0.out
        have k0 := q.cell 0; have k1 := q.cell 1; have k2 := q.cell 2; have k3 := q.cell 3; have k4 := q.cell 4; have k5 := q.cell 5; have k6 := q.cell 6; have k7 := q.cell 7; have k8 := q.cell 8;
        have y := CY1.out.mov hbw
        have y0 := y.cell 0; have y1 := y.cell 1; have y2 := y.cell 2; have y3 := y.cell 3; have y4 := y.cell 4; have y5 := y.cell 5;
        clear q y
        go_wp2_with (first
          | (go_at_call 11; (with_reducible refine (G1.out _ HW).mono ?_); clear G1; rintro e w7 ⟨rfl, hb7⟩; have hw7 := bl_then HW hb7; have q := C0.out.mov hb7; have k0 := q.cell 0; have k1 := q.cell 1; have k2 := q.cell 2; have k3 := q.cell 3; have k4 := q.cell 4; have k5 := q.cell 5; have k6 := q.cell 6; have k7 := q.cell 7; have k8 := q.cell 8; have z := CZ.out.mov hb7; have z0 := z.cell 0; have z1 := z.cell 1; have z2 := z.cell 2; have z3 := z.cell 3; have z4 := z.cell 4; have z5 := z.cell 5; clear q z)
          | (go_at_call 11; (with_reducible refine (G2.out _ hw7).mono ?_); clear G2; rintro e w8 ⟨rfl, hb8⟩; have hw8 := bl_then hw7 hb8; clear k0 k1 k2 k3 k4 k5 k6 k7 k8 z0 z1 z2 z3 z4 z5; have q := (C0.out.mov hb7).mov hb8; have k0 := q.cell 0; have k1 := q.cell 1; have k2 := q.cell 2; have k3 := q.cell 3; have k4 := q.cell 4; have k5 := q.cell 5; have k6 := q.cell 6; have k7 := q.cell 7; have k8 := q.cell 8; have r := (CX.out.mov hb7).mov hb8; have x0 := r.cell 0; have x1 := r.cell 1; have x2 := r.cell 2; have x3 := r.cell 3; have x4 := r.cell 4; have x5 := r.cell 5; clear q r)
          | (go_at_call 11; refine (G3.out _ hw8 _ _ (HROW _)).mono ?_; clear G3; rintro e w9 ⟨rfl, hb9⟩))
        go_ret
        exact ⟨rfl, bl_then hw8 hb9⟩

  · have hl0 : (fs.map offF).length = fs.length := by simp
    rw [hl0] at G3
    clear hl0
    obtain ⟨ad, had⟩ : ∃ ad : Addr, ⟨g, 0, none⟩ = ad := ⟨_, rfl⟩
    have AD := Lib.hid had
    have hg4 : w4.heap.size + 1 + 1 ≤ g := by simpa using hg
    have HW61 := HW60.out.size
    rw [had]
    clear had
    have hoff0 : Offs (fun k => w4.heap.size ≤ k) w6 g fs 0 := ⟨cur, hblk, fun i hi => by
      obtain ⟨cs, h1, h2, h3⟩ := hcp i hi
      exact ⟨cs, h1, h2, fun j hj => by rw [if_neg (by omega)]; exact h3 j hj⟩⟩
    have OF0 := Lib.hid hoff0
    clear hoff0 hblk hcp
    go_loopw [14] (fun j wr => ∃ i : Nat, j = .int .i64 i ∧ i ≤ fs.length ∧ Below w4.heap.size w4 wr ∧ Offs (fun k => w4.heap.size ≤ k) wr g fs i ∧ Blk wr w4.heap.size #[.int .i64 x.f, .slice A2 x.ext.length a2, .slice B2 x.th.length b2, .int .i64 y.p.k, .int .i64 y.p.h, .slice C1 y.p.a.length c1] 31 ∧ Blk wr (w4.heap.size + 1) #[.int .i64 x.f, .slice A2 x.ext.length a2, .slice B2 x.th.length b2, .int .i64 6, .int .i64 (y.ms.length : Int), .slice none 0 0] 31) (fun j _ => fs.length - (intOf j).toNat)
    case atStart => exact ⟨0, rfl, Nat.zero_le _, bl_then (bl_alloc (bl_alloc (Below.refl _ _) _) _) hb6, OF0.out, CY1.out, CZ1.out⟩
    case round =>
      obtain ⟨i, rfl, hi, hbw, hof, hcy, hcz⟩ := hrel
      have HBW := Lib.hid hbw
      have HOF := Lib.hid hof
      have HCY := Lib.hid hcy
      have HCZ := Lib.hid hcz
      have HW4' := Lib.hid (bl_then (HW4.out) hbw)
      clear hbw hof hcy hcz
      by_cases hlt : i < fs.length
      · obtain ⟨cur2, hcb, hcc⟩ := HOF.out
        obtain ⟨cs, hcs1, hcs2, hcs3⟩ := hcc i hlt
        have e11 := hcs3 11 (by decide)
        have hold : ∃ bo, cs[11]? = some (.bool bo) := by
          obtain ⟨A0, a0, B0, b0, C0', c0, D0, d0, E0', e0', F0, f0, G0, g0, rfl, -⟩ := hcs2
          exact ⟨_, rfl⟩
        have hold2 : ∃ bo, cur2[i * 13 + 11]? = some (.bool bo) := by
          rw [e11]
          split
          · exact ⟨_, rfl⟩
          · exact hold
        obtain ⟨bo, hbo⟩ := hold2
        have had2 : (⟨(ad.add (i * 13)).block, (ad.add (i * 13)).off + 11, none⟩ : Addr) = ⟨g, i * 13 + 11, none⟩ := by
          rw [← AD.out, add_plain, Nat.zero_add]
        have hfz : wr.frozen? ⟨(ad.add (i * 13)).block, (ad.add (i * 13)).off + 11, none⟩ = false := by rw [had2]; exact hcb.frozen _
        have hce : wr.cell? ⟨(ad.add (i * 13)).block, (ad.add (i * 13)).off + 11, none⟩ = some (.bool bo) := by rw [had2, hcb.cell]; exact hbo
        have HCB := Lib.hid hcb
        have HCC := Lib.hid hcc
        have HAD2 := Lib.hid had2
        have HBO := Lib.hid hbo
        clear hcb hcc had2 hcs3 hcs2 hcs1 e11 hold hbo HOF
        go_wp2
        go_round
        case rel =>
          refine ⟨i + 1, by go_num, hlt, ?_, ?_, ?_, ?_⟩
          · rw [HAD2.out]; exact bl_set HBW.out (p := ⟨g, i * 13 + 11, none⟩) (by simp only; omega) _
          · rw [HAD2.out]
            refine ⟨_, HCB.out.set _ _, fun k hk => ?_⟩
            obtain ⟨cs', h1, h2, h3⟩ := HCC.out k hk
            refine ⟨cs', h1, lasts_F.step (fun _ _ q => q) (fun b _ hb => Below.heap_setCell wr _ _ b (fun q => hb (by simp only at q; omega))) h2, fun j hj => ?_⟩
            have h4 := h3 j hj
            by_cases hkj : k * 13 + j = i * 13 + 11
            · have e1 : k = i := by omega
              have e2 : j = 11 := by omega
              subst e1
              subst e2
              rw [if_pos ⟨rfl, by omega⟩]
              have hin := (Array.getElem?_eq_some_iff.1 HBO.out).1
              simp [hin]
            · rw [Array.getElem?_setIfInBounds_ne (by omega), h4]
              by_cases e2 : j = 11
              · by_cases e3 : k < i
                · rw [if_pos ⟨e2, e3⟩, if_pos ⟨e2, by omega⟩]
                · rw [if_neg (fun q => e3 q.2), if_neg (fun q => by omega)]
              · rw [if_neg (fun q => e2 q.1), if_neg (fun q => e2 q.1)]
          · rw [HAD2.out]; exact HCY.out.far (by simp only; omega) _
          · rw [HAD2.out]; exact HCZ.out.far (by simp only; omega) _
        case measure => simp [intOf]; omega
      · obtain rfl : i = fs.length := by omega
        have HROW0 := Lib.hid (HOF.out.done hll)
        have C0 := Lib.hid (C0O.out.mov HBW.out)
        have CX := Lib.hid (CXO.out.mov HBW.out)
        have CZ := HCZ
        have HW := HW4'.out
        have q := C0.out
        have k0 := q.cell 0; have k1 := q.cell 1; have k2 := q.cell 2; have k3 := q.cell 3; have k4 := q.cell 4; have k5 := q.cell 5; have k6 := q.cell 6; have k7 := q.cell 7; have k8 := q.cell 8;
        have y := HCY.out
        have y0 := y.cell 0; have y1 := y.cell 1; have y2 := y.cell 2; have y3 := y.cell 3; have y4 := y.cell 4; have y5 := y.cell 5;
        clear q y
        go_wp2_with (first
          | (go_at_call 11; (with_reducible refine (G1.out _ HW).mono ?_); clear G1; rintro e w7 ⟨rfl, hb7⟩; have hw7 := bl_then HW hb7; have q := C0.out.mov hb7; have k0 := q.cell 0; have k1 := q.cell 1; have k2 := q.cell 2; have k3 := q.cell 3; have k4 := q.cell 4; have k5 := q.cell 5; have k6 := q.cell 6; have k7 := q.cell 7; have k8 := q.cell 8; have z := CZ.out.mov hb7; have z0 := z.cell 0; have z1 := z.cell 1; have z2 := z.cell 2; have z3 := z.cell 3; have z4 := z.cell 4; have z5 := z.cell 5; clear q z)
          | (go_at_call 11; (with_reducible refine (G2.out _ hw7).mono ?_); clear G2; rintro e w8 ⟨rfl, hb8⟩; have hw8 := bl_then hw7 hb8; clear k0 k1 k2 k3 k4 k5 k6 k7 k8 z0 z1 z2 z3 z4 z5; have q := (C0.out.mov hb7).mov hb8; have k0 := q.cell 0; have k1 := q.cell 1; have k2 := q.cell 2; have k3 := q.cell 3; have k4 := q.cell 4; have k5 := q.cell 5; have k6 := q.cell 6; have k7 := q.cell 7; have k8 := q.cell 8; have r := (CX.out.mov hb7).mov hb8; have x0 := r.cell 0; have x1 := r.cell 1; have x2 := r.cell 2; have x3 := r.cell 3; have x4 := r.cell 4; have x5 := r.cell 5; clear q r)
          | (go_at_call 11; refine (G3.out _ hw8 _ _ (AD.out ▸ (HROW0.out.mov lasts_F (by decide) hb7).mov lasts_F (by decide) hb8)).mono ?_; clear G3; rintro e w9 ⟨rfl, hb9⟩))
        go_ret
        exact ⟨rfl, bl_then hw8 hb9⟩
end Go.Proofs.Ytolpbnkkmkjejaa
