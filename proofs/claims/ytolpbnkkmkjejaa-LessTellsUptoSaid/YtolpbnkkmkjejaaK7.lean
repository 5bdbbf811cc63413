/- The law LessTells. -/
import Derived.Test.YtolpbnkkmkjejaaK6
namespace Go.Proofs.Ytolpbnkkmkjejaa
open Go.RowKit Go.Shelf

set_option maxHeartbeats 8000000 in
set_option maxRecDepth 100000 in
theorem LessTells_row (w : World) (fs : List Fu) (A : Option Addr) (a : Nat) (hr : Row eF 13 (fun _ => False) w A fs) (_ : fs.length ≤ a) (gf : ∀ f ∈ fs, gF 1048576 f) (y : Cs) (ks : List Value) (hk : eK (fun _ => False) w ks y) (gk : gK 1048576 y) (x : Cl) (xs : List Value) (hx : eC (fun _ => False) w xs x) (gx : gC 1048576 x) :
    Calls Try.prog 3 #[.slice A fs.length a, .agg ks.toArray, .agg xs.toArray] w fun e w' => e = .returned (.bool true) ∧ Below w.heap.size w w' := by
  have hk0 := hk
  have hx0 := hx
  obtain ⟨A1, a1, B1, b1, C1, c1, D1, d1, E1, e1, rfl, -⟩ := hk
  obtain ⟨A2, a2, B2, b2, C2, c2, rfl, -, -, -, -, hca, hra⟩ := hx
  have hb0 : Below w.heap.size w ((w.alloc (.cells #[.slice A1 y.ms.length a1, .slice B1 y.th.length b1, .int .i64 y.p.k, .int .i64 y.p.h, .slice C1 y.p.a.length c1, .slice D1 y.cs.length d1, .int .i64 y.r.k, .int .i64 y.r.h, .slice E1 y.r.a.length e1] 29)).alloc (.cells #[.int .i64 x.f, .slice A2 x.ext.length a2, .slice B2 x.th.length b2, .int .i64 x.arg.k, .int .i64 x.arg.h, .slice C2 x.arg.a.length c2] 31)) := bl_alloc (bl_alloc (Below.refl _ _) _) _
  have e0 := (Blk.new w #[.slice A1 y.ms.length a1, .slice B1 y.th.length b1, .int .i64 y.p.k, .int .i64 y.p.h, .slice C1 y.p.a.length c1, .slice D1 y.cs.length d1, .int .i64 y.r.k, .int .i64 y.r.h, .slice E1 y.r.a.length e1] 29).mov (bl_alloc (Below.refl _ _) (.cells #[.int .i64 x.f, .slice A2 x.ext.length a2, .slice B2 x.th.length b2, .int .i64 x.arg.k, .int .i64 x.arg.h, .slice C2 x.arg.a.length c2] 31))
  have e1' := Blk.new (w.alloc (.cells #[.slice A1 y.ms.length a1, .slice B1 y.th.length b1, .int .i64 y.p.k, .int .i64 y.p.h, .slice C1 y.p.a.length c1, .slice D1 y.cs.length d1, .int .i64 y.r.k, .int .i64 y.r.h, .slice E1 y.r.a.length e1] 29)) #[.int .i64 x.f, .slice A2 x.ext.length a2, .slice B2 x.th.length b2, .int .i64 x.arg.k, .int .i64 x.arg.h, .slice C2 x.arg.a.length c2] 31
  simp only [World.size_alloc] at e1'
  have HB0 := Lib.hid hb0
  have E0 := Lib.hid e0
  have EX := Lib.hid e1'
  have HF := Lib.hid (fun (W : World) (hb : Below w.heap.size w W) => LightFuns_calls fs A a W (hr.mov lasts_F (by decide) hb))
  have HK := Lib.hid (fun (W : World) (hb : Below w.heap.size w W) => LightClause_calls y _ W (lasts_K.mov hk0 hb))
  have HL := Lib.hid (fun (W : World) (hb : Below w.heap.size w W) => Light_calls x.arg C2 c2 300 60 W (hra.mov hb) hca)
  have H1 := Lib.hid (fun (W : World) (hb : Below w.heap.size w W) => lessCall_calls fs A a y x _ _ W (hr.mov lasts_F (by decide) hb) (lasts_K.mov hk0 hb) (lasts_C.mov hx0 hb) gk.2.2.1)
  have H2 := Lib.hid (fun (W : World) (hb : Below w.heap.size w W) => refCall_calls fs A a y x _ _ W (hr.mov lasts_F (by decide) hb) (lasts_K.mov hk0 hb) (lasts_C.mov hx0 hb) gk.2.2.1)
  have H3 := Lib.hid (fun (W : World) (hb : Below w.heap.size w W) => lessClause_calls fs A a y _ W (hr.mov lasts_F (by decide) hb) (lasts_K.mov hk0 hb) gk.2.2.1)
  have H4 := Lib.hid (fun (W : World) (hb : Below w.heap.size w W) => refClause_calls fs A a y _ W (hr.mov lasts_F (by decide) hb) (lasts_K.mov hk0 hb) gk.2.2.1)
  clear hb0 e0 e1' hk0 hx0
  generalize funsB fs = fb at *
  generalize clauseB y = kb at *
  generalize lightB x.arg 300 60 = lb at *
  generalize lessE fs y x = le at *
  generalize clauseE fs y = ce at *
  go_enter Try.func3, Try.ntmps3
  go_wp2_with (first
    | (go_at_call 7; refine (awake18_calls _).mono ?_; rintro e w1 ⟨rfl, hb1⟩; have hw1 := bl_then HB0.out hb1)
    | (go_at_call 8; refine (HF.out _ hw1).mono ?_; clear HF; rintro e w2 ⟨rfl, hb2⟩; have hw2 := bl_then hw1 hb2; have q := (E0.out.mov hb1).mov hb2; have k0 := q.cell 0; have k1 := q.cell 1; have k2 := q.cell 2; have k3 := q.cell 3; have k4 := q.cell 4; have k5 := q.cell 5; have k6 := q.cell 6; have k7 := q.cell 7; have k8 := q.cell 8; clear q)
    | (go_at_call 9; refine (HK.out _ hw2).mono ?_; clear HK k0 k1 k2 k3 k4 k5 k6 k7 k8; rintro e w3 ⟨rfl, hb3⟩; have hw3 := bl_then hw2 hb3; have q := ((EX.out.mov hb1).mov hb2).mov hb3; have x3 := q.cell 3; have x4 := q.cell 4; have x5 := q.cell 5; clear q)
    | (go_at_call 10; refine (HL.out _ hw3).mono ?_; clear HL x3 x4 x5; rintro e w4 ⟨rfl, hb4⟩; have hw4 := bl_then hw3 hb4))
  all_goals first
    | (go_ret; exact ⟨rfl, hw4⟩)
    | skip
  have hcells : ∀ W : World, Below w4.heap.size w4 W → (Below w4.heap.size w4 W ∧ W.cell? ⟨w.heap.size, 0, none⟩ = some (.slice A1 y.ms.length a1) ∧ W.cell? ⟨w.heap.size, 1, none⟩ = some (.slice B1 y.th.length b1) ∧ W.cell? ⟨w.heap.size, 2, none⟩ = some (.int .i64 y.p.k) ∧ W.cell? ⟨w.heap.size, 3, none⟩ = some (.int .i64 y.p.h) ∧ W.cell? ⟨w.heap.size, 4, none⟩ = some (.slice C1 y.p.a.length c1) ∧ W.cell? ⟨w.heap.size, 5, none⟩ = some (.slice D1 y.cs.length d1) ∧ W.cell? ⟨w.heap.size, 6, none⟩ = some (.int .i64 y.r.k) ∧ W.cell? ⟨w.heap.size, 7, none⟩ = some (.int .i64 y.r.h) ∧ W.cell? ⟨w.heap.size, 8, none⟩ = some (.slice E1 y.r.a.length e1) ∧ W.cell? ⟨w.heap.size + 1, 0, none⟩ = some (.int .i64 x.f) ∧ W.cell? ⟨w.heap.size + 1, 1, none⟩ = some (.slice A2 x.ext.length a2) ∧ W.cell? ⟨w.heap.size + 1, 2, none⟩ = some (.slice B2 x.th.length b2) ∧ W.cell? ⟨w.heap.size + 1, 3, none⟩ = some (.int .i64 x.arg.k) ∧ W.cell? ⟨w.heap.size + 1, 4, none⟩ = some (.int .i64 x.arg.h) ∧ W.cell? ⟨w.heap.size + 1, 5, none⟩ = some (.slice C2 x.arg.a.length c2)) := fun W hb => by
    have q := (((((E0.out.mov hb1).mov hb2).mov hb3).mov hb4).mov hb)
    have r := (((((EX.out.mov hb1).mov hb2).mov hb3).mov hb4).mov hb)
    exact ⟨hb, q.cell 0, q.cell 1, q.cell 2, q.cell 3, q.cell 4, q.cell 5, q.cell 6, q.cell 7, q.cell 8, r.cell 0, r.cell 1, r.cell 2, r.cell 3, r.cell 4, r.cell 5⟩
  have HCE := Lib.hid hcells
  clear hcells
  go_region_held3 (fun W => (Below w4.heap.size w4 W ∧ W.cell? ⟨w.heap.size, 0, none⟩ = some (.slice A1 y.ms.length a1) ∧ W.cell? ⟨w.heap.size, 1, none⟩ = some (.slice B1 y.th.length b1) ∧ W.cell? ⟨w.heap.size, 2, none⟩ = some (.int .i64 y.p.k) ∧ W.cell? ⟨w.heap.size, 3, none⟩ = some (.int .i64 y.p.h) ∧ W.cell? ⟨w.heap.size, 4, none⟩ = some (.slice C1 y.p.a.length c1) ∧ W.cell? ⟨w.heap.size, 5, none⟩ = some (.slice D1 y.cs.length d1) ∧ W.cell? ⟨w.heap.size, 6, none⟩ = some (.int .i64 y.r.k) ∧ W.cell? ⟨w.heap.size, 7, none⟩ = some (.int .i64 y.r.h) ∧ W.cell? ⟨w.heap.size, 8, none⟩ = some (.slice E1 y.r.a.length e1) ∧ W.cell? ⟨w.heap.size + 1, 0, none⟩ = some (.int .i64 x.f) ∧ W.cell? ⟨w.heap.size + 1, 1, none⟩ = some (.slice A2 x.ext.length a2) ∧ W.cell? ⟨w.heap.size + 1, 2, none⟩ = some (.slice B2 x.th.length b2) ∧ W.cell? ⟨w.heap.size + 1, 3, none⟩ = some (.int .i64 x.arg.k) ∧ W.cell? ⟨w.heap.size + 1, 4, none⟩ = some (.int .i64 x.arg.h) ∧ W.cell? ⟨w.heap.size + 1, 5, none⟩ = some (.slice C2 x.arg.a.length c2)))
    ((refine HCE.out _ ?_; first | exact hs4 | exact hs3 | exact hs2 | exact hs1 | exact bl_eta (Below.refl _ _)))
    (first
      | (go_at_call 11; refine (H1.out _ (bl_then hw4 (‹Below w4.heap.size w4 _ ∧ _›).1)).mono ?_; rintro e v1 ⟨rfl, hx1⟩; have hs1 := bl_then (‹Below w4.heap.size w4 _ ∧ _›).1 hx1)
      | (go_at_call 12; refine (H2.out _ (bl_then hw4 (‹Below w4.heap.size w4 _ ∧ _›).1)).mono ?_; rintro e v2 ⟨rfl, hx2⟩; have hs2 := bl_then (‹Below w4.heap.size w4 _ ∧ _›).1 hx2)
      | (go_at_call 13; refine (H3.out _ (bl_then hw4 (‹Below w4.heap.size w4 _ ∧ _›).1)).mono ?_; rintro e v3 ⟨rfl, hx3⟩; have hs3 := bl_then (‹Below w4.heap.size w4 _ ∧ _›).1 hx3)
      | (go_at_call 14; refine (H4.out _ (bl_then hw4 (‹Below w4.heap.size w4 _ ∧ _›).1)).mono ?_; rintro e v4 ⟨rfl, hx4⟩; have hs4 := bl_then (‹Below w4.heap.size w4 _ ∧ _›).1 hx4))
  all_goals
    go_wp2_with fail
    go_ret
    exact ⟨by simp, bl_then hw4 hs4⟩
end Go.Proofs.Ytolpbnkkmkjejaa
