/- The contracts of subst.may and subst.Apply. -/
import Derived.Test.YtbmmdfehhhgkcaaGreatU8
import Derived.Test.YtbmmdfehhhgkcaaGreatCF
namespace Go.Proofs.YtbmmdfehhhgkcaaGreat
open Go.RowKit Go.Shelf
set_option linter.unusedVariables false
set_option linter.unusedSimpArgs false

def maySu (x : Su) : Bool := decide (x.l.length ≤ 200) && (decide (0 ≤ x.s) && (decide (x.s ≤ 1048576) && !(x.l.any fun t => !mayB t)))
theorem maySu_of {x : Su} (h : maySu x = true) : x.l.length ≤ 200 ∧ 0 ≤ x.s ∧ x.s ≤ 1048576 ∧ ∀ t ∈ x.l, mayB t = true := by
  simp [maySu] at h
  exact ⟨h.1, h.2.1, h.2.2.1, h.2.2.2⟩

set_option maxHeartbeats 2000000 in
theorem odd3_calls (t : Tm) (A : Option Addr) (c : Nat) (w : World) (hr : Reads (fun _ => False) w A t.a) (hc : t.a.length ≤ c) :
    Calls Tryz.prog 101 #[.agg #[.int .i64 t.k, .int .i64 t.h, .slice A t.a.length c]] w fun e w' => e = .returned (.bool (!mayB t)) ∧ Below w.heap.size w w' := by
  have HM := Lib.hid (May_calls t A c _ (hr.mov (bl_alloc (Below.refl w.heap.size w) (.cells #[.int .i64 t.k, .int .i64 t.h, .slice A t.a.length c] 25))) hc)
  generalize mayB t = m at *
  go_enter Tryz.func101, Tryz.ntmps101
  go_wp2_with (go_at_call 38; refine HM.out.mono ?_; clear HM; rintro e w1 ⟨rfl, hb1⟩)
  go_ret
  exact ⟨rfl, bl_then (bl_alloc (Below.refl _ _) _) hb1⟩

set_option maxHeartbeats 4000000 in
theorem maySu_calls (x : Su) (A : Option Addr) (c : Nat) (w : World) (hr : Reads (fun _ => False) w A x.l) (hc : x.l.length ≤ c) :
    Calls Tryz.prog 82 #[.agg #[.slice A x.l.length c, .int .i64 x.s]] w fun e w' => e = .returned (.bool (maySu x)) ∧ Below w.heap.size w w' := by
  have hb0 : Below w.heap.size w (w.alloc (.cells #[.slice A x.l.length c, .int .i64 x.s] 108)) := bl_alloc (Below.refl _ _) _
  have HC := Lib.hid (ContainsFuncT_calls 101 (enters_of Tryz.func101 (by kernel_rfl) rfl) #[] (fun t => !mayB t) x.l A c _ (fun i hi B d W _ h2 h3 => odd3_calls _ _ _ _ h2 h3) (hr.mov hb0))
  have HB0 := Lib.hid hb0
  have hlen := hr.len
  unfold lim at hlen
  obtain ⟨b1, hb1⟩ : ∃ b, decide (x.l.length ≤ 200) = b := ⟨_, rfl⟩
  obtain ⟨b2, hb2⟩ : ∃ b, decide (0 ≤ x.s) = b := ⟨_, rfl⟩
  obtain ⟨b3, hb3⟩ : ∃ b, decide (x.s ≤ 1048576) = b := ⟨_, rfl⟩
  have hb1' : decide ((x.l.length : Int) ≤ 200) = b1 := by rw [← hb1]; simp; omega
  have hv : maySu x = (b1 && (b2 && (b3 && !(x.l.any fun t => !mayB t)))) := by rw [maySu, hb1, hb2, hb3]
  rw [hv]
  clear hv hb1
  generalize (x.l.any fun t => !mayB t) = b4 at *
  cases b1 <;> cases b2 <;> cases b3
  all_goals
    go_enter Tryz.func82, Tryz.ntmps82
    go_wp2_with (go_at_call 46; refine HC.out.mono ?_; clear HC; rintro e w1 ⟨rfl, hbw⟩)
    go_ret
    first | exact ⟨rfl, bl_then HB0.out hbw⟩ | exact ⟨rfl, HB0.out⟩

/-- What Apply comes to. -/
def RetAp (S : Nat → Prop) (t : Tm) (x : Su) (w : World) (e : Ending) (w' : World) : Prop :=
  Below w.heap.size w w' ∧ (((mayB t && maySu x) = false ∧ e = .returned (.tuple #[zeroTm, .int .i64 1])) ∨ ((mayB t && maySu x) = true ∧ RetD S (.app 0 t x) w e w'))

set_option maxHeartbeats 8000000 in
theorem Apply_calls (S : Nat → Prop) (t : Tm) (x : Su) (A : Option Addr) (c : Nat) (A2 : Option Addr) (c2 : Nat) (w : World) (hS : ∀ k, S k → k < w.heap.size) (hr : Reads S w A t.a) (hc : t.a.length ≤ c) (hr2 : Reads S w A2 x.l) (hc2 : x.l.length ≤ c2) (hf : (mayB t && maySu x) = true → Fit (.app 0 t x)) :
    Calls Tryz.prog 65 #[.agg #[.int .i64 t.k, .int .i64 t.h, .slice A t.a.length c], .agg #[.slice A2 x.l.length c2, .int .i64 x.s]] w (RetAp S t x w) := by
  have hW3 : Below w.heap.size w (((w.alloc (.cells #[.int .i64 t.k, .int .i64 t.h, .slice A t.a.length c] 25)).alloc (.cells #[.slice A2 x.l.length c2, .int .i64 x.s] 108)).alloc (.cells #[.int .i64 0, .int .i64 0, .slice none 0 0] 25)) := bl_alloc (bl_alloc (bl_alloc (Below.refl _ _) _) _) _
  have HT : Hid (Blk (((w.alloc (.cells #[.int .i64 t.k, .int .i64 t.h, .slice A t.a.length c] 25)).alloc (.cells #[.slice A2 x.l.length c2, .int .i64 x.s] 108)).alloc (.cells #[.int .i64 0, .int .i64 0, .slice none 0 0] 25)) w.heap.size #[.int .i64 t.k, .int .i64 t.h, .slice A t.a.length c] 25) := ((Blk.nw _ _ _ _ rfl).al _).al _
  have HX : Hid (Blk (((w.alloc (.cells #[.int .i64 t.k, .int .i64 t.h, .slice A t.a.length c] 25)).alloc (.cells #[.slice A2 x.l.length c2, .int .i64 x.s] 108)).alloc (.cells #[.int .i64 0, .int .i64 0, .slice none 0 0] 25)) (w.heap.size + 1) #[.slice A2 x.l.length c2, .int .i64 x.s] 108) := (Blk.nw _ _ _ _ (by simp)).al _
  have HZ : Hid (Blk (((w.alloc (.cells #[.int .i64 t.k, .int .i64 t.h, .slice A t.a.length c] 25)).alloc (.cells #[.slice A2 x.l.length c2, .int .i64 x.s] 108)).alloc (.cells #[.int .i64 0, .int .i64 0, .slice none 0 0] 25)) (w.heap.size + 1 + 1) #[.int .i64 0, .int .i64 0, .slice none 0 0] 25) := Blk.nw _ _ _ _ (by simp)
  have HW3 := Lib.hid hW3
  have HM := Lib.hid (fun (W : World) (hb : Below w.heap.size w W) => May_calls t A c W ((hr.less (fun _ q => q.elim)).mov hb) hc)
  have HS := Lib.hid (fun (W : World) (hb : Below w.heap.size w W) => maySu_calls x A2 c2 W ((hr2.less (fun _ q => q.elim)).mov hb) hc2)
  have hT : ∀ k, k < w.heap.size → ¬ S k → ¬ S3 S w.heap.size k := fun k hk hn q => q.elim hn (fun q => by omega)
  have HD : Hid ((mayB t && maySu x) = true → ∀ W, Below w.heap.size w W → w.heap.size + 1 + 1 < W.heap.size → Blk W w.heap.size #[.int .i64 t.k, .int .i64 t.h, .slice A t.a.length c] 25 → Blk W (w.heap.size + 1) #[.slice A2 x.l.length c2, .int .i64 x.s] 108 →
      Calls Tryz.prog 83 #[.func (.func 84) #[] #[.pointer (some ⟨w.heap.size, 0, none⟩), .pointer (some ⟨w.heap.size + 1, 0, none⟩)]] W (RetD (S3 S w.heap.size) (.app 0 t x) W)) :=
    fun h W hb hlt h1 h2 => done_calls _ t x A c A2 c2 _ _ W (fun k q => q.elim (fun q => Nat.lt_of_lt_of_le (hS k q) hb.size) (fun q => by omega)) h1 h2 (hr.step hT (fun k hk _ => hb.block k hk)) hc (hr2.step hT (fun k hk _ => hb.block k hk)) hc2 (hf h)
  clear hW3 hT hr hr2 hf hS
  have hmf : ∀ (fn : Fn) (first cap : Array Value) (w : World), (Instr.makeFunc fn first cap).run Tryz.prog w = .ok (.func fn first cap) w := fun _ _ _ _ => rfl
  unfold RetAp
  generalize mayB t = m1 at *
  generalize maySu x = m2 at *
  cases m1 <;> cases m2
  all_goals
    go_enter Tryz.func65, Tryz.ntmps65
    go_wp2_with (first
      | (go_at_call 38; refine (HM.out _ HW3.out).mono ?_; clear HM; rintro e w1 ⟨rfl, hb1⟩; have hw1 := bl_then HW3.out hb1; have qz := HZ.out.mov hb1; have qx := HX.out.mov hb1; have qt := HT.out.mov hb1; have x0 := qx.cell 0; have x1 := qx.cell 1; have z0 := qz.cell 0; have z1 := qz.cell 1; have z2 := qz.cell 2; have f0 := qz.frozen 0; have f1 := qz.frozen 1; have f2 := qz.frozen 2; have QZ := Lib.hid qz; have QX := Lib.hid qx; have QT := Lib.hid qt; clear qz qx qt)
      | (go_at_call 82; refine (HS.out _ hw1).mono ?_; clear HS x0 x1 z0 z1 z2 f0 f1 f2; rintro e w2 ⟨rfl, hb2⟩; have hw2 := bl_then hw1 hb2; have qz := QZ.out.mov hb2; have z0 := qz.cell 0; have z1 := qz.cell 1; have z2 := qz.cell 2; have f0 := qz.frozen 0; have f1 := qz.frozen 1; have f2 := qz.frozen 2; have hlz := qz.lt; have QZ2 := Lib.hid qz; clear qz)
      | (go_at_call 83; refine (HD.out rfl _ hw2 hlz (QT.out.mov hb2) (QX.out.mov hb2)).mono ?_; clear HD z0 z1 z2 f0 f1 f2; rintro e w3 ⟨hb3, h3⟩; have hw3 := bl_then hw2 hb3; have qz := QZ2.out.mov hb3; have z0 := qz.cell 0; have z1 := qz.cell 1; have z2 := qz.cell 2; have f0 := qz.frozen 0; have f1 := qz.frozen 1; have f2 := qz.frozen 2; have QZ3 := Lib.hid qz; clear qz; rcases h3 with ⟨u, m, B, d, hev, hmb, rfl, hd, hru⟩ | ⟨xe, rfl, hev⟩))
  · exact bodyPost_ret (res_tm rfl _ _ _ _ _ _ rfl (QZ.out.set3 _ _ _)) rfl ⟨bl_set3 hw1 (by omega), .inl ⟨rfl, rfl⟩⟩
  · exact bodyPost_ret (res_tm rfl _ _ _ _ _ _ rfl (QZ.out.set3 _ _ _)) rfl ⟨bl_set3 hw1 (by omega), .inl ⟨rfl, rfl⟩⟩
  · exact bodyPost_ret (res_tm rfl _ _ _ _ _ _ rfl (QZ2.out.set3 _ _ _)) rfl ⟨bl_set3 hw2 (by omega), .inl ⟨rfl, rfl⟩⟩
  · exact bodyPost_ret (res_tm rfl _ _ _ _ _ _ rfl (QZ3.out.set3 _ _ _)) rfl ⟨bl_set3 hw3 (by omega), .inr ⟨rfl, bl_set3 hw3 (by omega), .inl ⟨u, m, B, d, hev, hmb, rfl, hd, (hru.set3 (.inr ⟨by omega, by omega⟩)).less (fun k q => .inl q)⟩⟩⟩
  · exact bodyPost_ret (res_tm rfl _ _ _ _ _ _ rfl (QZ3.out.set3 _ _ _)) rfl ⟨bl_set3 hw3 (by omega), .inr ⟨rfl, bl_set3 hw3 (by omega), .inr ⟨xe, rfl, hev⟩⟩⟩
end Go.Proofs.YtbmmdfehhhgkcaaGreat
