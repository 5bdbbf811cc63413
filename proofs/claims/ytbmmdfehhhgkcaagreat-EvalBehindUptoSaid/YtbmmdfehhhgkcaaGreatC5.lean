/- The contract of shift.may. The contracts of (renumber).up and shift.Up. -/
import Derived.Test.YtbmmdfehhhgkcaaGreatC3
import Derived.Test.YtbmmdfehhhgkcaaGreatT3
import Derived.Test.YtbmmdfehhhgkcaaGreatOW
namespace Go.Proofs.YtbmmdfehhhgkcaaGreat
open Go.RowKit Go.Shelf

def mayS (t : Tm) (b fr : Int) : Bool := mayB t && (decide (0 ≤ b) && (decide (b ≤ 1048576) && (decide (0 ≤ fr) && decide (fr ≤ 1048576))))

set_option maxHeartbeats 2000000 in
theorem smay_calls (t : Tm) (A : Option Addr) (c : Nat) (b fr : Int) (w : World) (hr : Reads (fun _ => False) w A t.a) (hc : t.a.length ≤ c) :
    Calls Tryz.prog 128 #[.agg #[.int .i64 t.k, .int .i64 t.h, .slice A t.a.length c], .int .i64 b, .int .i64 fr] w fun e w' => e = .returned (.bool (mayS t b fr)) ∧ Below w.heap.size w w' := by
  have hb0 : Below w.heap.size w (w.alloc (.cells #[.int .i64 t.k, .int .i64 t.h, .slice A t.a.length c] 25)) := bl_alloc (Below.refl _ _) _
  have hM := May_calls t A c _ (hr.mov hb0) hc
  have HM := Lib.hid hM
  have HB0 := Lib.hid hb0
  clear hb0 hM
  unfold mayS
  generalize mayB t = mb at *
  go_enter Tryz.func128, Tryz.ntmps128
  go_wp2_with (go_at_call 38; refine HM.out.mono ?_; clear HM; rintro e w1 ⟨rfl, hb1⟩)
  all_goals go_ret
  all_goals refine ⟨ret_bool ?_, bl_then HB0.out hb1⟩
  all_goals (subst_vars; first | rfl | (simp [*]; done) | (simp_all; done) | (rw [eq_comm]; simp only [Bool.and_eq_false_iff, decide_eq_false_iff_not]; omega))

end Go.Proofs.YtbmmdfehhhgkcaaGreat
namespace Go.Proofs.YtbmmdfehhhgkcaaGreat
open Go.RowKit Go.Shelf

def upH (b fr i n : Int) : Int := if wrap64 (fr + n) ≤ i then wrap64 (i + b) else i
def upV (b fr : Int) (i n : Int) : Option Int := some (upH b fr i n)

set_option maxHeartbeats 2000000 in
theorem up_calls (b fr i n : Int) (w : World) :
    Calls Tryz.prog 130 #[.agg #[.int .i64 b, .int .i64 fr], .int .i64 i, .int .i64 n] w fun e w' =>
      (∃ j d, e = .returned (.tuple #[.int .i64 j, .bool d]) ∧ upV b fr i n = if d = true then some j else none) ∧ Below w.heap.size w w' := by
  go_enter Tryz.func130, Tryz.ntmps130
  go_wp2
  all_goals go_ret2
  all_goals refine ⟨⟨_, _, rfl, ?_⟩, bl_alloc (Below.refl _ _) _⟩
  all_goals unfold upV upH
  all_goals (simp only [wrap64] at *; first | (rw [if_pos (by omega)]; rfl) | (rw [if_neg (by omega)]; rfl))

mutual
def upW (b fr : Int) : Tm → Int → Tm
  | ⟨k, h, a⟩, n => ⟨k, if k = 4 then upH b fr h n else h, upL b fr (isB k) a n⟩
def upL (b fr : Int) : Bool → List Tm → Int → List Tm
  | _, [], _ => []
  | x, t :: l, n => upW b fr t (lastN x l n) :: upL b fr x l n
end
mutual
theorem chg_up (b fr : Int) : ∀ (t : Tm) (n : Int), chgW (upV b fr) t n = some (upW b fr t n)
  | ⟨k, h, a⟩, n => by
    rw [chgW, chgL_up b fr (isB k) a n, upW]
    by_cases hk : k = 4 <;> simp [hk, upV]
theorem chgL_up (b fr : Int) : ∀ (x : Bool) (l : List Tm) (n : Int), chgL (upV b fr) x l n = some (upL b fr x l n)
  | x, [], n => by rw [chgL, upL]
  | x, t :: l, n => by rw [chgL, chg_up b fr t, chgL_up b fr x l, upL]; rfl
end

def upT (t : Tm) (b fr : Int) : Tm := if mayS t b fr = true then upW b fr t 0 else t

set_option maxHeartbeats 4000000 in
theorem Up_calls (S : Nat → Prop) (t : Tm) (A : Option Addr) (c : Nat) (b fr : Int) (w : World) (hS : ∀ k, S k → k < w.heap.size) (hr : Reads S w A t.a) (hc : t.a.length ≤ c) :
    Calls Tryz.prog 116 #[.agg #[.int .i64 t.k, .int .i64 t.h, .slice A t.a.length c], .int .i64 b, .int .i64 fr] w (RetU S (upT t b fr) w) := by
  have hb0 : Below w.heap.size w ((w.alloc (.cells #[.int .i64 t.k, .int .i64 t.h, .slice A t.a.length c] 25)).alloc (.cells #[.int .i64 0, .int .i64 0, .slice none 0 0] 25)) := bl_alloc (bl_alloc (Below.refl _ _) _) _
  have e0 := (Blk.new w #[.int .i64 t.k, .int .i64 t.h, .slice A t.a.length c] 25).mov (bl_alloc (Below.refl _ _) (.cells #[.int .i64 0, .int .i64 0, .slice none 0 0] 25))
  have e1 := Blk.new (w.alloc (.cells #[.int .i64 t.k, .int .i64 t.h, .slice A t.a.length c] 25)) #[.int .i64 0, .int .i64 0, .slice none 0 0] 25
  simp only [World.size_alloc] at e1
  have hr0 := hr.less (S' := fun _ => False) (fun _ q => q.elim)
  have HM := Lib.hid (smay_calls t A c b fr _ (hr0.mov hb0) hc)
  have HO := Lib.hid (fun (W : World) (hb : Below w.heap.size w W) (S2 : Nat → Prop) (h2 : ∀ k, S2 k → k < W.heap.size) => Own_calls t S2 A c W h2 (hr0.mov hb) hc)
  have HI : Hid (∀ (W : World) (_ : Below w.heap.size w W) (S2 : Nat → Prop) (_ : ∀ k, S2 k → k < W.heap.size) (_ : Reads S2 W A t.a), Calls Tryz.prog 129 #[.agg #[.int .i64 t.k, .int .i64 t.h, .slice A t.a.length c], .int .i64 0, .func (.func 130) #[.agg #[.int .i64 b, .int .i64 fr]] #[]] W (RetT S2 (some (upW b fr t 0)) W)) :=
    fun (W : World) (_ : Below w.heap.size w W) S2 h2 h3 => chg_up b fr t 0 ▸ change_calls 130 (enters_of Tryz.func130 (by kernel_rfl) rfl) #[.agg #[.int .i64 b, .int .i64 fr]] #[] (upV b fr) t S2 A c 0 W h2 (fun i n W2 _ => up_calls b fr i n W2) h3 hc
  have HB0 := Lib.hid hb0
  have E0 := Lib.hid e0
  have E1 := Lib.hid e1
  have HS := Lib.hid hS
  clear hb0 e0 e1 hS
  have hmf : ∀ (fn : Fn) (first cap : Array Value) (w : World), (Instr.makeFunc fn first cap).run Tryz.prog w = .ok (.func fn first cap) w := fun _ _ _ _ => rfl
  unfold upT
  generalize mayS t b fr = mb at *
  generalize upW b fr t 0 = rv at *
  cases mb
  · go_enter Tryz.func116, Tryz.ntmps116
    go_wp2_with (first
      | (go_at_call 128; refine HM.out.mono ?_; clear HM; rintro e w1 ⟨rfl, hb1⟩; have q := E0.out.mov hb1; have q0 := q.cell 0; have q1 := q.cell 1; have q2 := q.cell 2; clear q; have z := E1.out.mov hb1; have HZ1 := Lib.hid z; clear z)
      | (go_at_call 27
         refine (HO.out _ (bl_then HB0.out hb1) (fun k => S k ∨ (w.heap.size ≤ k ∧ k ≤ w.heap.size + 1)) ?h1).mono ?_
         case h1 => exact fun k q => by (rcases q with q | q; (have := HS.out k q; have := HB0.out.size; have := hb1.size; omega); (have := E1.out.lt; have := hb1.size; omega))
         clear HO
         rintro e w3 ⟨hb3, B3, c3, rfl, hc3, hr3⟩
         have hw := bl_then (bl_then HB0.out hb1) hb3
         have z := E1.out.mov (bl_then hb1 hb3)
         have z0 := z.cell 0
         have z1 := z.cell 1
         have z2 := z.cell 2
         have y0 := z.frozen 0
         have y1 := z.frozen 1
         have y2 := z.frozen 2
         have HZ := Lib.hid z
         clear z))
    exact bodyPost_ret (res_tm1 rfl _ _ _ _ _ _ rfl (HZ.out.set3 (.int .i64 t.k) (.int .i64 t.h) (.slice B3 t.a.length c3))) rfl ⟨bl_set3 hw (Nat.le_succ _), B3, c3, rfl, hc3, (hr3.set3 (.inr ⟨Nat.le_succ _, by omega⟩)).less (fun k q => .inl q)⟩
  · go_enter Tryz.func116, Tryz.ntmps116
    go_wp2_with (first
      | (go_at_call 128; refine HM.out.mono ?_; clear HM; rintro e w1 ⟨rfl, hb1⟩; have q := E0.out.mov hb1; have q0 := q.cell 0; have q1 := q.cell 1; have q2 := q.cell 2; clear q)
      | (go_at_call 129; refine (HI.out _ (bl_then HB0.out hb1) (fun k => S k ∨ (w.heap.size ≤ k ∧ k ≤ w.heap.size + 1)) ?h1 ?h2).mono ?_
         case h1 => exact fun k q => by (rcases q with q | q; (have := HS.out k q; have := HB0.out.size; have := hb1.size; omega); (have := E1.out.lt; have := hb1.size; omega))
         case h2 => exact (hr.step (fun k hk hn q => by (rcases q with q | q; exact hn q; omega)) (fun k hk _ => (bl_then HB0.out hb1).block k hk))
         clear HI
         rintro e w3 ⟨hb3, hor⟩
         have hw := bl_then (bl_then HB0.out hb1) hb3
         have z := E1.out.mov (bl_then hb1 hb3)
         have z0 := z.cell 0
         have z1 := z.cell 1
         have z2 := z.cell 2
         have y0 := z.frozen 0
         have y1 := z.frozen 1
         have y2 := z.frozen 2
         have hzl := z.lt
         have HZ := Lib.hid z
         clear z
         rcases hor with (⟨hno, _⟩ | ⟨u, B3, c3, hu, rfl, hc3, hr3⟩)
         (cases hno)
         (obtain rfl := Option.some.inj hu)
         clear hu))
    exact bodyPost_ret (res_tm1 rfl _ _ _ _ _ _ rfl ((HZ.out.set3 (.int .i64 rv.k) (.int .i64 rv.h) (.slice B3 rv.a.length c3)).mov (bl_alloc (Below.refl _ _) _))) rfl ⟨bl_alloc (bl_set3 hw (Nat.le_succ _)) _, B3, c3, rfl, hc3, ((hr3.set3 (.inr ⟨Nat.le_succ _, by omega⟩)).less (fun k q => .inl q)).mov (bl_alloc (Below.refl _ _) _)⟩
end Go.Proofs.YtbmmdfehhhgkcaaGreat
