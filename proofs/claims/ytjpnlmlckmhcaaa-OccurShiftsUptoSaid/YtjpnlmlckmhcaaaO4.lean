/- The contracts of occur.Patterns and of what Vars and Metas see. -/
import Derived.Test.YtjpnlmlckmhcaaaO1
import Derived.Test.YtjpnlmlckmhcaaaO3
import Derived.Maps.Own
import Derived.Maps.OwnSet
import Derived.Maps.Views
namespace Go.Proofs.Ytjpnlmlckmhcaaa
open Go.RowKit Go.Shelf Go.Maps

def patP (n : Int) (s : Tm) : Bool := !(s.k == 6) || (patV s.a n).isSome

set_option maxHeartbeats 2000000 in
theorem Patterns1_sees (m N : Nat) (w : World) : Sees w (fun _ => True) N m 33 #[.pointer (some ⟨m, 0, none⟩)] (fun pre W => Boxed W m 4 (.bool (pre.all fun x => patP x.1 x.2))) := by
  intro pre n s B d W hw hN _ hj hr hc
  have hP := Pattern_calls s.a B d n (W.alloc (.cells #[.int .i64 s.k, .int .i64 s.h, .slice B s.a.length d] 30)) ((hr.less (fun _ q => q.elim)).mov (bl_alloc (Below.refl _ _) _))
  have HP := Lib.hid hP
  have hall : (pre ++ [(n, s)]).all (fun x => patP x.1 x.2) = (pre.all (fun x => patP x.1 x.2) && patP n s) := by simp
  show Calls _ _ _ _ fun e W' => e = _ ∧ Boxed W' m 4 (.bool ((pre ++ [(n, s)]).all fun x => patP x.1 x.2)) ∧ _
  rw [hall]
  have hj1 := hj.alloc (.cells #[.int .i64 s.k, .int .i64 s.h, .slice B s.a.length d] 30)
  have hlt := hj.lt
  have c0 := hj1.cell
  have HJ := Lib.hid hj1
  generalize pre.all (fun x => patP x.1 x.2) = al at *
  unfold patP
  generalize patV s.a n = pv at *
  clear hall hj hj1 hP
  cases h6 : (s.k == 6)
  · go_enter Try.func33, Try.ntmps33
    go_wp2_with fail
    (try simp only [Exit.inBlock, Exit.then])
    refine bodyPost_end (res_none rfl _ _) rfl ⟨rfl, ?_, World.grownBy_alloc _ _ _⟩
    simpa using HJ.out
  · have f0 := HJ.out.frozen
    go_enter Try.func33, Try.ntmps33
    go_wp2_with (go_at_call 11; refine HP.out.mono ?_; clear HP; rintro e w1 ⟨hb1, (⟨rfl, rfl⟩ | ⟨vs, B3, c3, rfl, rfl, hc3, hr3⟩)⟩; all_goals (have z := boxed_mov HJ.out hb1; have z0 := z.cell; have zf := z.frozen; have HZ := Lib.hid z; clear z))
    all_goals
      (try simp only [Exit.inBlock, Exit.then])
      refine bodyPost_end (res_none rfl _ _) rfl ⟨rfl, ?_, World.grownBy.trans (grown_but (World.grownBy.trans (World.grownBy_alloc _ _ _) (bl_grownBy hb1)) _) (grownBy_setCell' _ _ _)⟩
      simpa [*] using HZ.out.set _

def patsB (t : Tm) (n : Int) : Bool := (nodesW t n).all fun x => patP x.1 x.2

set_option maxHeartbeats 2000000 in
theorem Patterns_calls (t : Tm) (A : Option Addr) (c : Nat) (n : Int) (w : World) (hr : Reads (fun _ => False) w A t.a) (hc : t.a.length ≤ c) :
    Calls Try.prog 15 #[.agg #[.int .i64 t.k, .int .i64 t.h, .slice A t.a.length c], .int .i64 n] w fun e w' => e = .returned (.bool (patsB t n)) ∧ Below w.heap.size w w' := by
  have hb0 : Below w.heap.size w ((w.alloc (.cells #[.int .i64 t.k, .int .i64 t.h, .slice A t.a.length c] 30)).alloc (.cells #[.bool true] 4)) := bl_alloc (bl_alloc (Below.refl _ _) _) _
  have e1 := Boxed.new (w.alloc (.cells #[.int .i64 t.k, .int .i64 t.h, .slice A t.a.length c] 30)) 4 (.bool true)
  simp only [World.size_alloc] at e1
  have hV := visit_calls 33 (enters_of Try.func33 (by kernel_rfl) rfl) #[.pointer (some ⟨w.heap.size + 1, 0, none⟩)] (fun _ => True) (nodesW t n).length (w.heap.size + 1) (fun pre W => Boxed W (w.heap.size + 1) 4 (.bool (pre.all fun x => patP x.1 x.2)))
    (fun pre W W' h _ hg => h.kept hg (by simp)) t [] A c n _ e1.lt (Patterns1_sees (w.heap.size + 1) _ _) (by simp) (fun _ _ => trivial) e1 (hr.step (fun k hk _ q => by omega) (fun k hk _ => hb0.block k hk)) hc
  have HV := Lib.hid hV
  have HB0 := Lib.hid hb0
  have hmf : ∀ (fn : Fn) (first cap : Array Value) (w : World), (Instr.makeFunc fn first cap).run Try.prog w = .ok (.func fn first cap) w := fun _ _ _ _ => rfl
  clear hV hb0 e1
  go_enter Try.func15, Try.ntmps15
  go_wp2_with (go_at_call 32; refine HV.out.mono ?_; clear HV; rintro e w1 ⟨rfl, hj, hg⟩; have z0 := hj.cell; have HG := Lib.hid hg; clear hj hg)
  go_ret
  exact ⟨rfl, bl_grown HB0.out HG.out (fun k e => by cases e; omega)⟩
end Go.Proofs.Ytjpnlmlckmhcaaa
