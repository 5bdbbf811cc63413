/- The contracts of occur.Vars and occur.Metas. -/
import Derived.Test.YtbmmdfehhhgkcaaGreatO6
import Derived.Test.YtbmmdfehhhgkcaaGreatRU
import Derived.Carry
namespace Go.Proofs.YtbmmdfehhhgkcaaGreat
open Go.RowKit Go.Shelf Go.Maps
set_option linter.unusedVariables false
set_option linter.unusedSimpArgs false

mutual
theorem okT_nodes : ∀ (t : Tm) (n : Int), okT t → ∀ x ∈ nodesW t n, inH x.2
  | ⟨k, h, a⟩, n, hk, x, hx => by
    rw [okT] at hk
    rw [nodesW] at hx
    rcases List.mem_cons.1 hx with rfl | hx
    · exact hk.2.1
    · exact okL_nodes (isB k) a n hk.2.2 x hx
theorem okL_nodes : ∀ (b : Bool) (l : List Tm) (n : Int), okL l → ∀ x ∈ nodesL b l n, inH x.2
  | b, [], n, _, x, hx => by rw [nodesL] at hx; cases hx
  | b, t :: l, n, hk, x, hx => by
    rw [okL] at hk
    rw [nodesL] at hx
    rcases List.mem_append.1 hx with hx | hx
    · exact okT_nodes t _ hk.1 x hx
    · exact okL_nodes b l n hk.2 x hx
end

set_option maxHeartbeats 2000000 in
theorem Metas_calls (t : Tm) (A : Option Addr) (c : Nat) (w : World) (hr : Reads (fun _ => False) w A t.a) (hc : t.a.length ≤ c) (hk : okT t) (hn : cnt t ≤ limI) :
    Calls Tryz.prog 96 #[.agg #[.int .i64 t.k, .int .i64 t.h, .slice A t.a.length c]] w fun e w' => (∃ l B c, e = .returned (.slice B l.length c) ∧ l.length ≤ c ∧ l.length ≤ cnt t ∧ RdI (fun _ => False) w' B l ∧ Rise l ∧ ∀ x, x ∈ l ↔ x ∈ metasOf (nodesW t 0)) ∧ Below w.heap.size w w' := by
  have hb0 : Below w.heap.size w (((w.alloc (.cells #[.int .i64 t.k, .int .i64 t.h, .slice A t.a.length c] 25)).alloc (.map #[] 0)).alloc (.cells #[.map (some (w.heap.size + 1))] 153)) := bl_alloc (bl_alloc (bl_alloc (Below.refl _ _) _) _) _
  have e2 := Boxed.new ((w.alloc (.cells #[.int .i64 t.k, .int .i64 t.h, .slice A t.a.length c] 25)).alloc (.map #[] 0)) 153 (.map (some (w.heap.size + 1)))
  have hm : ((w.alloc (.cells #[.int .i64 t.k, .int .i64 t.h, .slice A t.a.length c] 25)).alloc (.map #[] 0)).ownsMap Tryz.prog 3 (plainElem (H := Unit) Tryz.prog 4) (w.heap.size + 1) 0 (.map []) := by
    have := World.ownsMap_made (w.alloc (.cells #[.int .i64 t.k, .int .i64 t.h, .slice A t.a.length c] 25)) Tryz.prog 3 (plainElem (H := Unit) Tryz.prog 4)
    simpa only [World.size_alloc] using this
  simp only [World.size_alloc] at e2
  have hj0 : SeenJ (w.heap.size + 1 + 1) (w.heap.size + 1) metasOf [] (((w.alloc (.cells #[.int .i64 t.k, .int .i64 t.h, .slice A t.a.length c] 25)).alloc (.map #[] 0)).alloc (.cells #[.map (some (w.heap.size + 1))] 153)) :=
    ⟨e2, by omega, .map [], hm.alloc _, fun x => by simp [has, metasOf]⟩
  have hsz := nodesW_len t 0
  unfold limI at hn
  have hV := visit_calls 113 (enters_of Tryz.func113 (by kernel_rfl) rfl) #[.pointer (some ⟨w.heap.size + 1 + 1, 0, none⟩)] inH (nodesW t 0).length (w.heap.size + 1) (SeenJ (w.heap.size + 1 + 1) (w.heap.size + 1) metasOf)
    (fun pre W W' h _ hg => h.kept hg) t [] A c 0 _ (by simp) (Metas1_sees (w.heap.size + 1 + 1) (w.heap.size + 1) _ (by rw [hsz]; omega) _) (by simp) (okT_nodes t 0 hk) hj0 (hr.step (fun k hk _ q => by omega) (fun k hk _ => hb0.block k hk)) hc
  have HV := Lib.hid hV
  have HB0 := Lib.hid hb0
  have HSZ := Lib.hid hsz
  have hmk := @run_makeMap Tryz.prog
  have hmf : ∀ (fn : Fn) (first cap : Array Value) (w : World), (Instr.makeFunc fn first cap).run Tryz.prog w = .ok (.func fn first cap) w := fun _ _ _ _ => rfl
  clear hV hb0 e2 hm hj0 hsz
  go_enter Tryz.func96, Tryz.ntmps96
  go_wp2_with (first
    | (go_at_call 112; refine HV.out.mono ?_; clear HV; rintro e w1 ⟨rfl, ⟨hbx, hcb, hks⟩, hg⟩; have z0 := hbx.cell; have HG := Lib.hid hg; clear hg hbx)
    | (go_at_call 114; refine (sorted_calls _ _ _ _ hks (by rw [List.nil_append, HSZ.out]; exact hn)).mono ?_; rintro e w2 ⟨⟨l, B, c2, rfl, h1, h2, h3, h4, h5⟩, hb2⟩))
  go_ret
  exact ⟨⟨l, B, c2, rfl, h1, by rw [List.nil_append, HSZ.out] at h2; exact h2, h3, h4, h5⟩, bl_then (bl_grown HB0.out HG.out (fun k e => by cases e; omega)) hb2⟩
end Go.Proofs.YtbmmdfehhhgkcaaGreat
