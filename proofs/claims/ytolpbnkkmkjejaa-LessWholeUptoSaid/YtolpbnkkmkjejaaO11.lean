/- The contracts of amanuensisref05.vars, Vars and Metas. -/
import Derived.Test.YtolpbnkkmkjejaaO10
import Derived.Test.YtolpbnkkmkjejaaLB
import Derived.IntWalk
namespace Go.Proofs.Ytolpbnkkmkjejaa
open Go.RowKit Go.Shelf

set_option maxHeartbeats 1000000 in
theorem MetasR_calls (t : Tm) (A : Option Addr) (c : Nat) (w : World) (hr : Reads (fun _ => False) w A t.a) (hc : t.a.length ≤ c) (hl : cnt t + 2 ≤ limI) :
    Calls Try.prog 28 #[.agg #[.int .i64 t.k, .int .i64 t.h, .slice A t.a.length c]] w (RetS ((nodesW t 0).foldl stepM []) w) := by
  have hb0 : Below w.heap.size w (w.alloc (.cells #[.int .i64 t.k, .int .i64 t.h, .slice A t.a.length c] 26)) := bl_alloc (Below.refl _ _) _
  have HC := Lib.hid (heads_calls t A c 0 [] none 0 _ (hr.mov hb0) hc ⟨Nat.zero_le _, fun i hi => absurd hi (Nat.not_lt_zero i)⟩ (by simpa using hl))
  have HB0 := Lib.hid hb0
  clear hb0
  generalize (nodesW t 0).foldl stepM [] = zs at *
  go_enter Try.func28, Try.ntmps28
  go_wp2_with (go_at_call 37; refine HC.out.mono ?_; clear HC; rintro e w1 ⟨⟨B1, c1, rfl, hr1⟩, hb1⟩)
  go_ret
  exact ⟨⟨B1, c1, rfl, hr1⟩, bl_then HB0.out hb1⟩
end Go.Proofs.Ytolpbnkkmkjejaa
