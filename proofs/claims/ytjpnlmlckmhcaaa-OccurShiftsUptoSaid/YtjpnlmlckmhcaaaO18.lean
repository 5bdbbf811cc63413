/- The contract of term.Scoped, and the law OccurScoped. -/
import Derived.Test.YtjpnlmlckmhcaaaO8
import Derived.Test.YtjpnlmlckmhcaaaO14
import Derived.IntWalk
namespace Go.Proofs.Ytjpnlmlckmhcaaa
open Go.RowKit Go.Shelf

def scV (v n : Int) (s : Tm) : Bool := (s.k != 4) || decide (wrap64 (s.h - n) < v)
def scM (m : Int) (s : Tm) : Bool := (s.k != 6) || decide (s.h < m)

set_option maxHeartbeats 2000000 in
theorem Scoped1_calls (n k h : Int) (A : Option Addr) (a c : Nat) (bv bm : Nat) (v m : Int) (w : World) (hv : w.cell? ⟨bv, 0, none⟩ = some (.int .i64 v)) (hm : w.cell? ⟨bm, 0, none⟩ = some (.int .i64 m)) :
    Calls Try.prog 44 #[.int .i64 n, .agg #[.int .i64 k, .int .i64 h, .slice A a c], .pointer (some ⟨bv, 0, none⟩), .pointer (some ⟨bm, 0, none⟩)] w fun e w' =>
      e = .returned (.bool (((k != 4) || decide (wrap64 (h - n) < v)) && ((k != 6) || decide (h < m)))) ∧ Below w.heap.size w w' := by
  have c1 := cell_mov hv (bl_alloc (Below.refl w.heap.size w) (.cells #[.int .i64 k, .int .i64 h, .slice A a c] 30))
  have c2 := cell_mov hm (bl_alloc (Below.refl w.heap.size w) (.cells #[.int .i64 k, .int .i64 h, .slice A a c] 30))
  clear hv hm
  cases h4 : (k != 4) <;> cases h6 : (k != 6)
  all_goals
    cases hx : decide (wrap64 (h - n) < v) <;> cases hy : decide (h < m)
    all_goals
      go_enter Try.func44, Try.ntmps44
      go_wp2_with fail
      go_ret
      exact ⟨rfl, bl_alloc (Below.refl _ _) _⟩

def scB (t : Tm) (v m : Int) : Bool := (nodesW t 0).all fun x => scV v x.1 x.2 && scM m x.2

set_option maxHeartbeats 2000000 in
theorem Scoped_calls (t : Tm) (A : Option Addr) (c : Nat) (v m : Int) (w : World) (hr : Reads (fun _ => False) w A t.a) (hc : t.a.length ≤ c) :
    Calls Try.prog 25 #[.agg #[.int .i64 t.k, .int .i64 t.h, .slice A t.a.length c], .int .i64 v, .int .i64 m] w fun e w' => e = .returned (.bool (scB t v m)) ∧ Below w.heap.size w w' := by
  have hb0 : Below w.heap.size w (((w.alloc (.cells #[.int .i64 t.k, .int .i64 t.h, .slice A t.a.length c] 30)).alloc (.cells #[.int .i64 v] 3)).alloc (.cells #[.int .i64 m] 3)) := bl_alloc (bl_alloc (bl_alloc (Below.refl _ _) _) _) _
  have b1 := (Blk.new (w.alloc (.cells #[.int .i64 t.k, .int .i64 t.h, .slice A t.a.length c] 30)) #[.int .i64 v] 3).mov (bl_alloc (Below.refl _ _) (.cells #[.int .i64 m] 3))
  have b2 := Blk.new ((w.alloc (.cells #[.int .i64 t.k, .int .i64 t.h, .slice A t.a.length c] 30)).alloc (.cells #[.int .i64 v] 3)) #[.int .i64 m] 3
  simp only [World.size_alloc] at b1 b2
  have hall := all_calls 44 (enters_of Try.func44 (by kernel_rfl) rfl) #[.pointer (some ⟨w.heap.size + 1, 0, none⟩), .pointer (some ⟨w.heap.size + 1 + 1, 0, none⟩)] (fun n s => scV v n s && scM m s) t A c _
    (fun n s B d W hb _ _ => Scoped1_calls n s.k s.h B s.a.length d _ _ v m W ((b1.mov hb).cell 0) ((b2.mov hb).cell 0)) (hr.mov hb0) hc
  have HA := Lib.hid hall
  have HB0 := Lib.hid hb0
  have hmf : ∀ (fn : Fn) (first cap : Array Value) (w : World), (Instr.makeFunc fn first cap).run Try.prog w = .ok (.func fn first cap) w := fun _ _ _ _ => rfl
  clear hb0 b1 b2 hall
  go_enter Try.func25, Try.ntmps25
  go_wp2_with (go_at_call 41; refine HA.out.mono ?_; clear HA; rintro e w1 ⟨rfl, hb⟩)
  go_ret
  exact ⟨rfl, bl_then HB0.out hb⟩

/-! The plain law. -/
def topI (l : List Int) : Int := match l.getLast? with | some x => x + 1 | none => 0
theorem top_le {l : List Int} (h : Rise l) : ∀ x ∈ l, x < topI l := by
  intro x hx
  obtain ⟨l', y, rfl⟩ : ∃ l' y, l = l' ++ [y] := by
    rcases List.eq_nil_or_concat l with rfl | ⟨l', y, rfl⟩
    · cases hx
    · exact ⟨l', y, by simp⟩
  unfold topI
  rw [List.getLast?_append]
  simp only [List.getLast?_singleton, Option.some_or]
  rcases List.mem_append.1 hx with hx | hx
  · have := (List.pairwise_append.1 h).2.2 x hx y (by simp)
    omega
  · obtain rfl := List.mem_singleton.1 hx
    omega
theorem top_at {l : List Int} {q : Nat} (hl : l.length = q + 1) : ∃ hq : q < l.length, topI l = l[q] + 1 := by
  refine ⟨by omega, ?_⟩
  have : l.getLast? = some l[q] := by
    rw [List.getLast?_eq_getElem?, show l.length - 1 = q from by omega, List.getElem?_eq_getElem (by omega)]
  unfold topI
  rw [this]
theorem top_nil {l : List Int} (hl : l.length = 0) : topI l = 0 := by
  obtain rfl := List.eq_nil_of_length_eq_zero hl
  rfl

theorem nodesOk_of {t : Tm} (hm : mayB t = true) : nodesOk t = true := by rw [mayB_eq] at hm; simp at hm; exact hm.2.2
mutual
theorem low_nodes : ∀ (t : Tm) (n : Int), lowB t = true → ∀ x ∈ nodesW t n, x.2.h ≤ 1099511627776
  | ⟨k, h, a⟩, n, hk, x, hx => by
    rw [lowB, Bool.and_eq_true] at hk
    rw [nodesW] at hx
    rcases List.mem_cons.1 hx with rfl | hx
    · exact of_decide_eq_true hk.1
    · exact low_nodesL (isB k) a n hk.2 x hx
theorem low_nodesL : ∀ (b : Bool) (l : List Tm) (n : Int), lowL l = true → ∀ x ∈ nodesL b l n, x.2.h ≤ 1099511627776
  | b, [], n, _, x, hx => by rw [nodesL] at hx; cases hx
  | b, t :: l, n, hk, x, hx => by
    rw [lowL, Bool.and_eq_true] at hk
    rw [nodesL] at hx
    rcases List.mem_append.1 hx with hx | hx
    · exact low_nodes t _ hk.1 x hx
    · exact low_nodesL b l n hk.2 x hx
end

structure Plain18 (t : Tm) (vs ms : List Int) : Prop where
  free : scB t (topI vs) (topI ms) = true
  some : ∀ v : Int, 0 ≤ v → scB t v (topI ms) = decide (topI vs ≤ v)
  less : 0 < ms.length → scB t (topI vs) (topI ms - 1) = false
  v0 : 0 ≤ topI vs
  m0 : 0 ≤ topI ms
  v1 : topI vs ≤ 1099511627777
  m1 : topI ms ≤ 1099511627777
  mp : 0 < ms.length → 0 < topI ms
theorem plain18 {t : Tm} {vs ms : List Int} (hv : Rise vs) (hvm : ∀ x, x ∈ vs ↔ x ∈ varsOf (nodesW t 0)) (hm : Rise ms) (hmm : ∀ x, x ∈ ms ↔ x ∈ metasOf (nodesW t 0)) (hk : okT t) (hn : cnt t ≤ 1048576) (hok : nodesOk t = true) (hlow : lowB t = true) : Plain18 t vs ms := by
  have hnode : ∀ x ∈ nodesW t 0, 0 ≤ x.1 ∧ x.1 ≤ 4611686018427387904 ∧ (x.2.k = 4 → 0 ≤ x.2.h) ∧ (x.2.k = 6 → 0 ≤ x.2.h) ∧ x.2.h ≤ 9223372036854775807 := fun x hx => by
    have h1 := nodesW_low t 0 (by omega) (by omega) x hx
    have h2 := okT_nodes t 0 hk x hx
    have h3 := List.all_eq_true.1 ((nodesW_ok t 0).trans hok) x hx
    unfold inH at h2
    refine ⟨h1.1, h1.2, fun e => ?_, fun e => ?_, h2.2⟩
    · simp [mayN, e] at h3; exact h3
    · simp [mayN, e] at h3; exact h3
  have hV : ∀ x ∈ nodesW t 0, x.2.k = 4 → x.1 ≤ x.2.h → x.2.h - x.1 ∈ vs := fun x hx e1 e2 => by
    refine (hvm _).2 (List.mem_filterMap.2 ⟨x, hx, ?_⟩)
    have := hnode x hx
    have hw : wrap64 (x.2.h - x.1) = x.2.h - x.1 := by unfold wrap64; omega
    rw [if_pos ⟨e1, e2⟩, hw]
  have hM : ∀ x ∈ nodesW t 0, x.2.k = 6 → x.2.h ∈ ms := fun x hx e1 => (hmm _).2 (List.mem_filterMap.2 ⟨x, hx, by rw [if_pos e1]⟩)
  have hV' : ∀ z ∈ vs, ∃ x ∈ nodesW t 0, x.2.k = 4 ∧ 0 ≤ z ∧ wrap64 (x.2.h - x.1) = z := fun z hz => by
    obtain ⟨x, hx, e⟩ := List.mem_filterMap.1 ((hvm z).1 hz)
    have := hnode x hx
    split at e
    · rename_i q
      have hw : wrap64 (x.2.h - x.1) = x.2.h - x.1 := by unfold wrap64; omega
      obtain rfl := Option.some.inj e
      exact ⟨x, hx, q.1, by omega, rfl⟩
    · cases e
  have hM' : ∀ z ∈ ms, ∃ x ∈ nodesW t 0, x.2.k = 6 ∧ 0 ≤ z ∧ x.2.h = z := fun z hz => by
    obtain ⟨x, hx, e⟩ := List.mem_filterMap.1 ((hmm z).1 hz)
    have := hnode x hx
    split at e
    · rename_i q
      obtain rfl := Option.some.inj e
      exact ⟨x, hx, q, this.2.2.2.1 q, rfl⟩
    · cases e
  have v0 : 0 ≤ topI vs := by
    rcases Nat.eq_zero_or_pos vs.length with h | h
    · rw [top_nil h]; omega
    · obtain ⟨hq, e⟩ := top_at (l := vs) (q := vs.length - 1) (by omega)
      obtain ⟨_, _, _, h2, _⟩ := hV' _ (List.getElem_mem hq)
      omega
  have m0 : 0 ≤ topI ms := by
    rcases Nat.eq_zero_or_pos ms.length with h | h
    · rw [top_nil h]; omega
    · obtain ⟨hq, e⟩ := top_at (l := ms) (q := ms.length - 1) (by omega)
      obtain ⟨_, _, _, h2, _⟩ := hM' _ (List.getElem_mem hq)
      omega
  have mp : 0 < ms.length → 0 < topI ms := fun h => by
    obtain ⟨hq, e⟩ := top_at (l := ms) (q := ms.length - 1) (by omega)
    obtain ⟨_, _, _, h2, _⟩ := hM' _ (List.getElem_mem hq)
    omega
  have v1 : topI vs ≤ 1099511627777 := by
    rcases Nat.eq_zero_or_pos vs.length with h | h
    · rw [top_nil h]; omega
    · obtain ⟨hq, e⟩ := top_at (l := vs) (q := vs.length - 1) (by omega)
      obtain ⟨x, hx, _, h2, h3⟩ := hV' _ (List.getElem_mem hq)
      have h4 := low_nodes t 0 hlow x hx
      have h5 := hnode x hx
      have hw : wrap64 (x.2.h - x.1) = x.2.h - x.1 := by
        unfold wrap64 at h3 ⊢
        omega
      omega
  have m1 : topI ms ≤ 1099511627777 := by
    rcases Nat.eq_zero_or_pos ms.length with h | h
    · rw [top_nil h]; omega
    · obtain ⟨hq, e⟩ := top_at (l := ms) (q := ms.length - 1) (by omega)
      obtain ⟨x, hx, _, h2, h3⟩ := hM' _ (List.getElem_mem hq)
      have h4 := low_nodes t 0 hlow x hx
      omega
  have hmeta : ∀ x ∈ nodesW t 0, scM (topI ms) x.2 = true := fun x hx => by
    unfold scM
    by_cases h6 : x.2.k = 6
    · have := top_le hm _ (hM x hx h6)
      simp [h6, this]
    · simp [h6]
  have hall : ∀ v, 0 ≤ v → topI vs ≤ v → scB t v (topI ms) = true := fun v hv0 hv1 => by
    refine List.all_eq_true.2 fun x hx => ?_
    rw [hmeta x hx, Bool.and_true]
    unfold scV
    by_cases h4 : x.2.k = 4
    · have hx2 := hnode x hx
      have h0 := hx2.2.2.1 h4
      have hw : wrap64 (x.2.h - x.1) = x.2.h - x.1 := by unfold wrap64; omega
      rw [hw]
      by_cases hge : x.1 ≤ x.2.h
      · have := top_le hv _ (hV x hx h4 hge)
        simp; omega
      · simp; omega
    · simp [h4]
  refine ⟨hall _ v0 (Int.le_refl _), fun v hv0 => ?_, fun hp => ?_, v0, m0, v1, m1, mp⟩
  · by_cases hle : topI vs ≤ v
    · rw [hall v hv0 hle, decide_eq_true hle]
    · rw [decide_eq_false hle]
      rcases Nat.eq_zero_or_pos vs.length with h | h
      · rw [top_nil h] at hle; omega
      · obtain ⟨hq, e⟩ := top_at (l := vs) (q := vs.length - 1) (by omega)
        obtain ⟨x, hx, h4, _, h5⟩ := hV' _ (List.getElem_mem hq)
        refine List.all_eq_false.2 ⟨x, hx, ?_⟩
        rw [scV, h5, h4]
        simp
        omega
  · obtain ⟨hq, e⟩ := top_at (l := ms) (q := ms.length - 1) (by omega)
    obtain ⟨x, hx, h4, _, h5⟩ := hM' _ (List.getElem_mem hq)
    refine List.all_eq_false.2 ⟨x, hx, ?_⟩
    rw [scM, h5, h4, e]
    simp
end Go.Proofs.Ytjpnlmlckmhcaaa
