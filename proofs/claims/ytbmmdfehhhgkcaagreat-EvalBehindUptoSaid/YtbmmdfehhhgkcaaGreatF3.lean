/- The contracts of package amanuensisref01: Binds, low, Size, Depth, nodes, Light, May. What a part's number of binders is, by the document's Binds. The contracts of Same, of package term and of the reference. The contracts of package amanuensisref01: nodes, Light, May; what is counted is the same both ways. -/
import Derived.Test.YtbmmdfehhhgkcaaGreatB
namespace Go.Proofs.YtbmmdfehhhgkcaaGreat
open Go.RowKit Go.Shelf

/-- What a loop over a term's parts keeps: the term's variable, and what is still to come. -/
structure TRel {α : Type} (w : World) (k h : Int) (A : Option Addr) (ts : List Tm) (c : Nat) (f : List Tm → α) (r : α) (i : Nat) (wr : World) : Prop where
  le : i ≤ ts.length
  below : Below w.heap.size w wr
  blk : Blk wr w.heap.size #[.int .i64 k, .int .i64 h, .slice A ts.length c] 25
  rest : f (ts.drop i) = r
theorem TRel.zero {α : Type} (w : World) (k h : Int) (A : Option Addr) (ts : List Tm) (c : Nat) (f : List Tm → α) : TRel w k h A ts c f (f ts) 0 (w.alloc (.cells #[.int .i64 k, .int .i64 h, .slice A ts.length c] 25)) :=
  ⟨Nat.zero_le _, bl_alloc (Below.refl _ _) _, Blk.new _ _ _, rfl⟩
theorem TRel.next {α : Type} {w : World} {k h : Int} {A : Option Addr} {ts : List Tm} {c : Nat} {f g : List Tm → α} {r : α} {i : Nat} {wr w1 : World} (hr : TRel w k h A ts c f r i wr) (hlt : i < ts.length) (hb : Below wr.heap.size wr w1)
    (hf : f (ts[i] :: ts.drop (i + 1)) = g (ts.drop (i + 1))) : TRel w k h A ts c g r (i + 1) w1 :=
  ⟨hlt, bl_then hr.below hb, hr.blk.mov hb, by rw [← hf, ← List.drop_eq_getElem_cons hlt]; exact hr.rest⟩

def bindsI (k : Int) (i : Int) (n : Nat) : Int := if ((k == 1 || k == 3) && i == (n : Int) - 1) = true then 1 else 0
set_option maxHeartbeats 1000000 in
theorem Binds_calls (k h : Int) (A : Option Addr) (n c : Nat) (i : Int) (w : World) (hn : n ≤ lim) :
    Calls Tryz.prog 92 #[.agg #[.int .i64 k, .int .i64 h, .slice A n c], .int .i64 i] w fun e w' => e = .returned (.int .i64 (bindsI k i n)) ∧ Below w.heap.size w w' := by
  unfold lim at hn
  obtain ⟨k1, hk1⟩ : ∃ b, (k == 1) = b := ⟨_, rfl⟩
  obtain ⟨k3, hk3⟩ : ∃ b, (k == 3) = b := ⟨_, rfl⟩
  obtain ⟨tst, htst⟩ : ∃ b, (i == (n : Int) - 1) = b := ⟨_, rfl⟩
  have hB : bindsI k i n = if ((k1 || k3) && tst) = true then 1 else 0 := by rw [← hk1, ← hk3, ← htst]; rfl
  have HB := Lib.hid hB
  clear hB
  cases k1 <;> cases k3 <;> cases tst
  all_goals
    go_enter Tryz.func92, Tryz.ntmps92
    go_wp2
    go_ret
    exact ⟨ret_int (by rw [HB.out]; rfl), bl_alloc (Below.refl _ _) _⟩

mutual
def lowB : Tm → Bool
  | ⟨_, h, a⟩ => decide (h ≤ 1099511627776) && lowL a
def lowL : List Tm → Bool
  | [] => true
  | t :: l => lowB t && lowL l
end

set_option maxHeartbeats 1000000 in
theorem low_calls (t : Tm) : ∀ (A : Option Addr) (c : Nat) (w : World), Reads (fun _ => False) w A t.a → t.a.length ≤ c →
    Calls Tryz.prog 32 #[.agg #[.int .i64 t.k, .int .i64 t.h, .slice A t.a.length c]] w fun e w' => e = .returned (.bool (lowB t)) ∧ Below w.heap.size w w' := by
  induction t using Tm.ind with
  | h t ih =>
  intro A c w hr hc
  obtain ⟨kk, hh, ts⟩ := t
  dsimp only at hr hc ih ⊢
  have hlen := hr.len
  unfold lim at hlen
  have IH := Lib.hid ih
  clear ih
  by_cases hhd : hh ≤ 1099511627776
  · go_enter Tryz.func32, Tryz.ntmps32
    go_wp2
    go_loopw [3] (fun j wr => ∃ (i : Nat), j = .int .i64 i ∧ TRel w kk hh A ts c lowL (lowL ts) i wr) (fun j _ => ts.length - (intOf j).toNat)
    case atStart => exact ⟨0, rfl, TRel.zero _ _ _ _ _ _ _⟩
    case round =>
      obtain ⟨i, rfl, hrel⟩ := hrel
      have g2 := hrel.blk.cell 2
      by_cases hlt : i < ts.length
      · obtain ⟨ad, B, d, rfl, -, c0, c1, c2, hd, hsub⟩ := (hr.mov hrel.below).at hlt
        have hih := IH.out ts[i] (List.getElem_mem hlt) B d wr hsub hd
        cases hv : lowB ts[i]
        all_goals
          rw [hv] at hih
          have HI := Lib.hid hih
          have HV := Lib.hid hv
          clear hih hv
          go_wp2_with (go_at_call 32; refine HI.out.mono ?_; clear HI; rintro e w1 ⟨rfl, hb⟩)
        · go_ret
          refine ⟨ret_bool ?_, bl_then hrel.below hb⟩
          rw [lowB, ← hrel.rest, List.drop_eq_getElem_cons hlt, lowL, HV.out]
          simp
        · exact ⟨⟨i + 1, by go_num, hrel.next hlt hb (by rw [lowL, HV.out, Bool.true_and])⟩, by simp [intOf]; omega⟩
      · have hi := hrel.le
        obtain rfl : i = ts.length := by omega
        go_wp2
        go_ret
        have hs := hrel.rest
        simp only [List.drop_length, lowL] at hs
        exact ⟨ret_bool (by rw [lowB, ← hs]; simp [hhd]), hrel.below⟩
  · go_enter Tryz.func32, Tryz.ntmps32
    go_wp2
    go_ret
    exact ⟨ret_bool (by rw [lowB]; simp; omega), bl_alloc (Below.refl _ _) _⟩

mutual
def sizeR : Tm → Int
  | ⟨_, _, a⟩ => sizeRL 1 a
def sizeRL : Int → List Tm → Int
  | m, [] => m
  | m, t :: l => sizeRL (wrap64 (m + sizeR t)) l
end
set_option maxHeartbeats 1000000 in
theorem SizeR_calls (t : Tm) : ∀ (A : Option Addr) (c : Nat) (w : World), Reads (fun _ => False) w A t.a → t.a.length ≤ c →
    Calls Tryz.prog 33 #[.agg #[.int .i64 t.k, .int .i64 t.h, .slice A t.a.length c]] w fun e w' => e = .returned (.int .i64 (sizeR t)) ∧ Below w.heap.size w w' := by
  induction t using Tm.ind with
  | h t ih =>
  intro A c w hr hc
  obtain ⟨kk, hh, ts⟩ := t
  dsimp only at hr hc ih ⊢
  have hlen := hr.len
  unfold lim at hlen
  have IH := Lib.hid ih
  clear ih
  go_enter Tryz.func33, Tryz.ntmps33
  go_wp2
  go_loopw [3, 4] (fun v j wr => ∃ (i : Nat) (m : Int), v = .int .i64 m ∧ j = .int .i64 i ∧ TRel w kk hh A ts c (sizeRL m) (sizeRL 1 ts) i wr) (fun _ j _ => ts.length - (intOf j).toNat)
  case atStart => exact ⟨0, 1, rfl, rfl, TRel.zero _ _ _ _ _ _ _⟩
  case round =>
    obtain ⟨i, m, rfl, rfl, hrel⟩ := hrel
    have g2 := hrel.blk.cell 2
    by_cases hlt : i < ts.length
    · obtain ⟨ad, B, d, rfl, -, c0, c1, c2, hd, hsub⟩ := (hr.mov hrel.below).at hlt
      have HI := Lib.hid (IH.out ts[i] (List.getElem_mem hlt) B d wr hsub hd)
      go_wp2_with (go_at_call 33; refine HI.out.mono ?_; clear HI; rintro e w1 ⟨rfl, hb⟩)
      exact ⟨⟨i + 1, wrap64 (m + sizeR ts[i]), by rfl, by go_num, hrel.next hlt hb (by rw [sizeRL])⟩, by simp [intOf]; omega⟩
    · have hi := hrel.le
      obtain rfl : i = ts.length := by omega
      go_wp2
      go_ret
      have hs := hrel.rest
      simp only [List.drop_length, sizeRL] at hs
      exact ⟨ret_int (by rw [sizeR, ← hs]), hrel.below⟩

set_option maxHeartbeats 1000000 in
theorem DepthR_calls (t : Tm) : ∀ (A : Option Addr) (c : Nat) (w : World), Reads (fun _ => False) w A t.a → t.a.length ≤ c →
    Calls Tryz.prog 34 #[.agg #[.int .i64 t.k, .int .i64 t.h, .slice A t.a.length c]] w fun e w' => e = .returned (.int .i64 (depthW t)) ∧ Below w.heap.size w w' := by
  induction t using Tm.ind with
  | h t ih =>
  intro A c w hr hc
  obtain ⟨kk, hh, ts⟩ := t
  dsimp only at hr hc ih ⊢
  have hlen := hr.len
  unfold lim at hlen
  have IH := Lib.hid ih
  clear ih
  go_enter Tryz.func34, Tryz.ntmps34
  go_wp2
  go_loopw [3, 4] (fun v j wr => ∃ (i : Nat) (m : Int), v = .int .i64 m ∧ j = .int .i64 i ∧ TRel w kk hh A ts c (depthL m) (depthL 0 ts) i wr) (fun _ j _ => ts.length - (intOf j).toNat)
  case atStart => exact ⟨0, 0, rfl, rfl, TRel.zero _ _ _ _ _ _ _⟩
  case round =>
    obtain ⟨i, m, rfl, rfl, hrel⟩ := hrel
    have g2 := hrel.blk.cell 2
    by_cases hlt : i < ts.length
    · obtain ⟨ad, B, d, rfl, -, c0, c1, c2, hd, hsub⟩ := (hr.mov hrel.below).at hlt
      have hih := IH.out ts[i] (List.getElem_mem hlt) B d wr hsub hd
      obtain ⟨dv, hdv⟩ : ∃ dv, depthW ts[i] = dv := ⟨_, rfl⟩
      rw [hdv] at hih
      have HI := Lib.hid hih
      have HD := Lib.hid hdv
      clear hih hdv
      by_cases hgt : m < dv
      all_goals
        go_wp2_with (go_at_call 34; refine HI.out.mono ?_; clear HI; rintro e w1 ⟨rfl, hb⟩)
      · exact ⟨⟨i + 1, dv, by rfl, by go_num, hrel.next hlt hb (by rw [depthL, HD.out, mx, if_pos hgt])⟩, by simp [intOf]; omega⟩
      · exact ⟨⟨i + 1, m, by rfl, by go_num, hrel.next hlt hb (by rw [depthL, HD.out, mx, if_neg (by omega)])⟩, by simp [intOf]; omega⟩
    · have hi := hrel.le
      obtain rfl : i = ts.length := by omega
      go_wp2
      go_ret
      have hs := hrel.rest
      simp only [List.drop_length, depthL] at hs
      exact ⟨ret_int (by rw [depthW, ← hs]), hrel.below⟩
end Go.Proofs.YtbmmdfehhhgkcaaGreat
namespace Go.Proofs.YtbmmdfehhhgkcaaGreat
open Go.RowKit Go.Shelf

def inI (n : Int) : Prop := -9223372036854775808 ≤ n ∧ n ≤ 9223372036854775807
theorem inI_wrap (n : Int) : inI (wrap64 n) := by unfold inI wrap64; omega
theorem wrap_in {n : Int} (h : inI n) : wrap64 n = n := by unfold inI at h; unfold wrap64; omega
theorem lastN_in {b : Bool} {l : List Tm} {n : Int} (h : inI n) : inI (lastN b l n) := by
  unfold lastN
  split
  · exact inI_wrap _
  · exact h
theorem lastN_binds {kk n : Int} {ts : List Tm} {i : Nat} (hlt : i < ts.length) (hn : inI n) : wrap64 (n + bindsI kk i ts.length) = lastN (isB kk) (ts.drop (i + 1)) n := by
  rw [lastN_tst hlt, bindsI]
  split
  · rfl
  · rw [Int.add_zero, wrap_in hn]
theorem bindsI_01 (k i : Int) (n : Nat) : bindsI k i n = 0 ∨ bindsI k i n = 1 := by
  unfold bindsI
  split
  · exact .inr rfl
  · exact .inl rfl
end Go.Proofs.YtbmmdfehhhgkcaaGreat
namespace Go.Proofs.YtbmmdfehhhgkcaaGreat
open Go.RowKit Go.Shelf

mutual
def sameB : Tm → Tm → Bool
  | ⟨k, h, a⟩, ⟨k', h', a'⟩ => k == k' && (h == h' && sameL a a')
def sameL : List Tm → List Tm → Bool
  | [], [] => true
  | t :: l, s :: m => sameB t s && sameL l m
  | _, _ => false
end
theorem sameL_ne {a b : List Tm} (h : a.length ≠ b.length) : sameL a b = false := by
  induction a generalizing b with
  | nil => cases b with
    | nil => exact absurd rfl h
    | cons => rfl
  | cons t l ih => cases b with
    | nil => rfl
    | cons s m => rw [sameL, ih (by simpa using h), Bool.and_false]

theorem cell_mov {W W' : World} {a : Addr} {v : Value} (h : W.cell? a = some v) (hb : Below W.heap.size W W') : W'.cell? a = some v := (hb.cell (World.block_lt_of_cell? W a h)).trans h
theorem bl_eta {a w : World} (h : Below a.heap.size a w) {n : Nat} : Below a.heap.size a { heap := w.heap, tape := w.tape, drawn := n, os := w.os, output := w.output } := ⟨h.os, h.tape, h.output, h.size, h.block⟩

/-- What a loop over the parts of two terms keeps. -/
structure TRel2 (w : World) (k h : Int) (A : Option Addr) (ts : List Tm) (c : Nat) (k2 h2 : Int) (A2 : Option Addr) (ss : List Tm) (c2 : Nat) (i : Nat) (wr : World) : Prop where
  le : i ≤ ts.length
  below : Below w.heap.size w wr
  b1 : Blk wr w.heap.size #[.int .i64 k, .int .i64 h, .slice A ts.length c] 25
  b2 : Blk wr (w.heap.size + 1) #[.int .i64 k2, .int .i64 h2, .slice A2 ss.length c2] 25
  rest : sameL (ts.drop i) (ss.drop i) = sameL ts ss
theorem TRel2.zero (w : World) (k h : Int) (A : Option Addr) (ts : List Tm) (c : Nat) (k2 h2 : Int) (A2 : Option Addr) (ss : List Tm) (c2 : Nat) :
    TRel2 w k h A ts c k2 h2 A2 ss c2 0 ((w.alloc (.cells #[.int .i64 k, .int .i64 h, .slice A ts.length c] 25)).alloc (.cells #[.int .i64 k2, .int .i64 h2, .slice A2 ss.length c2] 25)) :=
  ⟨Nat.zero_le _, bl_alloc (bl_alloc (Below.refl _ _) _) _, (Blk.new _ _ _).mov (bl_alloc (Below.refl _ _) _), by
    have := Blk.new (w.alloc (.cells #[.int .i64 k, .int .i64 h, .slice A ts.length c] 25)) #[.int .i64 k2, .int .i64 h2, .slice A2 ss.length c2] 25
    simpa using this, rfl⟩
theorem TRel2.next {w : World} {k h : Int} {A : Option Addr} {ts : List Tm} {c : Nat} {k2 h2 : Int} {A2 : Option Addr} {ss : List Tm} {c2 : Nat} {i : Nat} {wr w1 : World} (hr : TRel2 w k h A ts c k2 h2 A2 ss c2 i wr) (hlt : i < ts.length) (hlt2 : i < ss.length)
    (hb : Below wr.heap.size wr w1) (hf : sameB ts[i] ss[i] = true) : TRel2 w k h A ts c k2 h2 A2 ss c2 (i + 1) w1 :=
  ⟨hlt, bl_then hr.below hb, hr.b1.mov hb, hr.b2.mov hb, by rw [← hr.rest, List.drop_eq_getElem_cons hlt, List.drop_eq_getElem_cons hlt2, sameL, hf, Bool.true_and]⟩

set_option maxRecDepth 100000 in
set_option maxHeartbeats 2000000 in
theorem SameR_calls (t : Tm) : ∀ (s : Tm) (A : Option Addr) (c : Nat) (B : Option Addr) (d : Nat) (w : World), Reads (fun _ => False) w A t.a → t.a.length ≤ c → Reads (fun _ => False) w B s.a → s.a.length ≤ d →
    Calls Tryz.prog 17 #[.agg #[.int .i64 t.k, .int .i64 t.h, .slice A t.a.length c], .agg #[.int .i64 s.k, .int .i64 s.h, .slice B s.a.length d]] w fun e w' => e = .returned (.bool (sameB t s)) ∧ Below w.heap.size w w' := by
  induction t using Tm.ind with
  | h t ih =>
  intro s A c B d w hr hc hr2 hc2
  obtain ⟨kk, hh, ts⟩ := t
  obtain ⟨k2, h2, ss⟩ := s
  dsimp only at hr hc ih hr2 hc2 ⊢
  have hlen := hr.len
  have hlen2 := hr2.len
  unfold lim at hlen hlen2
  have IH := Lib.hid ih
  clear ih
  by_cases hk : kk = k2
  · subst hk
    by_cases hh2 : hh = h2
    · subst hh2
      by_cases hl : ts.length = ss.length
      · have hl2 : ((ts.length : Int) != (ss.length : Int)) = false := by simp [hl]
        have HL := Lib.hid hl
        clear hl
        go_enter Tryz.func17, Tryz.ntmps17
        go_wp2
        go_loopw [5] (fun j wr => ∃ (i : Nat), j = .int .i64 i ∧ TRel2 w kk hh A ts c kk hh B ss d i wr) (fun j _ => ts.length - (intOf j).toNat)
        case atStart => exact ⟨0, rfl, TRel2.zero _ _ _ _ _ _ _ _ _ _ _⟩
        case round =>
          obtain ⟨i, rfl, hrel⟩ := hrel
          have g2 := hrel.b1.cell 2
          have p2 := hrel.b2.cell 2
          have gl := hrel.b1.lt
          have pl := hrel.b2.lt
          by_cases hlt : i < ts.length
          · have hlt2 : i < ss.length := by have := HL.out; omega
            obtain ⟨ad, X, dd, rfl, -, c0, c1, c2, hd, hsub⟩ := (hr.mov hrel.below).at hlt
            obtain ⟨ad2, X2, dd2, rfl, -, d0, d1, d2, hd2, hsub2⟩ := (hr2.mov hrel.below).at hlt2
            have hih := fun (W : World) (hb : Below wr.heap.size wr W) => IH.out ts[i] (List.getElem_mem hlt) ss[i] X dd X2 dd2 W (hsub.mov hb) hd (hsub2.mov hb) hd2
            cases hv : sameB ts[i] ss[i]
            all_goals
              rw [hv] at hih
              have HI := Lib.hid hih
              have HV := Lib.hid hv
              clear hih hv
              go_wp2_with fail
              skip
              go_still_tail 10, (by kernel_rfl)
              go_wp2_with (go_at_call 17; refine (HI.out _ (bl_eta (Below.refl _ _))).mono ?_; clear HI; rintro e w1 ⟨rfl, hb0⟩; have hb := bl_then (bl_eta (Below.refl _ _)) hb0; clear hb0)
            · go_ret
              refine ⟨ret_bool ?_, bl_then hrel.below hb⟩
              rw [sameB, ← hrel.rest, List.drop_eq_getElem_cons hlt, List.drop_eq_getElem_cons hlt2, sameL, HV.out]
              simp
            · exact ⟨⟨i + 1, by go_num, hrel.next hlt hlt2 hb HV.out⟩, by simp [intOf]; omega⟩
          · have hi := hrel.le
            obtain rfl : i = ts.length := by omega
            go_wp2
            go_ret
            have hs := hrel.rest
            rw [List.drop_length, HL.out, List.drop_length, sameL] at hs
            exact ⟨ret_bool (by rw [sameB, ← hs]; simp), hrel.below⟩
      · have hl2 : ((ts.length : Int) != (ss.length : Int)) = true := by simp; omega
        go_enter Tryz.func17, Tryz.ntmps17
        go_wp2
        go_ret
        exact ⟨ret_bool (by rw [sameB, sameL_ne hl]; simp), bl_alloc (bl_alloc (Below.refl _ _) _) _⟩
    · have hq : (hh != h2) = true := by simpa using hh2
      go_enter Tryz.func17, Tryz.ntmps17
      go_wp2
      all_goals
        go_ret
        exact ⟨ret_bool (by rw [sameB]; simp [hh2]), bl_alloc (bl_alloc (Below.refl _ _) _) _⟩
  · have hq : (kk != k2) = true := by simpa using hk
    go_enter Tryz.func17, Tryz.ntmps17
    go_wp2
    all_goals
      go_ret
      exact ⟨ret_bool (by rw [sameB]; simp [hk]), bl_alloc (bl_alloc (Below.refl _ _) _) _⟩
set_option maxRecDepth 100000 in
set_option maxHeartbeats 2000000 in
theorem Same_calls (t : Tm) : ∀ (s : Tm) (A : Option Addr) (c : Nat) (B : Option Addr) (d : Nat) (w : World), Reads (fun _ => False) w A t.a → t.a.length ≤ c → Reads (fun _ => False) w B s.a → s.a.length ≤ d →
    Calls Tryz.prog 18 #[.agg #[.int .i64 t.k, .int .i64 t.h, .slice A t.a.length c], .agg #[.int .i64 s.k, .int .i64 s.h, .slice B s.a.length d]] w fun e w' => e = .returned (.bool (sameB t s)) ∧ Below w.heap.size w w' := by
  induction t using Tm.ind with
  | h t ih =>
  intro s A c B d w hr hc hr2 hc2
  obtain ⟨kk, hh, ts⟩ := t
  obtain ⟨k2, h2, ss⟩ := s
  dsimp only at hr hc ih hr2 hc2 ⊢
  have hlen := hr.len
  have hlen2 := hr2.len
  unfold lim at hlen hlen2
  have IH := Lib.hid ih
  clear ih
  by_cases hk : kk = k2
  · subst hk
    by_cases hh2 : hh = h2
    · subst hh2
      by_cases hl : ts.length = ss.length
      · have hl2 : ((ts.length : Int) != (ss.length : Int)) = false := by simp [hl]
        have HL := Lib.hid hl
        clear hl
        go_enter Tryz.func18, Tryz.ntmps18
        go_wp2
        go_loopw [31] (fun j wr => ∃ (i : Nat), j = .int .i64 i ∧ TRel2 w kk hh A ts c kk hh B ss d i wr) (fun j _ => ts.length - (intOf j).toNat)
        case atStart => exact ⟨0, rfl, TRel2.zero _ _ _ _ _ _ _ _ _ _ _⟩
        case round =>
          obtain ⟨i, rfl, hrel⟩ := hrel
          have g2 := hrel.b1.cell 2
          have p2 := hrel.b2.cell 2
          have gl := hrel.b1.lt
          have pl := hrel.b2.lt
          by_cases hlt : i < ts.length
          · have hlt2 : i < ss.length := by have := HL.out; omega
            obtain ⟨ad, X, dd, rfl, -, c0, c1, c2, hd, hsub⟩ := (hr.mov hrel.below).at hlt
            obtain ⟨ad2, X2, dd2, rfl, -, d0, d1, d2, hd2, hsub2⟩ := (hr2.mov hrel.below).at hlt2
            have hih := fun (W : World) (hb : Below wr.heap.size wr W) => IH.out ts[i] (List.getElem_mem hlt) ss[i] X dd X2 dd2 W (hsub.mov hb) hd (hsub2.mov hb) hd2
            cases hv : sameB ts[i] ss[i]
            all_goals
              rw [hv] at hih
              have HI := Lib.hid hih
              have HV := Lib.hid hv
              clear hih hv
              go_wp2_with fail
              (obtain ⟨W2, hW2⟩ : ∃ W2, wr.alloc (.cells #[.int .i64 ts[i].k, .int .i64 ts[i].h, .slice X ts[i].a.length dd] 25) = W2 := ⟨_, rfl⟩; rw [hW2]; have hbW : Below wr.heap.size wr W2 := hW2 ▸ bl_alloc (Below.refl _ _) _; have e : Blk W2 wr.heap.size #[.int .i64 ts[i].k, .int .i64 ts[i].h, .slice X ts[i].a.length dd] 25 := hW2 ▸ Blk.new wr _ _; have e0 := e.cell 0; have e1 := e.cell 1; have e2 := e.cell 2; replace p2 := cell_mov p2 hbW; replace d0 := cell_mov d0 hbW; replace d1 := cell_mov d1 hbW; replace d2 := cell_mov d2 hbW; clear e hW2 c0 c1 c2 g2)
              go_still_tail 6, (by kernel_rfl)
              go_wp2_with (go_at_call 18; refine (HI.out _ (bl_eta hbW)).mono ?_; clear HI; rintro e w1 ⟨rfl, hb0⟩; have hb := bl_then (bl_eta hbW) hb0; clear hb0)
            · go_ret
              refine ⟨ret_bool ?_, bl_then hrel.below hb⟩
              rw [sameB, ← hrel.rest, List.drop_eq_getElem_cons hlt, List.drop_eq_getElem_cons hlt2, sameL, HV.out]
              simp
            · exact ⟨⟨i + 1, by go_num, hrel.next hlt hlt2 hb HV.out⟩, by simp [intOf]; omega⟩
          · have hi := hrel.le
            obtain rfl : i = ts.length := by omega
            go_wp2
            go_ret
            have hs := hrel.rest
            rw [List.drop_length, HL.out, List.drop_length, sameL] at hs
            exact ⟨ret_bool (by rw [sameB, ← hs]; simp), hrel.below⟩
      · have hl2 : ((ts.length : Int) != (ss.length : Int)) = true := by simp; omega
        go_enter Tryz.func18, Tryz.ntmps18
        go_wp2
        go_ret
        exact ⟨ret_bool (by rw [sameB, sameL_ne hl]; simp), bl_alloc (bl_alloc (Below.refl _ _) _) _⟩
    · have hq : (hh != h2) = true := by simpa using hh2
      go_enter Tryz.func18, Tryz.ntmps18
      go_wp2
      all_goals
        go_ret
        exact ⟨ret_bool (by rw [sameB]; simp [hh2]), bl_alloc (bl_alloc (Below.refl _ _) _) _⟩
  · have hq : (kk != k2) = true := by simpa using hk
    go_enter Tryz.func18, Tryz.ntmps18
    go_wp2
    all_goals
      go_ret
      exact ⟨ret_bool (by rw [sameB]; simp [hk]), bl_alloc (bl_alloc (Below.refl _ _) _) _⟩
end Go.Proofs.YtbmmdfehhhgkcaaGreat
namespace Go.Proofs.YtbmmdfehhhgkcaaGreat
open Go.RowKit Go.Shelf

mutual
def nodesOk : Tm → Bool
  | ⟨k, h, a⟩ => mayN k h a.length && nodesOkL a
def nodesOkL : List Tm → Bool
  | [] => true
  | t :: l => nodesOk t && nodesOkL l
end

set_option maxHeartbeats 4000000 in
theorem nodesR_calls (t : Tm) : ∀ (A : Option Addr) (c : Nat) (w : World), Reads (fun _ => False) w A t.a → t.a.length ≤ c →
    Calls Tryz.prog 91 #[.agg #[.int .i64 t.k, .int .i64 t.h, .slice A t.a.length c]] w fun e w' => e = .returned (.bool (nodesOk t)) ∧ Below w.heap.size w w' := by
  induction t using Tm.ind with
  | h t ih =>
  intro A c w hr hc
  obtain ⟨kk, hh, ts⟩ := t
  dsimp only at hr hc ih ⊢
  have hlen := hr.len
  unfold lim at hlen
  have IH := Lib.hid ih
  clear ih
  cases hm : mayN kk hh ts.length
  · have HM := Lib.hid hm
    by_cases h0 : kk = 0
    · have hx : ¬ (hh = 0 ∧ ts.length = 0) := by rintro ⟨q1, q2⟩; simp [mayN, h0, q1, q2] at hm
      clear hm
      subst h0
      by_cases hz : hh = 0
      · have hq : ((ts.length : Int) != 0) = true := by simp; intro q; exact hx ⟨hz, by rw [q]; rfl⟩
        subst hz
        go_enter Tryz.func91, Tryz.ntmps91
        go_wp2
        go_ret
        exact ⟨ret_bool (by rw [nodesOk, HM.out]; rfl), bl_alloc (Below.refl _ _) _⟩
      · have hq : (hh != 0) = true := by simpa using hz
        go_enter Tryz.func91, Tryz.ntmps91
        go_wp2
        go_ret
        exact ⟨ret_bool (by rw [nodesOk, HM.out]; rfl), bl_alloc (Below.refl _ _) _⟩
    · by_cases h1 : kk = 1
      · have hx : ¬ (hh = 0 ∧ ts.length = 2) := by rintro ⟨q1, q2⟩; simp [mayN, h1, q1, q2] at hm
        clear hm h0
        subst h1
        by_cases hz : hh = 0
        · have hq : ((ts.length : Int) != 2) = true := by simp; intro q; exact hx ⟨hz, by omega⟩
          subst hz
          go_enter Tryz.func91, Tryz.ntmps91
          go_wp2
          go_ret
          exact ⟨ret_bool (by rw [nodesOk, HM.out]; rfl), bl_alloc (Below.refl _ _) _⟩
        · have hq : (hh != 0) = true := by simpa using hz
          go_enter Tryz.func91, Tryz.ntmps91
          go_wp2
          go_ret
          exact ⟨ret_bool (by rw [nodesOk, HM.out]; rfl), bl_alloc (Below.refl _ _) _⟩
      · by_cases h3 : kk = 3
        · have hx : ¬ (hh = 0 ∧ ts.length = 1) := by rintro ⟨q1, q2⟩; simp [mayN, h3, q1, q2] at hm
          clear hm h0 h1
          subst h3
          by_cases hz : hh = 0
          · have hq : ((ts.length : Int) != 1) = true := by simp; intro q; exact hx ⟨hz, by omega⟩
            subst hz
            go_enter Tryz.func91, Tryz.ntmps91
            go_wp2
            go_ret
            exact ⟨ret_bool (by rw [nodesOk, HM.out]; rfl), bl_alloc (Below.refl _ _) _⟩
          · have hq : (hh != 0) = true := by simpa using hz
            go_enter Tryz.func91, Tryz.ntmps91
            go_wp2
            go_ret
            exact ⟨ret_bool (by rw [nodesOk, HM.out]; rfl), bl_alloc (Below.refl _ _) _⟩
        · have hx : ¬ (0 ≤ kk ∧ kk < 7 ∧ 0 ≤ hh) := by rintro ⟨q1, q2, q3⟩; simp [mayN, h0, h1, h3, q1, q2, q3] at hm
          clear hm
          by_cases hz : hh < 0
          · go_enter Tryz.func91, Tryz.ntmps91
            go_wp2
            all_goals
              go_ret
              exact ⟨ret_bool (by rw [nodesOk, HM.out]; rfl), bl_alloc (Below.refl _ _) _⟩
          · have hk : kk < 0 ∨ 7 ≤ kk := by omega
            have q2 : (kk == 2) = false := by simp; omega
            have q4 : (kk == 4) = false := by simp; omega
            have q5 : (kk == 5) = false := by simp; omega
            have q6 : (kk == 6) = false := by simp; omega
            go_enter Tryz.func91, Tryz.ntmps91
            go_wp2
            all_goals
              go_ret
              exact ⟨ret_bool (by rw [nodesOk, HM.out]; rfl), bl_alloc (Below.refl _ _) _⟩
  · have HM := Lib.hid hm
    by_cases h0 : kk = 0
    · have hx : hh = 0 ∧ ts.length = 0 := by simpa [mayN, h0] using hm
      obtain ⟨rfl, hl⟩ := hx
      have hq : ((ts.length : Int) != 0) = false := by simp [hl]
      clear hm hl 
      subst h0
      go_enter Tryz.func91, Tryz.ntmps91
      go_wp2
      go_loopw [3] (fun j wr => ∃ (i : Nat), j = .int .i64 i ∧ TRel w 0 0 A ts c nodesOkL (nodesOkL ts) i wr) (fun j _ => ts.length - (intOf j).toNat)
      case atStart => exact ⟨0, rfl, TRel.zero _ _ _ _ _ _ _⟩
      case round =>
        obtain ⟨i, rfl, hrel⟩ := hrel
        have g2 := hrel.blk.cell 2
        by_cases hlt : i < ts.length
        · obtain ⟨ad, B, d, rfl, -, c0, c1, c2, hd, hsub⟩ := (hr.mov hrel.below).at hlt
          have hih := IH.out ts[i] (List.getElem_mem hlt) B d wr hsub hd
          cases hv : nodesOk ts[i]
          all_goals
            rw [hv] at hih
            have HI := Lib.hid hih
            have HV := Lib.hid hv
            clear hih hv
            go_wp2_with (go_at_call 91; refine HI.out.mono ?_; clear HI; rintro e w1 ⟨rfl, hb⟩)
          · go_ret
            refine ⟨ret_bool ?_, bl_then hrel.below hb⟩
            rw [nodesOk, ← hrel.rest, List.drop_eq_getElem_cons hlt, nodesOkL, HV.out]
            simp
          · exact ⟨⟨i + 1, by go_num, hrel.next hlt hb (by rw [nodesOkL, HV.out, Bool.true_and])⟩, by simp [intOf]; omega⟩
        · have hi := hrel.le
          obtain rfl : i = ts.length := by omega
          go_wp2
          go_ret
          have hs := hrel.rest
          simp only [List.drop_length, nodesOkL] at hs
          exact ⟨ret_bool (by rw [nodesOk, HM.out, ← hs]; rfl), hrel.below⟩
    · by_cases h1 : kk = 1
      · have hx : hh = 0 ∧ ts.length = 2 := by simpa [mayN, h1] using hm
        obtain ⟨rfl, hl⟩ := hx
        have hq : ((ts.length : Int) != 2) = false := by simp [hl]
        clear hm hl h0
        subst h1
        go_enter Tryz.func91, Tryz.ntmps91
        go_wp2
        go_loopw [3] (fun j wr => ∃ (i : Nat), j = .int .i64 i ∧ TRel w 1 0 A ts c nodesOkL (nodesOkL ts) i wr) (fun j _ => ts.length - (intOf j).toNat)
        case atStart => exact ⟨0, rfl, TRel.zero _ _ _ _ _ _ _⟩
        case round =>
          obtain ⟨i, rfl, hrel⟩ := hrel
          have g2 := hrel.blk.cell 2
          by_cases hlt : i < ts.length
          · obtain ⟨ad, B, d, rfl, -, c0, c1, c2, hd, hsub⟩ := (hr.mov hrel.below).at hlt
            have hih := IH.out ts[i] (List.getElem_mem hlt) B d wr hsub hd
            cases hv : nodesOk ts[i]
            all_goals
              rw [hv] at hih
              have HI := Lib.hid hih
              have HV := Lib.hid hv
              clear hih hv
              go_wp2_with (go_at_call 91; refine HI.out.mono ?_; clear HI; rintro e w1 ⟨rfl, hb⟩)
            · go_ret
              refine ⟨ret_bool ?_, bl_then hrel.below hb⟩
              rw [nodesOk, ← hrel.rest, List.drop_eq_getElem_cons hlt, nodesOkL, HV.out]
              simp
            · exact ⟨⟨i + 1, by go_num, hrel.next hlt hb (by rw [nodesOkL, HV.out, Bool.true_and])⟩, by simp [intOf]; omega⟩
          · have hi := hrel.le
            obtain rfl : i = ts.length := by omega
            go_wp2
            go_ret
            have hs := hrel.rest
            simp only [List.drop_length, nodesOkL] at hs
            exact ⟨ret_bool (by rw [nodesOk, HM.out, ← hs]; rfl), hrel.below⟩
      · by_cases h3 : kk = 3
        · have hx : hh = 0 ∧ ts.length = 1 := by simpa [mayN, h3] using hm
          obtain ⟨rfl, hl⟩ := hx
          have hq : ((ts.length : Int) != 1) = false := by simp [hl]
          clear hm hl h0 h1
          subst h3
          go_enter Tryz.func91, Tryz.ntmps91
          go_wp2
          go_loopw [3] (fun j wr => ∃ (i : Nat), j = .int .i64 i ∧ TRel w 3 0 A ts c nodesOkL (nodesOkL ts) i wr) (fun j _ => ts.length - (intOf j).toNat)
          case atStart => exact ⟨0, rfl, TRel.zero _ _ _ _ _ _ _⟩
          case round =>
            obtain ⟨i, rfl, hrel⟩ := hrel
            have g2 := hrel.blk.cell 2
            by_cases hlt : i < ts.length
            · obtain ⟨ad, B, d, rfl, -, c0, c1, c2, hd, hsub⟩ := (hr.mov hrel.below).at hlt
              have hih := IH.out ts[i] (List.getElem_mem hlt) B d wr hsub hd
              cases hv : nodesOk ts[i]
              all_goals
                rw [hv] at hih
                have HI := Lib.hid hih
                have HV := Lib.hid hv
                clear hih hv
                go_wp2_with (go_at_call 91; refine HI.out.mono ?_; clear HI; rintro e w1 ⟨rfl, hb⟩)
              · go_ret
                refine ⟨ret_bool ?_, bl_then hrel.below hb⟩
                rw [nodesOk, ← hrel.rest, List.drop_eq_getElem_cons hlt, nodesOkL, HV.out]
                simp
              · exact ⟨⟨i + 1, by go_num, hrel.next hlt hb (by rw [nodesOkL, HV.out, Bool.true_and])⟩, by simp [intOf]; omega⟩
            · have hi := hrel.le
              obtain rfl : i = ts.length := by omega
              go_wp2
              go_ret
              have hs := hrel.rest
              simp only [List.drop_length, nodesOkL] at hs
              exact ⟨ret_bool (by rw [nodesOk, HM.out, ← hs]; rfl), hrel.below⟩
        · have hx : 0 ≤ kk ∧ kk < 7 ∧ 0 ≤ hh := by simpa [mayN, h0, h1, h3, and_assoc] using hm
          obtain ⟨ha, hb, hz⟩ := hx
          clear hm
          by_cases h2 : kk = 2
          · subst h2
            clear h0 h1 h3 ha hb
            go_enter Tryz.func91, Tryz.ntmps91
            go_wp2
            go_loopw [3] (fun j wr => ∃ (i : Nat), j = .int .i64 i ∧ TRel w 2 hh A ts c nodesOkL (nodesOkL ts) i wr) (fun j _ => ts.length - (intOf j).toNat)
            case atStart => exact ⟨0, rfl, TRel.zero _ _ _ _ _ _ _⟩
            case round =>
              obtain ⟨i, rfl, hrel⟩ := hrel
              have g2 := hrel.blk.cell 2
              by_cases hlt : i < ts.length
              · obtain ⟨ad, B, d, rfl, -, c0, c1, c2, hd, hsub⟩ := (hr.mov hrel.below).at hlt
                have hih := IH.out ts[i] (List.getElem_mem hlt) B d wr hsub hd
                cases hv : nodesOk ts[i]
                all_goals
                  rw [hv] at hih
                  have HI := Lib.hid hih
                  have HV := Lib.hid hv
                  clear hih hv
                  go_wp2_with (go_at_call 91; refine HI.out.mono ?_; clear HI; rintro e w1 ⟨rfl, hb⟩)
                · go_ret
                  refine ⟨ret_bool ?_, bl_then hrel.below hb⟩
                  rw [nodesOk, ← hrel.rest, List.drop_eq_getElem_cons hlt, nodesOkL, HV.out]
                  simp
                · exact ⟨⟨i + 1, by go_num, hrel.next hlt hb (by rw [nodesOkL, HV.out, Bool.true_and])⟩, by simp [intOf]; omega⟩
              · have hi := hrel.le
                obtain rfl : i = ts.length := by omega
                go_wp2
                go_ret
                have hs := hrel.rest
                simp only [List.drop_length, nodesOkL] at hs
                exact ⟨ret_bool (by rw [nodesOk, HM.out, ← hs]; rfl), hrel.below⟩
          by_cases h4 : kk = 4
          · subst h4
            clear h0 h1 h3 ha hb
            go_enter Tryz.func91, Tryz.ntmps91
            go_wp2
            go_loopw [3] (fun j wr => ∃ (i : Nat), j = .int .i64 i ∧ TRel w 4 hh A ts c nodesOkL (nodesOkL ts) i wr) (fun j _ => ts.length - (intOf j).toNat)
            case atStart => exact ⟨0, rfl, TRel.zero _ _ _ _ _ _ _⟩
            case round =>
              obtain ⟨i, rfl, hrel⟩ := hrel
              have g2 := hrel.blk.cell 2
              by_cases hlt : i < ts.length
              · obtain ⟨ad, B, d, rfl, -, c0, c1, c2, hd, hsub⟩ := (hr.mov hrel.below).at hlt
                have hih := IH.out ts[i] (List.getElem_mem hlt) B d wr hsub hd
                cases hv : nodesOk ts[i]
                all_goals
                  rw [hv] at hih
                  have HI := Lib.hid hih
                  have HV := Lib.hid hv
                  clear hih hv
                  go_wp2_with (go_at_call 91; refine HI.out.mono ?_; clear HI; rintro e w1 ⟨rfl, hb⟩)
                · go_ret
                  refine ⟨ret_bool ?_, bl_then hrel.below hb⟩
                  rw [nodesOk, ← hrel.rest, List.drop_eq_getElem_cons hlt, nodesOkL, HV.out]
                  simp
                · exact ⟨⟨i + 1, by go_num, hrel.next hlt hb (by rw [nodesOkL, HV.out, Bool.true_and])⟩, by simp [intOf]; omega⟩
              · have hi := hrel.le
                obtain rfl : i = ts.length := by omega
                go_wp2
                go_ret
                have hs := hrel.rest
                simp only [List.drop_length, nodesOkL] at hs
                exact ⟨ret_bool (by rw [nodesOk, HM.out, ← hs]; rfl), hrel.below⟩
          by_cases h5 : kk = 5
          · subst h5
            clear h0 h1 h3 ha hb
            go_enter Tryz.func91, Tryz.ntmps91
            go_wp2
            go_loopw [3] (fun j wr => ∃ (i : Nat), j = .int .i64 i ∧ TRel w 5 hh A ts c nodesOkL (nodesOkL ts) i wr) (fun j _ => ts.length - (intOf j).toNat)
            case atStart => exact ⟨0, rfl, TRel.zero _ _ _ _ _ _ _⟩
            case round =>
              obtain ⟨i, rfl, hrel⟩ := hrel
              have g2 := hrel.blk.cell 2
              by_cases hlt : i < ts.length
              · obtain ⟨ad, B, d, rfl, -, c0, c1, c2, hd, hsub⟩ := (hr.mov hrel.below).at hlt
                have hih := IH.out ts[i] (List.getElem_mem hlt) B d wr hsub hd
                cases hv : nodesOk ts[i]
                all_goals
                  rw [hv] at hih
                  have HI := Lib.hid hih
                  have HV := Lib.hid hv
                  clear hih hv
                  go_wp2_with (go_at_call 91; refine HI.out.mono ?_; clear HI; rintro e w1 ⟨rfl, hb⟩)
                · go_ret
                  refine ⟨ret_bool ?_, bl_then hrel.below hb⟩
                  rw [nodesOk, ← hrel.rest, List.drop_eq_getElem_cons hlt, nodesOkL, HV.out]
                  simp
                · exact ⟨⟨i + 1, by go_num, hrel.next hlt hb (by rw [nodesOkL, HV.out, Bool.true_and])⟩, by simp [intOf]; omega⟩
              · have hi := hrel.le
                obtain rfl : i = ts.length := by omega
                go_wp2
                go_ret
                have hs := hrel.rest
                simp only [List.drop_length, nodesOkL] at hs
                exact ⟨ret_bool (by rw [nodesOk, HM.out, ← hs]; rfl), hrel.below⟩
          obtain rfl : kk = 6 := by omega
          clear h0 h1 h3 ha hb h2 h4 h5
          go_enter Tryz.func91, Tryz.ntmps91
          go_wp2
          go_loopw [3] (fun j wr => ∃ (i : Nat), j = .int .i64 i ∧ TRel w 6 hh A ts c nodesOkL (nodesOkL ts) i wr) (fun j _ => ts.length - (intOf j).toNat)
          case atStart => exact ⟨0, rfl, TRel.zero _ _ _ _ _ _ _⟩
          case round =>
            obtain ⟨i, rfl, hrel⟩ := hrel
            have g2 := hrel.blk.cell 2
            by_cases hlt : i < ts.length
            · obtain ⟨ad, B, d, rfl, -, c0, c1, c2, hd, hsub⟩ := (hr.mov hrel.below).at hlt
              have hih := IH.out ts[i] (List.getElem_mem hlt) B d wr hsub hd
              cases hv : nodesOk ts[i]
              all_goals
                rw [hv] at hih
                have HI := Lib.hid hih
                have HV := Lib.hid hv
                clear hih hv
                go_wp2_with (go_at_call 91; refine HI.out.mono ?_; clear HI; rintro e w1 ⟨rfl, hb⟩)
              · go_ret
                refine ⟨ret_bool ?_, bl_then hrel.below hb⟩
                rw [nodesOk, ← hrel.rest, List.drop_eq_getElem_cons hlt, nodesOkL, HV.out]
                simp
              · exact ⟨⟨i + 1, by go_num, hrel.next hlt hb (by rw [nodesOkL, HV.out, Bool.true_and])⟩, by simp [intOf]; omega⟩
            · have hi := hrel.le
              obtain rfl : i = ts.length := by omega
              go_wp2
              go_ret
              have hs := hrel.rest
              simp only [List.drop_length, nodesOkL] at hs
              exact ⟨ret_bool (by rw [nodesOk, HM.out, ← hs]; rfl), hrel.below⟩

mutual
def cnt : Tm → Nat
  | ⟨_, _, a⟩ => 1 + cntL a
def cntL : List Tm → Nat
  | [] => 0
  | t :: l => cnt t + cntL l
end
theorem wrap_add (a b : Int) : wrap64 (wrap64 a + wrap64 b) = wrap64 (a + b) := by
  unfold wrap64
  omega
mutual
theorem sizeR_eq : ∀ t : Tm, sizeR t = wrap64 (cnt t : Int)
  | ⟨_, _, a⟩ => by
    have h := sizeRL_eq a 1
    have e : wrap64 ((1 : Nat) : Int) = 1 := by unfold wrap64; omega
    rw [e] at h
    rw [sizeR, cnt, h]
theorem sizeRL_eq : ∀ (l : List Tm) (m : Nat), sizeRL (wrap64 (m : Int)) l = wrap64 ((m + cntL l : Nat) : Int)
  | [], m => by rw [sizeRL, cntL]; rfl
  | t :: l, m => by
    rw [sizeRL, sizeR_eq t, wrap_add, ← Int.natCast_add, sizeRL_eq l, cntL, Nat.add_assoc]
end
mutual
theorem nodesW_len : ∀ (t : Tm) (n : Int), (nodesW t n).length = cnt t
  | ⟨k, h, a⟩, n => by rw [nodesW, cnt, List.length_cons, nodesL_len]; omega
theorem nodesL_len : ∀ (b : Bool) (l : List Tm) (n : Int), (nodesL b l n).length = cntL l
  | _, [], _ => rfl
  | b, t :: l, n => by rw [nodesL, cntL, List.length_append, nodesW_len, nodesL_len]
end
theorem sizeW_eq (t : Tm) : sizeW t = sizeR t := by rw [sizeW, nodesW_len, sizeR_eq]
mutual
theorem nodesW_ok : ∀ (t : Tm) (n : Int), ((nodesW t n).all fun x => mayN x.2.k x.2.h x.2.a.length) = nodesOk t
  | ⟨k, h, a⟩, n => by rw [nodesW, nodesOk, List.all_cons, nodesL_ok]
theorem nodesL_ok : ∀ (b : Bool) (l : List Tm) (n : Int), ((nodesL b l n).all fun x => mayN x.2.k x.2.h x.2.a.length) = nodesOkL l
  | _, [], _ => rfl
  | b, t :: l, n => by rw [nodesL, nodesOkL, List.all_append, nodesW_ok, nodesL_ok]
end
theorem mayB_eq (t : Tm) : mayB t = (decide (depthW t ≤ 60) && (decide (sizeR t ≤ 4000) && nodesOk t)) := by rw [mayB, sizeW_eq, nodesW_ok]

def lightB (t : Tm) (n d : Int) : Bool := lowB t && (decide (sizeR t ≤ n) && decide (depthW t ≤ d))

set_option maxHeartbeats 1000000 in
theorem MayR_calls (t : Tm) (A : Option Addr) (c : Nat) (w : World) (hr : Reads (fun _ => False) w A t.a) (hc : t.a.length ≤ c) :
    Calls Tryz.prog 76 #[.agg #[.int .i64 t.k, .int .i64 t.h, .slice A t.a.length c]] w fun e w' => e = .returned (.bool (mayB t)) ∧ Below w.heap.size w w' := by
  have hbo : Below w.heap.size w (w.alloc (.cells #[.int .i64 t.k, .int .i64 t.h, .slice A t.a.length c] 25)) := bl_alloc (Below.refl _ _) _
  have HB := Lib.hid hbo
  have hbk := Blk.new w #[.int .i64 t.k, .int .i64 t.h, .slice A t.a.length c] 25
  have HK := Lib.hid hbk
  have hD := fun (W : World) (hb : Below w.heap.size w W) => nodesR_calls t A c W (hr.mov hb) hc
  have hS := fun (W : World) (hb : Below w.heap.size w W) => SizeR_calls t A c W (hr.mov hb) hc
  have hA := fun (W : World) (hb : Below w.heap.size w W) => DepthR_calls t A c W (hr.mov hb) hc
  have HD := Lib.hid hD
  have HS := Lib.hid hS
  have HA := Lib.hid hA
  clear hbo hbk hD hS hA
  have hm : mayB t = (nodesOk t && (decide (sizeR t ≤ 4000) && decide (depthW t ≤ 60))) := (by rw [mayB_eq]; cases nodesOk t <;> simp [Bool.and_comm])
  generalize sizeR t = sz at *
  generalize depthW t = de at *
  generalize nodesOk t = al at *
  cases al
  · have HM := Lib.hid hm
    clear hm
    go_enter Tryz.func76, Tryz.ntmps76
    go_wp2_with (go_at_call 91; refine (HD.out _ HB.out).mono ?_; clear HD; rintro e w1 ⟨rfl, hb⟩)
    go_ret
    exact ⟨ret_bool (by rw [HM.out]; rfl), bl_then HB.out hb⟩
  · cases h2 : decide (sz ≤ 4000)
    · rw [h2] at hm
      have HM := Lib.hid hm
      clear hm
      go_enter Tryz.func76, Tryz.ntmps76
      go_wp2_with (first
        | (go_at_call 91; refine (HD.out _ HB.out).mono ?_; clear HD; rintro e w1 ⟨rfl, hb⟩; have q := HK.out.mov hb; have q0 := q.cell 0; have q1 := q.cell 1; have q2 := q.cell 2; clear q)
        | (go_at_call 33; refine (HS.out _ (bl_then HB.out hb)).mono ?_; clear HS; rintro e w2 ⟨rfl, hb2⟩))
      go_ret
      exact ⟨ret_bool (by rw [HM.out]; rfl), bl_then (bl_then HB.out hb) hb2⟩
    · rw [h2] at hm
      have HM := Lib.hid hm
      clear hm
      go_enter Tryz.func76, Tryz.ntmps76
      go_wp2_with (first
        | (go_at_call 91; refine (HD.out _ HB.out).mono ?_; clear HD; rintro e w1 ⟨rfl, hb⟩; have q := HK.out.mov hb; have q0 := q.cell 0; have q1 := q.cell 1; have q2 := q.cell 2; clear q)
        | (go_at_call 33; refine (HS.out _ (bl_then HB.out hb)).mono ?_; clear HS; rintro e w2 ⟨rfl, hb2⟩; have p := (HK.out.mov hb).mov hb2; have p0 := p.cell 0; have p1 := p.cell 1; have p2 := p.cell 2; clear p)
        | (go_at_call 34; refine (HA.out _ (bl_then (bl_then HB.out hb) hb2)).mono ?_; clear HA; rintro e w3 ⟨rfl, hb3⟩))
      go_ret
      exact ⟨ret_bool (by rw [HM.out]; rfl), bl_then (bl_then (bl_then HB.out hb) hb2) hb3⟩

set_option maxHeartbeats 1000000 in
theorem Light_calls (t : Tm) (A : Option Addr) (c : Nat) (n d : Int) (w : World) (hr : Reads (fun _ => False) w A t.a) (hc : t.a.length ≤ c) :
    Calls Tryz.prog 13 #[.agg #[.int .i64 t.k, .int .i64 t.h, .slice A t.a.length c], .int .i64 n, .int .i64 d] w fun e w' => e = .returned (.bool (lightB t n d)) ∧ Below w.heap.size w w' := by
  have hbo : Below w.heap.size w (w.alloc (.cells #[.int .i64 t.k, .int .i64 t.h, .slice A t.a.length c] 25)) := bl_alloc (Below.refl _ _) _
  have HB := Lib.hid hbo
  have hbk := Blk.new w #[.int .i64 t.k, .int .i64 t.h, .slice A t.a.length c] 25
  have HK := Lib.hid hbk
  have hD := fun (W : World) (hb : Below w.heap.size w W) => low_calls t A c W (hr.mov hb) hc
  have hS := fun (W : World) (hb : Below w.heap.size w W) => SizeR_calls t A c W (hr.mov hb) hc
  have hA := fun (W : World) (hb : Below w.heap.size w W) => DepthR_calls t A c W (hr.mov hb) hc
  have HD := Lib.hid hD
  have HS := Lib.hid hS
  have HA := Lib.hid hA
  clear hbo hbk hD hS hA
  have hm : lightB t n d = (lowB t && (decide (sizeR t ≤ n) && decide (depthW t ≤ d))) := rfl
  generalize sizeR t = sz at *
  generalize depthW t = de at *
  generalize lowB t = al at *
  cases al
  · have HM := Lib.hid hm
    clear hm
    go_enter Tryz.func13, Tryz.ntmps13
    go_wp2_with (go_at_call 32; refine (HD.out _ HB.out).mono ?_; clear HD; rintro e w1 ⟨rfl, hb⟩)
    go_ret
    exact ⟨ret_bool (by rw [HM.out]; rfl), bl_then HB.out hb⟩
  · cases h2 : decide (sz ≤ n)
    · rw [h2] at hm
      have HM := Lib.hid hm
      clear hm
      go_enter Tryz.func13, Tryz.ntmps13
      go_wp2_with (first
        | (go_at_call 32; refine (HD.out _ HB.out).mono ?_; clear HD; rintro e w1 ⟨rfl, hb⟩; have q := HK.out.mov hb; have q0 := q.cell 0; have q1 := q.cell 1; have q2 := q.cell 2; clear q)
        | (go_at_call 33; refine (HS.out _ (bl_then HB.out hb)).mono ?_; clear HS; rintro e w2 ⟨rfl, hb2⟩))
      go_ret
      exact ⟨ret_bool (by rw [HM.out]; rfl), bl_then (bl_then HB.out hb) hb2⟩
    · rw [h2] at hm
      have HM := Lib.hid hm
      clear hm
      go_enter Tryz.func13, Tryz.ntmps13
      go_wp2_with (first
        | (go_at_call 32; refine (HD.out _ HB.out).mono ?_; clear HD; rintro e w1 ⟨rfl, hb⟩; have q := HK.out.mov hb; have q0 := q.cell 0; have q1 := q.cell 1; have q2 := q.cell 2; clear q)
        | (go_at_call 33; refine (HS.out _ (bl_then HB.out hb)).mono ?_; clear HS; rintro e w2 ⟨rfl, hb2⟩; have p := (HK.out.mov hb).mov hb2; have p0 := p.cell 0; have p1 := p.cell 1; have p2 := p.cell 2; clear p)
        | (go_at_call 34; refine (HA.out _ (bl_then (bl_then HB.out hb) hb2)).mono ?_; clear HA; rintro e w3 ⟨rfl, hb3⟩))
      go_ret
      exact ⟨ret_bool (by rw [HM.out]; rfl), bl_then (bl_then (bl_then HB.out hb) hb2) hb3⟩
end Go.Proofs.YtbmmdfehhhgkcaaGreat
