/- The contract of term.Own. -/
import Derived.Test.YtbmmdfehhhgkcaaGreatB
namespace Go.Proofs.YtbmmdfehhhgkcaaGreat
open Go.RowKit Go.Shelf

theorem take_snoc {ts : List Tm} {i : Nat} (hlt : i < ts.length) : ts.take i ++ [ts[i]] = ts.take (i + 1) := by rw [List.take_add_one]; simp [hlt]

structure OwnRel (S : Nat → Prop) (kk hh : Int) (A : Option Addr) (ts : List Tm) (c : Nat) (w : World) (i : Nat) (v : Value) (wr : World) : Prop where
  le : i ≤ ts.length
  below : Below w.heap.size w wr
  b0 : Blk wr w.heap.size #[.int .i64 kk, .int .i64 hh, .slice A ts.length c] 25
  b1 : Blk wr (w.heap.size + 1) #[.int .i64 0, .int .i64 0, .slice none 0 0] 25
  out : Mine w.heap.size (S3 S w.heap.size) wr v (ts.take i)

set_option maxHeartbeats 8000000 in
theorem Own_calls (t : Tm) : ∀ (S : Nat → Prop) (A : Option Addr) (c : Nat) (w : World), (∀ k, S k → k < w.heap.size) → Reads (fun _ => False) w A t.a → t.a.length ≤ c →
    Calls Tryz.prog 27 #[.agg #[.int .i64 t.k, .int .i64 t.h, .slice A t.a.length c]] w (RetU S t w) := by
  induction t using Tm.ind with
  | h t ih =>
  intro S A c w hS hr hc
  obtain ⟨kk, hh, ts⟩ := t
  dsimp only at hr hc ih ⊢
  have hlen := hr.len
  unfold lim at hlen
  have IH := Lib.hid ih
  have HSS := Lib.hid hS
  have hb0 : Below w.heap.size w ((w.alloc (.cells #[.int .i64 kk, .int .i64 hh, .slice A ts.length c] 25)).alloc (.cells #[.int .i64 0, .int .i64 0, .slice none 0 0] 25)) := bl_alloc (bl_alloc (Below.refl _ _) _) _
  have e0 := (Blk.new w #[.int .i64 kk, .int .i64 hh, .slice A ts.length c] 25).mov (bl_alloc (Below.refl _ _) (.cells #[.int .i64 0, .int .i64 0, .slice none 0 0] 25))
  have e1 := Blk.new (w.alloc (.cells #[.int .i64 kk, .int .i64 hh, .slice A ts.length c] 25)) #[.int .i64 0, .int .i64 0, .slice none 0 0] 25
  simp only [World.size_alloc] at e1
  have hrel0 : OwnRel S kk hh A ts c w 0 (.slice none 0 0) _ := ⟨Nat.zero_le _, hb0, e0, e1, by simpa using Mine.nil w.heap.size (S3 S w.heap.size) _⟩
  have hrel1 := Lib.hid hrel0
  clear ih hS hb0 e0 e1 hrel0
  go_enter Tryz.func27, Tryz.ntmps27
  go_wp2_with fail
  go_loopw [3, 5, 9] (fun v _ j wr => ∃ i : Nat, j = .int .i64 i ∧ OwnRel S kk hh A ts c w i v wr) (fun _ _ j _ => ts.length - (intOf j).toNat)
  case atStart => exact ⟨0, rfl, hrel1.out⟩
  case round =>
    clear hrel1
    obtain ⟨i, rfl, hrel⟩ := hrel
    have hmine := hrel.out
    have hbw := hrel.below
    have hb0 := hrel.b0
    have hb1 := hrel.b1
    by_cases hlt : i < ts.length
    · have hml := hmine.lt
      have hmg := hmine.ge
      obtain ⟨ad, B, d, rfl, -, c0, c1, c2, hd, hsub⟩ := (hr.mov hbw).at hlt
      have hcall := IH.out ts[i] (List.getElem_mem hlt) (fun k => S3 S w.heap.size k ∨ u3.ownBlock = some k) B d (wr.alloc (.cells #[.int .i64 ts[i].k, .int .i64 ts[i].h, .slice B ts[i].a.length d] 25))
        (fun k q => by
          have h1 := hbw.size
          have h2 := hb1.lt
          simp only [World.size_alloc]
          rcases q with (q | q) | q
          · have := HSS.out k q; omega
          · omega
          · have := hml k q; omega) (hsub.mov (bl_alloc (Below.refl _ _) _)) hd
      have HC := Lib.hid hcall
      have HBX := Lib.hid (hb0.mov (bl_alloc (Below.refl _ _) (.cells #[.int .i64 ts[i].k, .int .i64 ts[i].h, .slice B ts[i].a.length d] 25)))
      have htk : (ts.take i).length = i := by simp; omega
      have HTK := Lib.hid htk
      clear hcall hrel htk
      go_wp2_with (first
        | (go_at_call 27; refine HC.out.mono ?_; clear HC; rintro e w3 ⟨hb3, B3, c3, rfl, hc3, hr3⟩)
        | (at_builtin; refine append_tm rfl _ _ rfl w.heap.size (S3 S w.heap.size) u3 (ts.take i) ts[i] B3 c3 rfl rfl (by simp) ((hmine.mov (bl_alloc (Below.refl _ _) _)).mov hb3) hr3 hc3 ?ss ?bb ?ll ?_
           case ss => (have h1 := hbw.size; have h2 := hb1.lt; have h3 := hb3.size; simp only [World.size_alloc] at h3; exact fun k q => by (rcases q with q | q; (have := HSS.out k q; omega); omega))
           case bb => (have h1 := hbw.size; have h3 := hb3.size; simp only [World.size_alloc] at h3; omega)
           case ll => (rw [HTK.out]; unfold lim; omega)
           intro v1 w1 hm1 hg1))
      have hw3 := bl_then (bl_alloc (Below.refl wr.heap.size wr) _) hb3
      rw [take_snoc hlt] at hm1
      refine ⟨⟨i + 1, by go_num, hlt, bl_grown (bl_then hbw hw3) hg1 (fun k e => hmg k e), ?_, ?_, hm1⟩, by simp [intOf]; omega⟩
      · exact (hb0.mov hw3).grown hg1 (fun e => hmine.2.1 _ e.symm (.inr ⟨by omega, by omega⟩))
      · exact (hb1.mov hw3).grown hg1 (fun e => hmine.2.1 _ e.symm (.inr ⟨by omega, by omega⟩))
    · obtain rfl : i = ts.length := by have := hrel.le; omega
      rw [List.take_length] at hmine
      obtain ⟨B, d, rfl, hd2, hrd⟩ := hmine.reads
      have p0 := hb0.cell 0
      have p1 := hb0.cell 1
      have q0 := hb1.cell 0
      have q1 := hb1.cell 1
      have q2 := hb1.cell 2
      have y0 := hb1.frozen 0
      have y1 := hb1.frozen 1
      have y2 := hb1.frozen 2
      have HZ := Lib.hid hb1
      clear hrel
      go_wp2_with fail
      exact bodyPost_ret (res_tm1 rfl _ _ _ _ _ _ rfl (HZ.out.set3 (.int .i64 kk) (.int .i64 hh) (.slice B ts.length d))) rfl ⟨bl_set3 hbw (by omega), B, d, rfl, hd2, (hrd.set3 (.inr ⟨by omega, by omega⟩)).less (fun k q => .inl q)⟩
end Go.Proofs.YtbmmdfehhhgkcaaGreat
