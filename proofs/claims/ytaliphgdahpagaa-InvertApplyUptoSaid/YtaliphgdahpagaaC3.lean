/- The contract of shift.change. -/
import Derived.Test.YtaliphgdahpagaaC2
namespace Go.Proofs.Ytaliphgdahpagaa
open Go.RowKit Go.Shelf


set_option maxHeartbeats 8000000 in
theorem change_calls (kr : Nat) (eg : ∀ args w, (callFunc kr args).run Try.prog w = .ok (.enter kr args) w) (first cap : Array Value) (of : Int → Int → Option Int) (t : Tm) :
    ∀ (S : Nat → Prop) (A : Option Addr) (c : Nat) (n : Int) (w : World), (∀ k, S k → k < w.heap.size) → Chg w kr first cap of → Reads S w A t.a → t.a.length ≤ c →
    Calls Try.prog 32 #[.agg #[.int .i64 t.k, .int .i64 t.h, .slice A t.a.length c], .int .i64 n, .func (.func kr) first cap] w (RetT S (chgW of t n) w) := by
  induction t using Tm.ind with
  | h t ih =>
  intro S A c n w hS hof hr hc
  obtain ⟨kk, hh, ts⟩ := t
  dsimp only at hr hc ih ⊢
  have hlen := hr.len
  unfold lim at hlen
  have IH := Lib.hid ih
  have HOF := Lib.hid hof
  have HSS := Lib.hid hS
  clear ih hof hS
  have hb0 : Below w.heap.size w ((((w.alloc (.cells #[.int .i64 kk, .int .i64 hh, .slice A ts.length c] 24)).alloc (.cells #[.int .i64 n] 3)).alloc (.cells #[.func (.func kr) first cap] 51)).alloc (.cells #[.int .i64 0, .int .i64 0, .slice none 0 0] 24)) := bl_alloc (bl_alloc (bl_alloc (bl_alloc (Below.refl _ _) _) _) _) _
  have e0 := (((Blk.new w #[.int .i64 kk, .int .i64 hh, .slice A ts.length c] 24).mov (bl_alloc (Below.refl _ _) (.cells #[.int .i64 n] 3))).mov (bl_alloc (Below.refl _ _) (.cells #[.func (.func kr) first cap] 51))).mov (bl_alloc (Below.refl _ _) (.cells #[.int .i64 0, .int .i64 0, .slice none 0 0] 24))
  have e1 := ((Boxed.new (w.alloc (.cells #[.int .i64 kk, .int .i64 hh, .slice A ts.length c] 24)) 3 (.int .i64 n)).alloc (.cells #[.func (.func kr) first cap] 51)).alloc (.cells #[.int .i64 0, .int .i64 0, .slice none 0 0] 24)
  have e2 := (Boxed.new ((w.alloc (.cells #[.int .i64 kk, .int .i64 hh, .slice A ts.length c] 24)).alloc (.cells #[.int .i64 n] 3)) 51 (.func (.func kr) first cap)).alloc (.cells #[.int .i64 0, .int .i64 0, .slice none 0 0] 24)
  have e3 := Blk.new (((w.alloc (.cells #[.int .i64 kk, .int .i64 hh, .slice A ts.length c] 24)).alloc (.cells #[.int .i64 n] 3)).alloc (.cells #[.func (.func kr) first cap] 51)) #[.int .i64 0, .int .i64 0, .slice none 0 0] 24
  simp only [World.size_alloc] at e1 e2 e3
  have HB0 := Lib.hid hb0
  have E0 := Lib.hid e0
  have E1 := Lib.hid e1
  have E2 := Lib.hid e2
  have E3 := Lib.hid e3
  clear hb0 e0 e1 e2 e3
  cases h4 : (kk == 4)
  · have hhd : (if kk = 4 then of hh n else some hh) = some hh := if_neg (by simpa using h4)
    have HHD := Lib.hid hhd
    have HBB := HB0
    clear hhd HB0
    go_enter Try.func32, Try.ntmps32
    go_wp2_with (first
      
      | (go_at_call 44
         refine (each_calls 45 (enters_of Try.func45 (by kernel_rfl) rfl) #[] #[.pointer (some ⟨w.heap.size + 1, 0, none⟩), .pointer (some ⟨w.heap.size, 0, none⟩), .pointer (some ⟨w.heap.size + 1 + 1, 0, none⟩)]
           (fun j t => chgW of t (lastN (isB kk) (ts.drop (j + 1)) n)) (fun k => S k ∨ (w.heap.size ≤ k ∧ k ≤ w.heap.size + 3)) ts A c _ ?hs ?hd ?hr).mono ?_
         case hs => exact fun k q => by (rcases q with q | q; (have := HSS.out k q; have := HBB.out.size; omega); (have := E3.out.lt; omega))
         case hr => exact hr.step (fun k hk hn q => by (rcases q with q | q; exact hn q; omega)) (fun k hk _ => HBB.out.block k hk)
         case hd =>
           intro i hi S2 B d W2 h1 h2 h3 h4
           have hnn := lastN_tst (kk := kk) (n := n) hi
           refine change1_calls kr first cap S2 w.heap.size (w.heap.size + 1) (w.heap.size + 1 + 1) kk hh n A ts.length c i ts[i] B d _ W2 h1 (E0.out.mov h2) (boxed_mov E1.out h2) (boxed_mov E2.out h2) (by unfold lim; omega) ?_ h3
           intro W3 hb3 S3 h5 h6
           rw [← hnn]
           exact IH.out ts[i] (List.getElem_mem hi) S3 B d _ W3 h5 (HOF.out.mov (bl_then HBB.out (bl_then h2 hb3))) h6 h4
         clear HOF IH
         rintro e w4 ⟨hb4, hor⟩
         have z := E3.out.mov hb4
         have z0 := z.cell 0
         have z1 := z.cell 1
         have z2 := z.cell 2
         have y0 := z.frozen 0
         have y1 := z.frozen 1
         have y2 := z.frozen 2
         have o0 := (E0.out.mov hb4).cell 0
         have HZ := Lib.hid z
         clear z
         have he := chgL_each of (isB kk) ts n ts.length 0 (by omega)
         rw [List.drop_zero] at he
         rw [he] at hor
         clear he
         rcases hor with (⟨hcn, rfl⟩ | ⟨us, B4, c4, hcs, rfl, hc4, hr4⟩)))
    · refine bodyPost_ret (res_tm rfl _ _ _ _ _ _ rfl (HZ.out.set3 (.int .i64 0) (.int .i64 0) (.slice none 0 0))) rfl ⟨bl_set3 (bl_then HBB.out hb4) (by omega), .inl ⟨?_, rfl⟩⟩
      rw [chgW, HHD.out, hcn]
      rfl
    · refine bodyPost_ret (res_tm rfl _ _ _ _ _ _ rfl (HZ.out.set3 (.int .i64 kk) (.int .i64 hh) (.slice B4 us.length c4))) rfl ⟨bl_set3 (bl_then HBB.out hb4) (by omega), .inr ⟨⟨kk, hh, us⟩, B4, c4, ?_, rfl, hc4, (hr4.set3 (.inr ⟨by omega, by omega⟩)).less (fun k q => .inl q)⟩⟩
      rw [chgW, HHD.out, hcs]
      rfl
  · have hhd : (if kk = 4 then of hh n else some hh) = of hh n := if_pos (beq_iff_eq.1 h4)
    have hc0 := HOF.out hh n _ HB0.out
    have HC := Lib.hid hc0
    clear hc0
    go_enter Try.func32, Try.ntmps32
    have HHE := Lib.hid hhd
    clear hhd
    go_wp2_with (refine HC.out.mono ?_; clear HC; rintro e w1 ⟨⟨j, b, rfl, hj⟩, hb1⟩; have HJ := Lib.hid hj; have HBB := Lib.hid (bl_then HB0.out hb1); have q := E0.out.mov hb1; have q0 := q.cell 0; have q1 := q.cell 1; have q2 := q.cell 2; have ql := q.lt; have z := E3.out.mov hb1; have z0 := z.cell 0; have z1 := z.cell 1; have z2 := z.cell 2; have y0 := z.frozen 0; have y1 := z.frozen 1; have y2 := z.frozen 2; replace E0 := Lib.hid q; replace E1 := Lib.hid (boxed_mov E1.out hb1); replace E2 := Lib.hid (boxed_mov E2.out hb1); replace E3 := Lib.hid z; clear q z hj hb1 HB0; cases b)
    · refine bodyPost_ret (res_tm rfl _ _ _ _ _ _ rfl (E3.out.set3 (.int .i64 0) (.int .i64 0) (.slice none 0 0))) rfl ⟨bl_set3 HBB.out (by omega), .inl ⟨?_, rfl⟩⟩
      rw [chgW, HHE.out, HJ.out]
      rfl
    · have HHD : Hid ((if kk = 4 then of hh n else some hh) = some j) := Lib.hid (HHE.out.trans HJ.out)
      clear HHE HJ z0 z1 z2 y0 y1 y2 q0 q1 q2
      go_wp2_with (first
        
        | (go_at_call 44
           refine (each_calls 45 (enters_of Try.func45 (by kernel_rfl) rfl) #[] #[.pointer (some ⟨w.heap.size + 1, 0, none⟩), .pointer (some ⟨w.heap.size, 0, none⟩), .pointer (some ⟨w.heap.size + 1 + 1, 0, none⟩)]
             (fun j t => chgW of t (lastN (isB kk) (ts.drop (j + 1)) n)) (fun k => S k ∨ (w.heap.size ≤ k ∧ k ≤ w.heap.size + 3)) ts A c _ ?hs ?hd ?hr).mono ?_
           case hs => exact fun k q => by (rcases q with q | q; (have := HSS.out k q; have := HBB.out.size; omega); (have := E3.out.lt; omega))
           case hr => exact hr.step (fun k hk hn q => by (rcases q with q | q; exact hn q; omega)) (fun k hk _ => HBB.out.block k hk)
           case hd =>
             intro i hi S2 B d W2 h1 h2 h3 h4
             have hnn := lastN_tst (kk := kk) (n := n) hi
             refine change1_calls kr first cap S2 w.heap.size (w.heap.size + 1) (w.heap.size + 1 + 1) kk hh n A ts.length c i ts[i] B d _ W2 h1 (E0.out.mov h2) (boxed_mov E1.out h2) (boxed_mov E2.out h2) (by unfold lim; omega) ?_ h3
             intro W3 hb3 S3 h5 h6
             rw [← hnn]
             exact IH.out ts[i] (List.getElem_mem hi) S3 B d _ W3 h5 (HOF.out.mov (bl_then HBB.out (bl_then h2 hb3))) h6 h4
           clear HOF IH
           rintro e w4 ⟨hb4, hor⟩
           have z := E3.out.mov hb4
           have z0 := z.cell 0
           have z1 := z.cell 1
           have z2 := z.cell 2
           have y0 := z.frozen 0
           have y1 := z.frozen 1
           have y2 := z.frozen 2
           have o0 := (E0.out.mov hb4).cell 0
           have HZ := Lib.hid z
           clear z
           have he := chgL_each of (isB kk) ts n ts.length 0 (by omega)
           rw [List.drop_zero] at he
           rw [he] at hor
           clear he
           rcases hor with (⟨hcn, rfl⟩ | ⟨us, B4, c4, hcs, rfl, hc4, hr4⟩)))
      · refine bodyPost_ret (res_tm rfl _ _ _ _ _ _ rfl (HZ.out.set3 (.int .i64 0) (.int .i64 0) (.slice none 0 0))) rfl ⟨bl_set3 (bl_then HBB.out hb4) (by omega), .inl ⟨?_, rfl⟩⟩
        rw [chgW, HHD.out, hcn]
        rfl
      · refine bodyPost_ret (res_tm rfl _ _ _ _ _ _ rfl (HZ.out.set3 (.int .i64 kk) (.int .i64 j) (.slice B4 us.length c4))) rfl ⟨bl_set3 (bl_then HBB.out hb4) (by omega), .inr ⟨⟨kk, j, us⟩, B4, c4, ?_, rfl, hc4, (hr4.set3 (.inr ⟨by omega, by omega⟩)).less (fun k q => .inl q)⟩⟩
        rw [chgW, HHD.out, hcs]
        rfl
end Go.Proofs.Ytaliphgdahpagaa
