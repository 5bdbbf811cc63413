/- Rows of terms that a call makes itself, by appending other rows of terms. -/
import Derived.Test.YtbmmdfehhhgkcaaGreatB
import Derived.Deep.AppendLies
import Derived.Laws.OwnMore
import Derived.Tactics
namespace Go.Proofs.YtbmmdfehhhgkcaaGreat
open Go.RowKit Go.Shelf

theorem tmcs_app : ∀ (ts : List Tm) (qs : List (Option Addr × Nat)) (us : List Tm) (rs : List (Option Addr × Nat)), qs.length = ts.length → tmcs (ts ++ us) (qs ++ rs) = tmcs ts qs ++ tmcs us rs
  | [], [], _, _, _ => by simp [tmcs]
  | [], _ :: _, _, _, h => by simp at h
  | _ :: _, [], _, _, h => by simp at h
  | t :: ts, q :: qs, us, rs, h => by simp [tmcs, tmcs_app ts qs us rs (by simpa using h)]
theorem tmcs_one : ∀ (ts : List Tm) (qs : List (Option Addr × Nat)), ∀ u ∈ tmcs ts qs, u.oneCell' = true
  | [], _, u, h => by simp [tmcs] at h
  | _ :: _, [], u, h => by simp [tmcs] at h
  | t :: ts, q :: qs, u, h => by
    rw [tmcs, List.mem_append] at h
    rcases h with h | h
    · simp only [tmc, List.mem_cons, List.not_mem_nil, or_false] at h
      rcases h with rfl | rfl | rfl <;> rfl
    · exact tmcs_one ts qs u h
theorem tmcs_inv : ∀ (ts : List Tm) (qs : List (Option Addr × Nat)), qs.length = ts.length → ∀ (j : Nat) (u : Value), (tmcs ts qs)[j]? = some u → ∃ i, ∃ (hi : i < ts.length) (hq : i < qs.length),
    (j = i * 3 ∧ u = .int .i64 ts[i].k) ∨ (j = i * 3 + 1 ∧ u = .int .i64 ts[i].h) ∨ (j = i * 3 + 2 ∧ u = .slice qs[i].1 ts[i].a.length qs[i].2)
  | [], _, _, j, u, h => by simp [tmcs] at h
  | _ :: _, [], h0, _, _, _ => by simp at h0
  | t :: ts, q :: qs, h0, j, u, h => by
    match j, h with
    | 0, h => exact ⟨0, by simp, by simp, .inl ⟨rfl, by simpa [tmcs, tmc] using h.symm⟩⟩
    | 1, h => exact ⟨0, by simp, by simp, .inr (.inl ⟨rfl, by simpa [tmcs, tmc] using h.symm⟩)⟩
    | 2, h => exact ⟨0, by simp, by simp, .inr (.inr ⟨rfl, by simpa [tmcs, tmc] using h.symm⟩)⟩
    | j + 3, h =>
      obtain ⟨i, hi, hq, r⟩ := tmcs_inv ts qs (by simpa using h0) j u (by simpa [tmcs, tmc] using h)
      refine ⟨i + 1, by simpa using hi, by simpa using hq, ?_⟩
      simp only [List.getElem_cons_succ]
      rcases r with ⟨r1, r2⟩ | ⟨r1, r2⟩ | ⟨r1, r2⟩
      · exact .inl ⟨by omega, r2⟩
      · exact .inr (.inl ⟨by omega, r2⟩)
      · exact .inr (.inr ⟨by omega, r2⟩)

/-- A row that reads as terms, as cells. -/
theorem Reads.row_cells {S : Nat → Prop} {w : World} {A : Option Addr} {ts : List Tm} (h : Reads S w A ts) :
    ts = [] ∨ ∃ (ad : Addr) (qs : List (Option Addr × Nat)), A = some ad ∧ ¬ S ad.block ∧ qs.length = ts.length ∧ (∀ j u, (tmcs ts qs)[j]? = some u → w.cell? (ad.add j) = some u) ∧
      ∀ i, (hi : i < ts.length) → (hq : i < qs.length) → ts[i].a.length ≤ qs[i].2 ∧ Reads S w qs[i].1 ts[i].a := by
  cases h with
  | nil => exact .inl rfl
  | row b o ts f c hS hl hc hr =>
    refine .inr ⟨⟨b, o, none⟩, (List.range ts.length).map fun i => (f i, c i), rfl, hS, by simp, fun j u hu => ?_, fun i hi hq => ?_⟩
    · obtain ⟨i, hi, hq, r⟩ := tmcs_inv ts _ (by simp) j u hu
      obtain ⟨h1, h2, h3, _⟩ := hc i hi
      rw [add_plain]
      rcases r with ⟨rfl, rfl⟩ | ⟨rfl, rfl⟩ | ⟨rfl, rfl⟩
      · rw [Nat.mul_comm]; exact h1
      · rw [Nat.mul_comm]; exact h2
      · rw [Nat.mul_comm]; simp only [List.getElem_map, List.getElem_range]; exact h3
    · simp only [List.getElem_map, List.getElem_range]
      exact ⟨(hc i hi).2.2.2, hr i hi⟩

theorem run_append_none {W : World} (t : TypeId) (base : Nat) (e : TypeId) (i : TypeInfo) (size : Nat) (ht : Tryz.prog.underlying t = some (.slice e)) (hi : Tryz.prog.info? e = some i) (ty : TypeId) (v : Value) (n : Nat) (xs : List Value)
    (hown : W.ownsRow base e size v n xs) (c : Nat) : (Builtin.append_ #[t, t] ty #[v, .slice none 0 c]).run Tryz.prog W = .ok v W := by
  rcases hown.2 with ⟨rfl, rfl⟩ | ⟨g, cap, cur, rfl, _, _, hnc, _⟩
  · simp [Builtin.append_, run_underlying ht, sizeOf, typeInfo, hi, Builtin.lenOf, Builtin.firstCells]
  · simp [Builtin.append_, run_underlying ht, sizeOf, typeInfo, hi, Builtin.lenOf, Builtin.firstCells, hnc, storeCells]

/-- 'append(v, us...)': its run. -/
theorem run_append_tms (ty : TypeId) (base : Nat) (S : Nat → Prop) {W : World} (v : Value) (ts us : List Tm) (B : Option Addr) (c : Nat)
    (HM : Mine base S W v ts) (hr : Reads (fun k => S k ∨ v.ownBlock = some k) W B us) (hS : ∀ k, S k → k < W.heap.size) (hbase : base ≤ W.heap.size) (hl : ts.length + us.length ≤ lim) :
    ∃ v1 w1, (Builtin.append_ #[23, 23] ty #[v, .slice B us.length c]).run Tryz.prog W = .ok v1 w1 ∧ Mine base S w1 v1 (ts ++ us) ∧ W.grownBy w1 v.ownBlock ∧ (v1.ownBlock = v.ownBlock ∨ v1.ownBlock = some W.heap.size) := by
  have HM0 := HM
  have hlt := HM.lt
  obtain ⟨h0, h1, qs, h2, hown, h3⟩ := HM
  obtain ⟨i0, hi, hzz⟩ := Option.map_eq_some_iff.1 infoTm
  simp only [Prod.mk.injEq] at hzz
  obtain ⟨hz0, hz1, hz2⟩ := hzz
  unfold lim at hl
  rcases hr.row_cells with rfl | ⟨ad, rs, rfl, hnS, hrl, hcells, hsub⟩
  · cases B with
    | none =>
      refine ⟨v, W, ?_, by simpa using HM0, ⟨rfl, rfl, rfl, Nat.le_refl _, fun _ _ _ => rfl⟩, .inl rfl⟩
      exact run_append_none 23 base 25 i0 3 Tryz.underlying23 hi ty v ts.length (tmcs ts qs) hown c
    | some ad =>
      obtain ⟨v', w', hrun, k2, k3, _, k5⟩ := run_append_own_at (P := Tryz.prog) W base 23 ty 25 i0 _ 3 40 Tryz.underlying23 hi hz0 hz1 hz2 rfl (by decide) v ts.length (tmcs ts qs) hown ad 0 c [] (by simp) (by simp) (by simp) (by simp only [maxLen]; omega) (by omega) hbase
      refine ⟨v', w', hrun, ?_, k3, k5⟩
      simp only [Nat.add_zero, List.append_nil] at k2 ⊢
      refine ⟨h0, fun k hk => ?_, qs, h2, k2, fun i hi hq => ⟨(h3 i hi hq).1, ?_⟩⟩
      · rcases k5 with e | e
        · exact h1 k (e ▸ hk)
        · rw [e] at hk; cases hk; intro q; have := hS _ q; omega
      · refine (h3 i hi hq).2.step (fun k hk hn q => ?_) (fun k hk hn => k3.block k hk (fun q => hn (.inr q.symm)))
        rcases q with q | q
        · exact hn (.inl q)
        · rcases k5 with e | e
          · exact hn (.inr (e ▸ q))
          · rw [e] at q; cases q; omega
  · obtain ⟨v', w', hrun, k2, k3, _, k5⟩ := run_append_own_at (P := Tryz.prog) W base 23 ty 25 i0 _ 3 40 Tryz.underlying23 hi hz0 hz1 hz2 rfl (by decide) v ts.length (tmcs ts qs) hown ad us.length c (tmcs us rs) (tmcs_length us rs hrl) hcells (tmcs_one us rs) (by simp only [maxLen]; omega) (by omega) hbase
    refine ⟨v', w', hrun, ?_, k3, k5⟩
    rw [← List.length_append, ← tmcs_app ts qs us rs h2] at k2
    have key : ∀ (A : Option Addr) (l : List Tm), Reads (fun k => S k ∨ v.ownBlock = some k) W A l → Reads (fun k => S k ∨ v'.ownBlock = some k) w' A l := by
      intro A l hl
      refine hl.step (fun k hk hn q => ?_) (fun k hk hn => k3.block k hk (fun q => hn (.inr q.symm)))
      rcases q with q | q
      · exact hn (.inl q)
      · rcases k5 with e | e
        · exact hn (.inr (e ▸ q))
        · rw [e] at q; cases q; omega
    refine ⟨by rw [List.length_append]; unfold lim; omega, fun k hk => ?_, qs ++ rs, by simp [h2, hrl], k2, fun i hi hq => ?_⟩
    · rcases k5 with e | e
      · exact h1 k (e ▸ hk)
      · rw [e] at hk; cases hk; intro q; have := hS _ q; omega
    · by_cases hlt2 : i < ts.length
      · have hq2 : i < qs.length := by omega
        rw [List.getElem_append_left hlt2, List.getElem_append_left hq2]
        exact ⟨(h3 i hlt2 hq2).1, key _ _ (h3 i hlt2 hq2).2⟩
      · have hi2 : i - ts.length < us.length := by simp at hi; omega
        have hq2 : i - ts.length < rs.length := by omega
        have e1 : (ts ++ us)[i] = us[i - ts.length] := List.getElem_append_right (by omega)
        have e2 : (qs ++ rs)[i] = rs[i - ts.length] := by
          rw [List.getElem_append_right (by omega)]
          simp only [h2]
        rw [e1, e2]
        exact ⟨(hsub _ hi2 hq2).1, key _ _ (hsub _ hi2 hq2).2⟩

/-- At the operation. -/
theorem wp_append_tms {o : Oper} {a : Act} {K : Act → World → Prop} {Q : Exit → Act → World → Prop} (s x : Operand)
    (ho : o.op = .call { callee := .builtin .append, args := #[s, x], argTypes := #[23, 23] })
    (base : Nat) (S : Nat → Prop) {W : World} (v : Value) (ts us : List Tm) (B : Option Addr) (c : Nat) (hs : a.eval s = v) (hx : a.eval x = .slice B us.length c)
    (HM : Mine base S W v ts) (hr : Reads (fun k => S k ∨ v.ownBlock = some k) W B us) (hS : ∀ k, S k → k < W.heap.size) (hbase : base ≤ W.heap.size) (hl : ts.length + us.length ≤ lim)
    (h : ∀ v1 w1, Mine base S w1 v1 (ts ++ us) → W.grownBy w1 v.ownBlock → (v1.ownBlock = v.ownBlock ∨ v1.ownBlock = some W.heap.size) → K (a.put o.dst v1) w1) : o.wp Tryz.prog a W K Q := by
  obtain ⟨v1, w1, hrun, h2, h3, h4⟩ := run_append_tms o.type base S v ts us B c HM hr hS hbase hl
  unfold Oper.wp execOp
  simp only [ho, resolve, invoke, builtin, Sem.run_bind, Sem.run_pure, Result.andThen_ok, List.map_toArray, List.map_cons, List.map_nil, hs, hx, hrun]
  exact h v1 w1 h2 h3 h4
theorem wpList_append_tms {ops : Array Oper} {rest : List Oper} {o : Oper} {a : Act} {Q : Exit → Act → World → Prop} (hgd : o.guard = none) (s x : Operand)
    (ho : o.op = .call { callee := .builtin .append, args := #[s, x], argTypes := #[23, 23] })
    (base : Nat) (S : Nat → Prop) {W : World} (v : Value) (ts us : List Tm) (B : Option Addr) (c : Nat) (hs : a.eval s = v) (hx : a.eval x = .slice B us.length c)
    (HM : Mine base S W v ts) (hr : Reads (fun k => S k ∨ v.ownBlock = some k) W B us) (hS : ∀ k, S k → k < W.heap.size) (hbase : base ≤ W.heap.size) (hl : ts.length + us.length ≤ lim)
    (h : ∀ v1 w1, Mine base S w1 v1 (ts ++ us) → W.grownBy w1 v.ownBlock → (v1.ownBlock = v.ownBlock ∨ v1.ownBlock = some W.heap.size) → wpList Tryz.prog ops Q rest (a.put o.dst v1) w1) : wpList Tryz.prog ops Q (o :: rest) a W :=
  wpList_plain hgd fun _ hK => wp_append_tms s x ho base S v ts us B c hs hx HM hr hS hbase hl fun v1 w1 h2 h3 h4 => hK _ _ (h v1 w1 h2 h3 h4)
theorem step_append_tms {ops : Array Oper} {o : Oper} {a : Act} {K : Act → World → Prop} {Q : Exit → Act → World → Prop} {E : Prop} (hgd : o.guard = none) (s x : Operand)
    (ho : o.op = .call { callee := .builtin .append, args := #[s, x], argTypes := #[23, 23] })
    (base : Nat) (S : Nat → Prop) {W : World} (v : Value) (ts us : List Tm) (B : Option Addr) (c : Nat) (hs : a.eval s = v) (hx : a.eval x = .slice B us.length c)
    (HM : Mine base S W v ts) (hr : Reads (fun k => S k ∨ v.ownBlock = some k) W B us) (hS : ∀ k, S k → k < W.heap.size) (hbase : base ≤ W.heap.size) (hl : ts.length + us.length ≤ lim)
    (h : ∀ v1 w1, Mine base S w1 v1 (ts ++ us) → W.grownBy w1 v.ownBlock → (v1.ownBlock = v.ownBlock ∨ v1.ownBlock = some W.heap.size) → K (a.put o.dst v1) w1) :
    if Region.wanted o (yielded ops a.tmps) = true then Oper.wp Tryz.prog o a W K Q else E := by
  have hw : Region.wanted o (yielded ops a.tmps) = true := by simp [Region.wanted, hgd]
  rw [if_pos hw]
  exact wp_append_tms s x ho base S v ts us B c hs hx HM hr hS hbase hl h
end Go.Proofs.YtbmmdfehhhgkcaaGreat
