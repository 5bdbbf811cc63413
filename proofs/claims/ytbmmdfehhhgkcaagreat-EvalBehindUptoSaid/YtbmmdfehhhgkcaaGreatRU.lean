/- What the arguments of a law read as: terms, rows of terms, rows of whole numbers; and how great they are by their bulk. -/
import Derived.Test.YtbmmdfehhhgkcaaGreatRows
import Derived.Test.YtbmmdfehhhgkcaaGreatBI
import Derived.WalkKit
import Derived.ProofKit
import Derived.OpenShut
import Derived.ChangeOld
import Derived.SizedLaws
import Derived.ChangeSlices
import Derived.Deep.Strs
namespace Go.Proofs.YtbmmdfehhhgkcaaGreat
set_option maxRecDepth 100000
open Go.RowKit Go.Shelf Go.ChangeShapes Go.WideShapes

theorem build {α : Type} {Q : Nat → α → Prop} : ∀ n, (∀ i, i < n → ∃ x, Q i x) → ∃ l : List α, l.length = n ∧ ∀ i, (hi : i < l.length) → Q i l[i] := by
  intro n
  induction n with
  | zero => exact fun _ => ⟨[], rfl, fun i hi => absurd hi (Nat.not_lt_zero i)⟩
  | succ n ih =>
    intro h
    obtain ⟨l, hl, hq⟩ := ih fun i hi => h i (by omega)
    obtain ⟨x, hx⟩ := h n (by omega)
    refine ⟨l ++ [x], by simp [hl], fun i hi => ?_⟩
    by_cases hn : i < l.length
    · rw [List.getElem_append_left hn]
      exact hq i hn
    · simp at hi
      have : i = l.length := by omega
      subst this
      rw [List.getElem_append_right (Nat.le_refl _)]
      simp
      exact hl ▸ hx

mutual
/-- All kinds and heads are whole numbers of 64 bits. -/
def okT : Tm → Prop
  | ⟨k, h, a⟩ => (-9223372036854775808 ≤ k ∧ k ≤ 9223372036854775807) ∧ (-9223372036854775808 ≤ h ∧ h ≤ 9223372036854775807) ∧ okL a
def okL : List Tm → Prop
  | [] => True
  | t :: l => okT t ∧ okL l
end
theorem okL_of : ∀ {l : List Tm}, (∀ i, (hi : i < l.length) → okT l[i]) → okL l
  | [], _ => by rw [okL]; trivial
  | t :: l, h => by
    rw [okL]
    exact ⟨h 0 (by simp), okL_of fun i hi => h (i + 1) (by simp; omega)⟩
theorem cnt_sum {H : Type} : ∀ (l : List Tm) (e : List (DataW H)), l.length = e.length → (∀ (i : Nat) (hi : i < l.length) d, e[i]? = some d → cnt l[i] ≤ Rows.uptoBulk d) → cntL l ≤ Rows.uptoBulkAll e
  | [], _, _, _ => by rw [cntL]; exact Nat.zero_le _
  | _ :: _, [], h, _ => by simp at h
  | t :: l, d :: e, h, hp => by
    rw [cntL, Rows.uptoBulkAll]
    have h1 := hp 0 (by simp) d rfl
    have h2 := cnt_sum l e (by simpa using h) fun i hi d' hd => hp (i + 1) (by simp; omega) d' (by simpa using hd)
    exact Nat.add_le_add h1 h2

section
variable {H : Type} {enc : TypeId × Value → H} {w : World} {base : Nat} {spare : Nat → Bool} {held : Bool}

theorem mem_wall {P : Program} {e : TypeId} {n : Nat} : ∀ {l : List (DataW H)} {d : DataW H}, d ∈ l → n ∈ d.weights P e → n ∈ DataW.weightsAll P e l
  | x :: l, d, hd, hn => by
    rw [DataW.weightsAll, List.mem_append]
    cases hd with
    | head => exact .inl hn
    | tail _ hd => exact .inr (mem_wall hd hn)

set_option maxRecDepth 100000 in
theorem terms_trod : ∀ (fuel : Nat) (A : Option Addr) (n c : Nat) (x : DataW H × List MemPlace), DataW.trod enc Tryz.prog w base spare held fuel 23 [.slice A n c] = some x →
    (∀ m ∈ x.1.weights Tryz.prog 23, m ≤ reachBytes) → ∃ ts, ts.length = n ∧ n ≤ c ∧ Reads (fun _ => False) w A ts ∧ cntL ts + 1 ≤ Rows.uptoBulk x.1 ∧ okL ts := by
  intro fuel
  induction fuel using Nat.strongRecOn with
  | _ fuel ih =>
  intro A n c x h hw
  rcases DataW.trod_slice Tryz.underlying23 h with ⟨h0, hx0⟩ | ⟨a, len, cap, elems, rest, m, rfl, h0, rfl, hb, hl, hm, hlen, hel, _, _⟩
  · simp at h0
    obtain ⟨rfl, rfl, rfl⟩ := h0
    exact ⟨[], rfl, Nat.le_refl _, .nil _, by rw [hx0]; simp [cntL, Rows.uptoBulk], by rw [okL]; trivial⟩
  · simp at h0
    obtain ⟨rfl, rfl, rfl⟩ := h0
    rcases Nat.eq_zero_or_pos n with rfl | hpos
    · exact ⟨[], rfl, hl, .nil _, by simp [cntL, Rows.uptoBulk], by rw [okL]; trivial⟩
    have hcell : Tryz.prog.cellsOf 25 = 3 := by kernel_rfl
    have hbytes : Tryz.prog.bytesOf 25 = 40 := by kernel_rfl
    have hwt : (elems.length + rest.length) * 40 ≤ reachBytes := by
      refine hw _ ?_
      simp [DataW.weights, Tryz.underlying23, hbytes]
    have hlim : n ≤ lim := by
      unfold reachBytes at hwt
      unfold lim
      omega
    rw [hcell] at hel
    have each : ∀ i, i < n → ∃ y : Tm × Option Addr × Nat, w.cell? (a.add (i * 3)) = some (.int .i64 y.1.k) ∧ w.cell? ((a.add (i * 3)).add 1) = some (.int .i64 y.1.h) ∧
        w.cell? ((a.add (i * 3)).add 2) = some (.slice y.2.1 y.1.a.length y.2.2) ∧ y.1.a.length ≤ y.2.2 ∧ Reads (fun _ => False) w y.2.1 y.1.a ∧ (∀ d, (elems.map (·.1))[i]? = some d → cnt y.1 ≤ Rows.uptoBulk d) ∧ okT y.1 := by
      intro i hi
      have hi' : i < elems.length := by omega
      have he := hel i hi
      rw [List.getElem?_eq_getElem hi', Option.bind_eq_some_iff] at he
      obtain ⟨cs, hcs, ht⟩ := he
      obtain ⟨_, hcl, hcc⟩ := World.cells?_some hcs
      obtain ⟨ys, q, hq, hx, _, hly, hf⟩ := DataW.trod_struct Tryz.underlying25 ht
      match cs, hcl, ys, hly with
      | [v0, v1, v2], _, [y0, y1, y2], _ =>
        have c0 := hcc 0 (by omega)
        have c1 := hcc 1 (by omega)
        have c2 := hcc 2 (by omega)
        have t0 := hf 0 _ rfl
        have t1 := hf 1 _ rfl
        have t2 := hf 2 _ rfl
        have z1 : Tryz.prog.cellsOf 3 = 1 := by kernel_rfl
        have z2 : Tryz.prog.cellsOf 23 = 1 := by kernel_rfl
        simp [z1] at t0 t1
        simp [z2] at t2
        obtain ⟨k, e0, _, k1⟩ := DataW.trod_int (k := .i64) (by kernel_rfl) t0
        obtain ⟨hd, e1, _, k2⟩ := DataW.trod_int (k := .i64) (by kernel_rfl) t1
        simp at e0 e1
        subst e0
        subst e1
        obtain ⟨B, l, d, rfl⟩ : ∃ B l d, v2 = .slice B l d := by
          rcases DataW.trod_slice Tryz.underlying23 t2 with ⟨e, _⟩ | ⟨a', l', d', _, _, _, _, e, _⟩
          · simp at e
            exact ⟨_, _, _, e⟩
          · simp at e
            exact ⟨_, _, _, e⟩
        obtain ⟨us, hul, hld, hru, hcu, hku⟩ := ih q (by omega) B l d y2 t2 (fun m' hm' => hw m' (by
          rw [DataW.weights, Tryz.underlying23]
          refine List.mem_cons_of_mem _ (List.mem_append.2 (.inl (mem_wall (d := elems[i].1) (List.mem_map_of_mem (List.getElem_mem _)) ?_)))
          rw [hx, DataW.weights, Tryz.underlying25]
          simp [DataW.weightsEach]
          exact .inr (.inr hm')))
        subst hul
        simp [Lit.wf] at k1 k2
        rw [show IntKind.i64.min = -9223372036854775808 from rfl] at k1 k2
        refine ⟨⟨⟨k, hd, us⟩, B, d⟩, by simpa [Addr.add] using c0, c1, c2, hld, hru, fun d' hd' => ?_, by rw [okT]; exact ⟨k1, k2, hku⟩⟩
        rw [List.getElem?_map, List.getElem?_eq_getElem hi', hx] at hd'
        obtain rfl := Option.some.inj hd'
        simp only [List.map_cons, List.map_nil, cnt, Rows.uptoBulk, Rows.uptoBulkAll]
        omega
    obtain ⟨ys, hyl, hys⟩ := build n each
    have hsp : a.spot = none := by
      have h1 := (hys 0 (by omega)).1
      rw [Nat.zero_mul, show a.add 0 = a from rfl] at h1
      unfold World.cell? at h1
      cases hs : a.spot with
      | none => rfl
      | some p => rw [hs] at h1; split at h1 <;> simp at h1
    obtain ⟨b, o, sp⟩ := a
    dsimp only at hsp
    subst hsp
    refine ⟨ys.map (·.1), by simp [hyl], hl, .row b o _ (fun i => ((ys[i]?).map (·.2.1)).getD none) (fun i => ((ys[i]?).map (·.2.2)).getD 0) (fun q => q.elim) (by simp [hyl]; exact hlim) ?_ ?_, ?_, ?_⟩
    · intro i hi
      simp at hi
      obtain ⟨h1, h2, h3, h4, _, _⟩ := hys i hi
      simp only [add_plain, List.getElem_map, List.getElem?_eq_getElem hi, Option.map_some, Option.getD_some] at *
      rw [Nat.mul_comm] at h1 h2 h3
      exact ⟨h1, h2, h3, h4⟩
    · intro i hi
      simp at hi
      obtain ⟨_, _, _, _, h5, _⟩ := hys i hi
      simpa only [List.getElem_map, List.getElem?_eq_getElem hi, Option.map_some, Option.getD_some] using h5
    · have := cnt_sum (ys.map (·.1)) (elems.map (·.1)) (by simp [hyl, hlen]) (fun i hi d hd => by
        simp at hi
        obtain ⟨_, _, _, _, _, h6, _⟩ := hys i hi
        rw [List.getElem_map]
        exact h6 d hd)
      simp only [Rows.uptoBulk]
      omega
    · refine okL_of fun i hi => ?_
      simp at hi
      obtain ⟨_, _, _, _, _, _, h7⟩ := hys i hi
      rw [List.getElem_map]
      exact h7

set_option maxRecDepth 100000 in
/-- A law's term. -/
theorem open_term {r : Reach} {b0 : Nat} {v : Value} {d : DataW H} {ps : List MemPlace} (hval : Value.okWide Tryz.prog w r b0 25 v) (hd : DataW.Trod enc Tryz.prog w base spare held 25 v d ps)
    (hw : ∀ m ∈ d.weights Tryz.prog 25, m ≤ reachBytes) :
    ∃ (t : Tm) (A : Option Addr) (c : Nat), v = .agg #[.int .i64 t.k, .int .i64 t.h, .slice A t.a.length c] ∧ t.a.length ≤ c ∧ Reads (fun _ => False) w A t.a ∧ cnt t ≤ Rows.uptoBulk d ∧ okT t := by
  obtain ⟨cs, rfl, hcs⟩ := okWide_struct Tryz.underlying25 hval
  obtain ⟨fuel, hf⟩ := hd
  obtain ⟨cs⟩ := cs
  have h3 : cs.length = 3 := hcs.trans (by kernel_rfl)
  obtain ⟨ys, q, hq, hx, _, hly, hf⟩ := DataW.trod_struct Tryz.underlying25 hf
  match cs, h3, ys, hly with
  | [v0, v1, v2], _, [y0, y1, y2], _ =>
    have t0 := hf 0 _ rfl
    have t1 := hf 1 _ rfl
    have t2 := hf 2 _ rfl
    have z1 : Tryz.prog.cellsOf 3 = 1 := by kernel_rfl
    have z2 : Tryz.prog.cellsOf 23 = 1 := by kernel_rfl
    simp [z1, Value.cells] at t0 t1
    simp [z2, Value.cells] at t2
    obtain ⟨k, e0, _, k1⟩ := DataW.trod_int (k := .i64) (by kernel_rfl) t0
    obtain ⟨hd, e1, _, k2⟩ := DataW.trod_int (k := .i64) (by kernel_rfl) t1
    simp at e0 e1
    subst e0
    subst e1
    obtain ⟨B, l, d', rfl⟩ : ∃ B l d, v2 = .slice B l d := by
      rcases DataW.trod_slice Tryz.underlying23 t2 with ⟨e, _⟩ | ⟨a', l', d', _, _, _, _, e, _⟩
      · simp at e
        exact ⟨_, _, _, e⟩
      · simp at e
        exact ⟨_, _, _, e⟩
    obtain ⟨us, hul, hld, hru, hcu, hku⟩ := terms_trod q B l d' y2 t2 (fun m' hm' => hw m' (by
      rw [(Prod.mk.inj hx).1, DataW.weights, Tryz.underlying25]
      simp [DataW.weightsEach]
      exact .inr (.inr hm')))
    subst hul
    simp [Lit.wf] at k1 k2
    rw [show IntKind.i64.min = -9223372036854775808 from rfl] at k1 k2
    refine ⟨⟨k, hd, us⟩, B, d', rfl, hld, hru, ?_, by rw [okT]; exact ⟨k1, k2, hku⟩⟩
    rw [(Prod.mk.inj hx).1]
    simp only [List.map_cons, List.map_nil, cnt, Rows.uptoBulk, Rows.uptoBulkAll]
    omega

/-- A law's row of terms. -/
theorem open_terms {r : Reach} {b0 : Nat} {v : Value} {d : DataW H} {ps : List MemPlace} (hval : Value.okWide Tryz.prog w r b0 23 v) (hd : DataW.Trod enc Tryz.prog w base spare held 23 v d ps)
    (hw : ∀ m ∈ d.weights Tryz.prog 23, m ≤ reachBytes) :
    ∃ (ts : List Tm) (A : Option Addr) (c : Nat), v = .slice A ts.length c ∧ ts.length ≤ c ∧ Reads (fun _ => False) w A ts ∧ cntL ts ≤ Rows.uptoBulk d ∧ okL ts := by
  obtain ⟨A, n, c, rfl⟩ := okWide_slice Tryz.underlying23 hval
  obtain ⟨fuel, hf⟩ := hd
  obtain ⟨us, hul, hld, hru, hcu, hku⟩ := terms_trod fuel A n c (d, ps) hf hw
  subst hul
  exact ⟨us, A, c, rfl, hld, hru, Nat.le_of_succ_le hcu, hku⟩

theorem lits_bulk (k : IntKind) : ∀ l : List Int, Rows.uptoBulkAll (lits (H := H) k l) = l.length
  | [] => rfl
  | x :: l => by
    show 1 + Rows.uptoBulkAll (lits (H := H) k l) = _
    rw [lits_bulk k l, List.length_cons, Nat.add_comm]
/-- A law's row of whole numbers. -/
theorem open_nums {r : Reach} {b0 : Nat} {v : Value} {d : DataW H} {ps : List MemPlace} (hval : Value.okWide Tryz.prog w r b0 52 v) (hd : DataW.Trod enc Tryz.prog w base spare held 52 v d ps)
    (hw : ∀ m ∈ d.weights Tryz.prog 52, m ≤ reachBytes) :
    ∃ (xs : List Int) (A : Option Addr) (c : Nat), v = .slice A xs.length c ∧ xs.length ≤ c ∧ RdI (fun _ => False) w A xs ∧ xs.length ≤ Rows.uptoBulk d ∧ ∀ x ∈ xs, -9223372036854775808 ≤ x ∧ x ≤ 9223372036854775807 := by
  obtain ⟨A, n, c, rfl⟩ := okWide_slice Tryz.underlying52 hval
  obtain ⟨fuel, hf⟩ := hd
  rcases open_ints Tryz.underlying52 (k := .i64) (by kernel_rfl) (by kernel_rfl) hf with ⟨hcs, _⟩ | ⟨a, l, c', zs, hcs, _, hl, _, hz, hx, hcell, hwf⟩
  · simp [Value.cells] at hcs
    obtain ⟨rfl, rfl, rfl⟩ := hcs
    exact ⟨[], none, 0, rfl, Nat.le_refl _, ⟨Nat.zero_le _, fun i hi => absurd hi (Nat.not_lt_zero i)⟩, Nat.zero_le _, fun x hx => by cases hx⟩
  · simp [Value.cells] at hcs
    obtain ⟨rfl, rfl, rfl⟩ := hcs
    have hbytes : Tryz.prog.bytesOf 3 = 8 := by kernel_rfl
    have hnz : n ≤ zs.length := by rw [hz]; split <;> omega
    have hlen : (zs.take n).length = n := by simp; omega
    have hlim : n ≤ limI := by
      have z := hw ((zs.take n).length * 8 + (zs.drop n).length * 8) (by
        rw [(Prod.mk.inj hx).1, DataW.weights, Tryz.underlying52]
        simp [lits, hbytes, Nat.add_mul])
      unfold reachBytes at z
      unfold limI
      omega
    refine ⟨zs.take n, some a, c, by rw [hlen], by omega, ⟨by omega, fun i hi => ⟨a, rfl, fun q => q, ?_⟩⟩, ?_, fun x hx => ?_⟩
    · have hi' : i < zs.length := by simp at hi; omega
      rw [hcell i hi', List.getElem_take]
      simp [List.getD, hi']
    · rw [(Prod.mk.inj hx).1, Rows.uptoBulk, lits_bulk]
      omega
    · have z := hwf x (List.mem_of_mem_take hx)
      simp [Lit.wf] at z
      rw [show IntKind.i64.min = -9223372036854775808 from rfl] at z
      omega
end
end Go.Proofs.YtbmmdfehhhgkcaaGreat
