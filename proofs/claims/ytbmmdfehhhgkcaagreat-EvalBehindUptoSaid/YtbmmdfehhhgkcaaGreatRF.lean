/- What a law's metas, calls, clauses and functions read as. What a law's rows of truth values and of binds read as. -/
import Derived.Test.YtbmmdfehhhgkcaaGreatRU
import Derived.Test.YtbmmdfehhhgkcaaGreatDT
import Derived.Test.YtbmmdfehhhgkcaaGreatMV
namespace Go.Proofs.YtbmmdfehhhgkcaaGreat
open Go.RowKit Go.Shelf Go.ChangeShapes Go.WideShapes
set_option linter.unusedVariables false
set_option linter.unusedSimpArgs false
set_option maxRecDepth 100000

section
variable {H : Type}
theorem bulk_pos : ∀ d : DataW H, 1 ≤ Rows.uptoBulk d
  | .lit (.string _) => by rw [Rows.uptoBulk]; omega
  | .lit (.int _ _) => by simp [Rows.uptoBulk]
  | .lit (.bool _) => by simp [Rows.uptoBulk]
  | .lit (.float _ _) => by simp [Rows.uptoBulk]
  | .lit .nil => by simp [Rows.uptoBulk]
  | .nil => by rw [Rows.uptoBulk]; omega
  | .ptr _ => by rw [Rows.uptoBulk]; omega
  | .slice _ _ => by rw [Rows.uptoBulk]; omega
  | .agg _ => by rw [Rows.uptoBulk]; omega
  | .iface _ _ => by rw [Rows.uptoBulk]; omega
  | .map _ => by rw [Rows.uptoBulk]; omega
  | .held _ => by rw [Rows.uptoBulk]; omega
theorem bulk_len : ∀ l : List (DataW H), l.length ≤ Rows.uptoBulkAll l
  | [] => by simp
  | d :: l => by
    have := bulk_pos d
    have := bulk_len l
    rw [Rows.uptoBulkAll, List.length_cons]
    omega
theorem bulk_mem : ∀ {l : List (DataW H)} {d : DataW H}, d ∈ l → Rows.uptoBulk d ≤ Rows.uptoBulkAll l
  | x :: l, d, h => by
    rw [Rows.uptoBulkAll]
    rcases List.mem_cons.1 h with rfl | h
    · omega
    · have := bulk_mem h
      omega
end

section
variable {H : Type} {enc : TypeId × Value → H} {w : World} {base : Nat} {spare : Nat → Bool} {held : Bool}
/-- The bytes of each row are not too many. -/
def Fits (e : TypeId) (d : DataW H) : Prop := ∀ m ∈ d.weights Tryz.prog e, m ≤ reachBytes
theorem fits_each : ∀ {ts : List TypeId} {ds : List (DataW H)} {j : Nat} {t : TypeId} {d : DataW H}, (∀ m ∈ DataW.weightsEach Tryz.prog ts ds, m ≤ reachBytes) → ts[j]? = some t → ds[j]? = some d → Fits t d
  | ts, ds, j, t, d, h, ht, hd => fun m hm => h m (DataW.weights_mem_each ht hd m hm)
theorem fits_struct {e : TypeId} {fs : Array Field} (hu : Tryz.prog.underlying e = some (.struct fs)) {ds : List (DataW H)} (h : Fits e (.agg ds)) {j : Nat} {t : TypeId} {d : DataW H} (ht : (fs.toList.map (·.type))[j]? = some t) (hd : ds[j]? = some d) : Fits t d := by
  refine fits_each (fun m hm => h m ?_) ht hd
  rw [DataW.weights, hu]
  exact hm
theorem fits_elem {T e : TypeId} (hu : Tryz.prog.underlying T = some (.slice e)) {l r : List (DataW H)} (h : Fits T (.slice l r)) {d : DataW H} (hd : d ∈ l) : Fits e d := fun m hm => h m (by
  rw [DataW.weights, hu]
  exact List.mem_cons_of_mem _ (List.mem_append.2 (.inl (mem_wall hd hm))))

theorem row_trod {α : Type} {E : (Nat → Prop) → World → List Value → α → Prop} {sz bys : Nat} {T e : TypeId} (hT : Tryz.prog.underlying T = some (.slice e)) (hc : Tryz.prog.cellsOf e = sz) (hb : Tryz.prog.bytesOf e = bys) (hz : 0 < sz) (hby : 40 ≤ bys)
    {N : Nat} (G : α → Prop) (rd : ∀ q cs (x : DataW H × List MemPlace), DataW.trod enc Tryz.prog w base spare held q e cs = some x → Fits e x.1 → Rows.uptoBulk x.1 ≤ N → ∃ y, E (fun _ => False) w cs y ∧ G y)
    {fuel : Nat} {A : Option Addr} {n c : Nat} {x : DataW H × List MemPlace} (h : DataW.trod enc Tryz.prog w base spare held fuel T [.slice A n c] = some x) (hw : Fits T x.1) (hn : Rows.uptoBulk x.1 ≤ N) :
    ∃ ys : List α, ys.length = n ∧ n ≤ c ∧ Row E sz (fun _ => False) w A ys ∧ (∀ y ∈ ys, G y) ∧ n ≤ N := by
  rcases DataW.trod_slice hT h with ⟨h0, hx0⟩ | ⟨a, len, cap, elems, rest, m, rfl, h0, rfl, hb0, hl, hm, hlen, hel, _, _⟩
  · simp at h0
    obtain ⟨rfl, rfl, rfl⟩ := h0
    exact ⟨[], rfl, Nat.le_refl _, .nil _, (fun y hy => by cases hy), Nat.zero_le _⟩
  · simp at h0
    obtain ⟨rfl, rfl, rfl⟩ := h0
    have hbl := bulk_len (elems.map (·.1))
    rw [List.length_map, hlen] at hbl
    rcases Nat.eq_zero_or_pos n with rfl | hpos
    · exact ⟨[], rfl, hl, .nil _, (fun y hy => by cases hy), Nat.zero_le _⟩
    have hwt : (elems.length + rest.length) * bys ≤ reachBytes := by
      refine hw _ ?_
      simp [DataW.weights, hT, hb]
    have hlim : n ≤ lim := by
      have : n * 40 ≤ (elems.length + rest.length) * bys := Nat.mul_le_mul (by omega) hby
      unfold reachBytes at hwt
      unfold lim
      omega
    rw [hc] at hel
    have each : ∀ i, i < n → ∃ y : α × List Value, y.2.length = sz ∧ (∀ j u, y.2[j]? = some u → w.cell? ((a.add (i * sz)).add j) = some u) ∧ E (fun _ => False) w y.2 y.1 ∧ G y.1 := by
      intro i hi
      have hi' : i < elems.length := by omega
      have he := hel i hi
      rw [List.getElem?_eq_getElem hi', Option.bind_eq_some_iff] at he
      obtain ⟨cs, hcs, ht⟩ := he
      obtain ⟨_, hcl, hcc⟩ := World.cells?_some hcs
      have hmem : elems[i].1 ∈ elems.map (·.1) := List.mem_map_of_mem (List.getElem_mem _)
      have hbm := bulk_mem hmem
      simp only [Rows.uptoBulk] at hn
      obtain ⟨y, hy, hg⟩ := rd m cs elems[i] ht (fits_elem hT hw hmem) (by omega)
      refine ⟨(y, cs), hcl, fun j u hu => ?_, hy, hg⟩
      have hj : j < sz := by rw [← hcl]; exact (List.getElem?_eq_some_iff.1 hu).1
      rw [hcc j hj, ← hu]
    obtain ⟨ys, hyl, hys⟩ := build n each
    have hsp : a.spot = none := by
      obtain ⟨h1, h2, _⟩ := hys 0 (by omega)
      have h3 := h2 0 _ (List.getElem?_eq_getElem (by omega))
      rw [Nat.zero_mul, show (a.add 0).add 0 = a from rfl] at h3
      unfold World.cell? at h3
      cases hs : a.spot with
      | none => rfl
      | some p => rw [hs] at h3; split at h3 <;> simp at h3
    refine ⟨ys.map (·.1), by simp [hyl], hl, ⟨by simp [hyl]; exact hlim, fun i hi => ?_⟩, fun y hy => ?_, by simp only [Rows.uptoBulk] at hn; omega⟩
    · simp at hi
      obtain ⟨h1, h2, h3, _⟩ := hys i hi
      obtain ⟨b, o, sp⟩ := a
      dsimp only at hsp
      subst hsp
      refine ⟨⟨b, o, none⟩, ys[i].2, rfl, rfl, fun q => q, h1, fun j u hu => ?_, by rw [List.getElem_map]; exact h3⟩
      have := h2 j u hu
      rw [add_plain, add_plain, Nat.add_assoc] at this
      exact this
    · obtain ⟨i, hi, rfl⟩ := List.getElem_of_mem hy
      simp at hi
      obtain ⟨_, _, _, hg⟩ := hys i hi
      rw [List.getElem_map]
      exact hg

theorem slice_of {T e : TypeId} (hT : Tryz.prog.underlying T = some (.slice e)) {q : Nat} {v : Value} {x : DataW H × List MemPlace} (h : DataW.trod enc Tryz.prog w base spare held q T [v] = some x) : ∃ B l d, v = .slice B l d := by
  rcases DataW.trod_slice hT h with ⟨e, _⟩ | ⟨a', l', d', _, _, _, _, e, _⟩
  · simp at e
    exact ⟨_, _, _, e⟩
  · simp at e
    exact ⟨_, _, _, e⟩


/-- A term's cells. -/
theorem term_trod {q : Nat} {cs : List Value} {x : DataW H × List MemPlace} (h : DataW.trod enc Tryz.prog w base spare held q 25 cs = some x) (hw : Fits 25 x.1) :
    ∃ (t : Tm) (B : Option Addr) (d : Nat), cs = [.int .i64 t.k, .int .i64 t.h, .slice B t.a.length d] ∧ t.a.length ≤ d ∧ Reads (fun _ => False) w B t.a ∧ cnt t ≤ Rows.uptoBulk x.1 ∧ okT t := by
  obtain ⟨ys, q, hq, hx, hcl, hly, hf⟩ := DataW.trod_struct Tryz.underlying25 h
  rw [show Tryz.prog.cellsOf 25 = 3 from by kernel_rfl] at hcl
  match cs, hcl, ys, hly with
  | [v0, v1, v2], _, [y0, y1, y2], _ =>
    have t0 := hf 0 _ rfl
    have t1 := hf 1 _ rfl
    have t2 := hf 2 _ rfl
    have z1 : Tryz.prog.cellsOf 3 = 1 := by kernel_rfl
    have z2 : Tryz.prog.cellsOf 23 = 1 := by kernel_rfl
    simp [z1] at t0 t1
    simp [z2] at t2
    obtain ⟨k, e0, _, k1⟩ := DataW.trod_int (k := .i64) (by kernel_rfl) t0
    obtain ⟨hd, e1, _, k2⟩ := DataW.trod_int (k := .i64) (by kernel_rfl) t1
    simp at e0 e1
    subst e0
    subst e1
    obtain ⟨B, l, d', rfl⟩ := slice_of Tryz.underlying23 t2
    rw [(Prod.mk.inj hx).1] at hw
    obtain ⟨us, hul, hld, hru, hcu, hku⟩ := terms_trod q B l d' y2 t2 (fits_struct Tryz.underlying25 hw (j := 2) rfl rfl)
    subst hul
    simp [Lit.wf] at k1 k2
    rw [show IntKind.i64.min = -9223372036854775808 from rfl] at k1 k2
    refine ⟨⟨k, hd, us⟩, B, d', rfl, hld, hru, ?_, by rw [okT]; exact ⟨k1, k2, hku⟩⟩
    rw [(Prod.mk.inj hx).1]
    simp only [List.map_cons, List.map_nil, cnt, Rows.uptoBulk, Rows.uptoBulkAll]
    omega

/-- So great a thing, at most; all its numbers are of 64 bits. -/
def gT (B : Nat) (t : Tm) : Prop := okT t ∧ cnt t ≤ B
def gL (B : Nat) (l : List Tm) : Prop := okL l ∧ cntL l ≤ B
def gM (B : Nat) (x : Md) : Prop := gL B x.ctx ∧ gT B x.t
def gC (B : Nat) (x : Cl) : Prop := (-9223372036854775808 ≤ x.f ∧ x.f ≤ 9223372036854775807) ∧ gL B x.ext ∧ gL B x.th ∧ gT B x.arg
def gK (B : Nat) (x : Cs) : Prop := ((∀ m ∈ x.ms, gM B m) ∧ x.ms.length ≤ B) ∧ gL B x.th ∧ gT B x.p ∧ ((∀ m ∈ x.cs, gC B m) ∧ x.cs.length ≤ B) ∧ gT B x.r
def gF (B : Nat) (x : Fu) : Prop := gL B x.sch ∧ ((∀ m ∈ x.del, gM B m) ∧ x.del.length ≤ B) ∧ gL B x.psi ∧ gT B x.a ∧ gL B x.phi ∧ gT B x.b ∧ ((∀ m ∈ x.cl, gK B m) ∧ x.cl.length ≤ B)

theorem rd_terms {q : Nat} {v : Value} {x : DataW H × List MemPlace} (h : DataW.trod enc Tryz.prog w base spare held q 23 [v] = some x) (hw : Fits 23 x.1) {N : Nat} (hn : Rows.uptoBulk x.1 ≤ N) :
    ∃ (ts : List Tm) (B : Option Addr) (d : Nat), v = .slice B ts.length d ∧ ts.length ≤ d ∧ Reads (fun _ => False) w B ts ∧ gL N ts := by
  obtain ⟨B, l, d', rfl⟩ := slice_of Tryz.underlying23 h
  obtain ⟨us, hul, hld, hru, hcu, hku⟩ := terms_trod q B l d' x h hw
  subst hul
  exact ⟨us, B, d', rfl, hld, hru, hku, by omega⟩
theorem rd_term {q : Nat} {cs : List Value} {x : DataW H × List MemPlace} (h : DataW.trod enc Tryz.prog w base spare held q 25 cs = some x) (hw : Fits 25 x.1) {N : Nat} (hn : Rows.uptoBulk x.1 ≤ N) :
    ∃ (t : Tm) (B : Option Addr) (d : Nat), cs = [.int .i64 t.k, .int .i64 t.h, .slice B t.a.length d] ∧ t.a.length ≤ d ∧ Reads (fun _ => False) w B t.a ∧ gT N t := by
  obtain ⟨t, B, d, h1, h2, h3, h4, h5⟩ := term_trod h hw
  exact ⟨t, B, d, h1, h2, h3, h5, by omega⟩


theorem rd_meta {q : Nat} {cs : List Value} {x : DataW H × List MemPlace} (h : DataW.trod enc Tryz.prog w base spare held q 61 cs = some x) (hw : Fits 61 x.1) {N : Nat} (hn : Rows.uptoBulk x.1 ≤ N) : ∃ y, eM (fun _ => False) w cs y ∧ gM N y := by
  obtain ⟨ys, q, hq, hx, hcl, hly, hf⟩ := DataW.trod_struct Tryz.underlying61 h
  rw [show Tryz.prog.cellsOf 61 = 5 from by kernel_rfl] at hcl
  rw [(Prod.mk.inj hx).1] at hw hn
  match cs, hcl, ys, hly with
  | [v0, v1, v2, v3, v4], _, [y0, y1, y2], _ =>
    simp only [List.map_cons, List.map_nil, Rows.uptoBulk, Rows.uptoBulkAll] at hn
    have t0 := hf 0 _ rfl
    have t1 := hf 1 _ rfl
    have t2 := hf 2 _ rfl
    have z0 : Tryz.prog.cellsOf 23 = 1 := by kernel_rfl
    have z1 : Tryz.prog.cellsOf 25 = 3 := by kernel_rfl
    have z2 : Tryz.prog.cellsOf 4 = 1 := by kernel_rfl
    simp [z0] at t0
    simp [z1] at t1
    simp [z2] at t2
    obtain ⟨c, A, a, rfl, ha, hra, ga⟩ := rd_terms t0 (fits_struct Tryz.underlying61 hw (j := 0) rfl rfl) (N := N) (by omega)
    obtain ⟨t, B, b, e, hb, hrb, gb⟩ := rd_term t1 (fits_struct Tryz.underlying61 hw (j := 1) rfl rfl) (N := N) (by omega)
    obtain ⟨p, e2, _⟩ := DataW.trod_bool (by kernel_rfl) t2
    simp at e e2
    obtain ⟨rfl, rfl, rfl⟩ := e
    subst e2
    exact ⟨⟨c, t, p⟩, ⟨A, a, B, b, rfl, ha, hra, hb, hrb⟩, ga, gb⟩

/-- Rows of these. -/
theorem rd_row {α : Type} {E : (Nat → Prop) → World → List Value → α → Prop} {sz bys : Nat} {T e : TypeId} (hT : Tryz.prog.underlying T = some (.slice e)) (hc : Tryz.prog.cellsOf e = sz) (hb : Tryz.prog.bytesOf e = bys) (hz : 0 < sz) (hby : 40 ≤ bys) {N : Nat}
    (G : α → Prop) (rd : ∀ q cs (x : DataW H × List MemPlace), DataW.trod enc Tryz.prog w base spare held q e cs = some x → Fits e x.1 → Rows.uptoBulk x.1 ≤ N → ∃ y, E (fun _ => False) w cs y ∧ G y)
    {q : Nat} {v : Value} {x : DataW H × List MemPlace} (h : DataW.trod enc Tryz.prog w base spare held q T [v] = some x) (hw : Fits T x.1) (hn : Rows.uptoBulk x.1 ≤ N) :
    ∃ (ys : List α) (A : Option Addr) (c : Nat), v = .slice A ys.length c ∧ ys.length ≤ c ∧ Row E sz (fun _ => False) w A ys ∧ (∀ y ∈ ys, G y) ∧ ys.length ≤ N := by
  obtain ⟨A, l, c, rfl⟩ := slice_of hT h
  obtain ⟨ys, h1, h2, h3, h4, h5⟩ := row_trod hT hc hb hz hby G rd h hw hn
  subst h1
  exact ⟨ys, A, c, rfl, h2, h3, h4, h5⟩


theorem rd_call {q : Nat} {cs : List Value} {x : DataW H × List MemPlace} (h : DataW.trod enc Tryz.prog w base spare held q 63 cs = some x) (hw : Fits 63 x.1) {N : Nat} (hn : Rows.uptoBulk x.1 ≤ N) : ∃ y, eC (fun _ => False) w cs y ∧ gC N y := by
  obtain ⟨ys, q, hq, hx, hcl, hly, hf⟩ := DataW.trod_struct Tryz.underlying63 h
  rw [show Tryz.prog.cellsOf 63 = 6 from by kernel_rfl] at hcl
  rw [(Prod.mk.inj hx).1] at hw hn
  match cs, hcl, ys, hly with
  | [v0, v1, v2, v3, v4, v5], _, [y0, y1, y2, y3], _ =>
    simp only [List.map_cons, List.map_nil, Rows.uptoBulk, Rows.uptoBulkAll] at hn
    have t0 := hf 0 _ rfl
    have t1 := hf 1 _ rfl
    have t2 := hf 2 _ rfl
    have t3 := hf 3 _ rfl
    have zi : Tryz.prog.cellsOf 3 = 1 := by kernel_rfl
    have z0 : Tryz.prog.cellsOf 23 = 1 := by kernel_rfl
    have z1 : Tryz.prog.cellsOf 25 = 3 := by kernel_rfl
    simp [zi] at t0
    simp [z0] at t1 t2
    simp [z1] at t3
    obtain ⟨f, e0, _, k0⟩ := DataW.trod_int (k := .i64) (by kernel_rfl) t0
    obtain ⟨l1, A, a, rfl, ha, hra, ga⟩ := rd_terms t1 (fits_struct Tryz.underlying63 hw (j := 1) rfl rfl) (N := N) (by omega)
    obtain ⟨l2, B, b, rfl, hb, hrb, gb⟩ := rd_terms t2 (fits_struct Tryz.underlying63 hw (j := 2) rfl rfl) (N := N) (by omega)
    obtain ⟨t, C, c, e, hc, hrc, gc⟩ := rd_term t3 (fits_struct Tryz.underlying63 hw (j := 3) rfl rfl) (N := N) (by omega)
    simp at e e0
    obtain ⟨rfl, rfl, rfl⟩ := e
    subst e0
    simp [Lit.wf] at k0
    rw [show IntKind.i64.min = -9223372036854775808 from rfl] at k0
    exact ⟨⟨f, l1, l2, t⟩, ⟨A, a, B, b, C, c, rfl, ha, hra, hb, hrb, hc, hrc⟩, k0, ga, gb, gc⟩


theorem rd_metas {q : Nat} {v : Value} {x : DataW H × List MemPlace} (h : DataW.trod enc Tryz.prog w base spare held q 36 [v] = some x) (hw : Fits 36 x.1) {N : Nat} (hn : Rows.uptoBulk x.1 ≤ N) :
    ∃ (ys : List Md) (A : Option Addr) (c : Nat), v = .slice A ys.length c ∧ ys.length ≤ c ∧ Row eM 5 (fun _ => False) w A ys ∧ (∀ y ∈ ys, gM N y) ∧ ys.length ≤ N :=
  rd_row Tryz.underlying36 (by kernel_rfl) (bys := 72) (by kernel_rfl) (by decide) (by decide) (gM N) (fun _ _ _ h hw hn => rd_meta h hw hn) h hw hn

theorem rd_calls {q : Nat} {v : Value} {x : DataW H × List MemPlace} (h : DataW.trod enc Tryz.prog w base spare held q 40 [v] = some x) (hw : Fits 40 x.1) {N : Nat} (hn : Rows.uptoBulk x.1 ≤ N) :
    ∃ (ys : List Cl) (A : Option Addr) (c : Nat), v = .slice A ys.length c ∧ ys.length ≤ c ∧ Row eC 6 (fun _ => False) w A ys ∧ (∀ y ∈ ys, gC N y) ∧ ys.length ≤ N :=
  rd_row Tryz.underlying40 (by kernel_rfl) (bys := 96) (by kernel_rfl) (by decide) (by decide) (gC N) (fun _ _ _ h hw hn => rd_call h hw hn) h hw hn


theorem rd_clause {q : Nat} {cs : List Value} {x : DataW H × List MemPlace} (h : DataW.trod enc Tryz.prog w base spare held q 42 cs = some x) (hw : Fits 42 x.1) {N : Nat} (hn : Rows.uptoBulk x.1 ≤ N) : ∃ y, eK (fun _ => False) w cs y ∧ gK N y := by
  obtain ⟨ys, q, hq, hx, hcl, hly, hf⟩ := DataW.trod_struct Tryz.underlying42 h
  rw [show Tryz.prog.cellsOf 42 = 9 from by kernel_rfl] at hcl
  rw [(Prod.mk.inj hx).1] at hw hn
  match cs, hcl, ys, hly with
  | [v0, v1, v2, v3, v4, v5, v6, v7, v8], _, [y0, y1, y2, y3, y4], _ =>
    simp only [List.map_cons, List.map_nil, Rows.uptoBulk, Rows.uptoBulkAll] at hn
    have t0 := hf 0 _ rfl
    have t1 := hf 1 _ rfl
    have t2 := hf 2 _ rfl
    have t3 := hf 3 _ rfl
    have t4 := hf 4 _ rfl
    have zm : Tryz.prog.cellsOf 36 = 1 := by kernel_rfl
    have zc : Tryz.prog.cellsOf 40 = 1 := by kernel_rfl
    have z0 : Tryz.prog.cellsOf 23 = 1 := by kernel_rfl
    have z1 : Tryz.prog.cellsOf 25 = 3 := by kernel_rfl
    simp [zm] at t0
    simp [z0] at t1
    simp [z1] at t2 t4
    simp [zc] at t3
    obtain ⟨l0, A, a, rfl, ha, hra, ga, na⟩ := rd_metas t0 (fits_struct Tryz.underlying42 hw (j := 0) rfl rfl) (N := N) (by omega)
    obtain ⟨l1, B, b, rfl, hb, hrb, gb⟩ := rd_terms t1 (fits_struct Tryz.underlying42 hw (j := 1) rfl rfl) (N := N) (by omega)
    obtain ⟨t, C, c, e, hc, hrc, gc⟩ := rd_term t2 (fits_struct Tryz.underlying42 hw (j := 2) rfl rfl) (N := N) (by omega)
    obtain ⟨l3, D, d, rfl, hd, hrd, gd, nd⟩ := rd_calls t3 (fits_struct Tryz.underlying42 hw (j := 3) rfl rfl) (N := N) (by omega)
    obtain ⟨u, E, e', ee, he, hre, ge⟩ := rd_term t4 (fits_struct Tryz.underlying42 hw (j := 4) rfl rfl) (N := N) (by omega)
    simp at e ee
    obtain ⟨rfl, rfl, rfl⟩ := e
    obtain ⟨rfl, rfl, rfl⟩ := ee
    exact ⟨⟨l0, l1, t, l3, u⟩, ⟨A, a, B, b, C, c, D, d, E, e', rfl, ⟨ha, hra⟩, ⟨hb, hrb⟩, ⟨hc, hrc⟩, ⟨hd, hrd⟩, ⟨he, hre⟩⟩, ⟨ga, na⟩, gb, gc, ⟨gd, nd⟩, ge⟩

theorem rd_clauses {q : Nat} {v : Value} {x : DataW H × List MemPlace} (h : DataW.trod enc Tryz.prog w base spare held q 37 [v] = some x) (hw : Fits 37 x.1) {N : Nat} (hn : Rows.uptoBulk x.1 ≤ N) :
    ∃ (ys : List Cs) (A : Option Addr) (c : Nat), v = .slice A ys.length c ∧ ys.length ≤ c ∧ Row eK 9 (fun _ => False) w A ys ∧ (∀ y ∈ ys, gK N y) ∧ ys.length ≤ N :=
  rd_row Tryz.underlying37 (by kernel_rfl) (bys := 152) (by kernel_rfl) (by decide) (by decide) (gK N) (fun _ _ _ h hw hn => rd_clause h hw hn) h hw hn


theorem rd_fun {q : Nat} {cs : List Value} {x : DataW H × List MemPlace} (h : DataW.trod enc Tryz.prog w base spare held q 39 cs = some x) (hw : Fits 39 x.1) {N : Nat} (hn : Rows.uptoBulk x.1 ≤ N) : ∃ y, eF (fun _ => False) w cs y ∧ gF N y := by
  obtain ⟨ys, q, hq, hx, hcl, hly, hf⟩ := DataW.trod_struct Tryz.underlying39 h
  rw [show Tryz.prog.cellsOf 39 = 13 from by kernel_rfl] at hcl
  rw [(Prod.mk.inj hx).1] at hw hn
  match cs, hcl, ys, hly with
  | [v0, v1, v2, v3, v4, v5, v6, v7, v8, v9, v10, v11, v12], _, [y0, y1, y2, y3, y4, y5, y6, y7, y8], _ =>
    simp only [List.map_cons, List.map_nil, Rows.uptoBulk, Rows.uptoBulkAll] at hn
    have t0 := hf 0 _ rfl
    have t1 := hf 1 _ rfl
    have t2 := hf 2 _ rfl
    have t3 := hf 3 _ rfl
    have t4 := hf 4 _ rfl
    have t5 := hf 5 _ rfl
    have t6 := hf 6 _ rfl
    have t7 := hf 7 _ rfl
    have t8 := hf 8 _ rfl
    have zs : Tryz.prog.cellsOf 9 = 1 := by kernel_rfl
    have zb : Tryz.prog.cellsOf 4 = 1 := by kernel_rfl
    have zm : Tryz.prog.cellsOf 36 = 1 := by kernel_rfl
    have zc : Tryz.prog.cellsOf 37 = 1 := by kernel_rfl
    have z0 : Tryz.prog.cellsOf 23 = 1 := by kernel_rfl
    have z1 : Tryz.prog.cellsOf 25 = 3 := by kernel_rfl
    simp [zs] at t0
    simp [z0] at t1 t3 t5
    simp [zm] at t2
    simp [z1] at t4 t6
    simp [zb] at t7
    simp [zc] at t8
    obtain ⟨nm, e0, _, _⟩ := DataW.trod_string (by kernel_rfl) t0
    obtain ⟨l1, A, a, rfl, ha, hra, ga⟩ := rd_terms t1 (fits_struct Tryz.underlying39 hw (j := 1) rfl rfl) (N := N) (by omega)
    obtain ⟨l2, B, b, rfl, hb, hrb, gb, nb⟩ := rd_metas t2 (fits_struct Tryz.underlying39 hw (j := 2) rfl rfl) (N := N) (by omega)
    obtain ⟨l3, C, c, rfl, hc, hrc, gc⟩ := rd_terms t3 (fits_struct Tryz.underlying39 hw (j := 3) rfl rfl) (N := N) (by omega)
    obtain ⟨t, D, d, e4, hd, hrd, gd⟩ := rd_term t4 (fits_struct Tryz.underlying39 hw (j := 4) rfl rfl) (N := N) (by omega)
    obtain ⟨l5, E, e, rfl, he, hre, ge⟩ := rd_terms t5 (fits_struct Tryz.underlying39 hw (j := 5) rfl rfl) (N := N) (by omega)
    obtain ⟨u, F, f, e6, hf', hrf, gf⟩ := rd_term t6 (fits_struct Tryz.underlying39 hw (j := 6) rfl rfl) (N := N) (by omega)
    obtain ⟨p, e7, _⟩ := DataW.trod_bool (by kernel_rfl) t7
    obtain ⟨l8, G, g, rfl, hg, hrg, gg, ng⟩ := rd_clauses t8 (fits_struct Tryz.underlying39 hw (j := 8) rfl rfl) (N := N) (by omega)
    simp at e0 e4 e6 e7
    obtain ⟨rfl, rfl, rfl⟩ := e4
    obtain ⟨rfl, rfl, rfl⟩ := e6
    subst e0
    subst e7
    exact ⟨⟨nm, l1, l2, l3, t, l5, u, p, l8⟩, ⟨A, a, B, b, C, c, D, d, E, e, F, f, G, g, rfl, ⟨ha, hra⟩, ⟨hb, hrb⟩, ⟨hc, hrc⟩, ⟨hd, hrd⟩, ⟨he, hre⟩, ⟨hf', hrf⟩, ⟨hg, hrg⟩⟩, ga, ⟨gb, nb⟩, gc, gd, ge, gf, ⟨gg, ng⟩⟩

theorem rd_funs {q : Nat} {v : Value} {x : DataW H × List MemPlace} (h : DataW.trod enc Tryz.prog w base spare held q 22 [v] = some x) (hw : Fits 22 x.1) {N : Nat} (hn : Rows.uptoBulk x.1 ≤ N) :
    ∃ (ys : List Fu) (A : Option Addr) (c : Nat), v = .slice A ys.length c ∧ ys.length ≤ c ∧ Row eF 13 (fun _ => False) w A ys ∧ (∀ y ∈ ys, gF N y) ∧ ys.length ≤ N :=
  rd_row Tryz.underlying22 (by kernel_rfl) (bys := 224) (by kernel_rfl) (by decide) (by decide) (gF N) (fun _ _ _ h hw hn => rd_fun h hw hn) h hw hn

/-- A law's functions, clause, call. -/
theorem open_funs {r : Reach} {b0 : Nat} {v : Value} {d : DataW H} {ps : List MemPlace} (hval : Value.okWide Tryz.prog w r b0 22 v) (hd : DataW.Trod enc Tryz.prog w base spare held 22 v d ps) (hw : Fits 22 d) {N : Nat} (hn : Rows.uptoBulk d ≤ N) :
    ∃ (ys : List Fu) (A : Option Addr) (c : Nat), v = .slice A ys.length c ∧ ys.length ≤ c ∧ Row eF 13 (fun _ => False) w A ys ∧ (∀ y ∈ ys, gF N y) ∧ ys.length ≤ N := by
  obtain ⟨A, n, c, rfl⟩ := okWide_slice Tryz.underlying22 hval
  obtain ⟨fuel, hf⟩ := hd
  exact rd_funs (x := (d, ps)) hf hw hn
theorem open_clause {r : Reach} {b0 : Nat} {v : Value} {d : DataW H} {ps : List MemPlace} (hval : Value.okWide Tryz.prog w r b0 42 v) (hd : DataW.Trod enc Tryz.prog w base spare held 42 v d ps) (hw : Fits 42 d) {N : Nat} (hn : Rows.uptoBulk d ≤ N) :
    ∃ (y : Cs) (cs : List Value), v = .agg cs.toArray ∧ eK (fun _ => False) w cs y ∧ gK N y := by
  obtain ⟨cs, rfl, hcs⟩ := okWide_struct Tryz.underlying42 hval
  obtain ⟨fuel, hf⟩ := hd
  obtain ⟨y, h1, h2⟩ := rd_clause (x := (d, ps)) hf hw hn
  exact ⟨y, cs.toList, by simp, h1, h2⟩
theorem open_call {r : Reach} {b0 : Nat} {v : Value} {d : DataW H} {ps : List MemPlace} (hval : Value.okWide Tryz.prog w r b0 63 v) (hd : DataW.Trod enc Tryz.prog w base spare held 63 v d ps) (hw : Fits 63 d) {N : Nat} (hn : Rows.uptoBulk d ≤ N) :
    ∃ (y : Cl) (cs : List Value), v = .agg cs.toArray ∧ eC (fun _ => False) w cs y ∧ gC N y := by
  obtain ⟨cs, rfl, hcs⟩ := okWide_struct Tryz.underlying63 hval
  obtain ⟨fuel, hf⟩ := hd
  obtain ⟨y, h1, h2⟩ := rd_call (x := (d, ps)) hf hw hn
  exact ⟨y, cs.toList, by simp, h1, h2⟩
end
end Go.Proofs.YtbmmdfehhhgkcaaGreat
namespace Go.Proofs.YtbmmdfehhhgkcaaGreat
open Go.RowKit Go.Shelf Go.ChangeShapes Go.WideShapes
set_option linter.unusedVariables false
set_option linter.unusedSimpArgs false
set_option maxRecDepth 100000

section
variable {H : Type} {enc : TypeId × Value → H} {w : World} {base : Nat} {spare : Nat → Bool} {held : Bool}
theorem row_trod2 {α : Type} {E : (Nat → Prop) → World → List Value → α → Prop} {sz : Nat} {T e : TypeId} (hT : Tryz.prog.underlying T = some (.slice e)) (hc : Tryz.prog.cellsOf e = sz) (hz : 0 < sz)
    {N : Nat} (hN : N ≤ lim) (G : α → Prop) (rd : ∀ q cs (x : DataW H × List MemPlace), DataW.trod enc Tryz.prog w base spare held q e cs = some x → Fits e x.1 → Rows.uptoBulk x.1 ≤ N → ∃ y, E (fun _ => False) w cs y ∧ G y)
    {fuel : Nat} {A : Option Addr} {n c : Nat} {x : DataW H × List MemPlace} (h : DataW.trod enc Tryz.prog w base spare held fuel T [.slice A n c] = some x) (hw : Fits T x.1) (hn : Rows.uptoBulk x.1 ≤ N) :
    ∃ ys : List α, ys.length = n ∧ n ≤ c ∧ Row E sz (fun _ => False) w A ys ∧ (∀ y ∈ ys, G y) ∧ n ≤ N := by
  rcases DataW.trod_slice hT h with ⟨h0, hx0⟩ | ⟨a, len, cap, elems, rest, m, rfl, h0, rfl, hb0, hl, hm, hlen, hel, _, _⟩
  · simp at h0
    obtain ⟨rfl, rfl, rfl⟩ := h0
    exact ⟨[], rfl, Nat.le_refl _, .nil _, (fun y hy => by cases hy), Nat.zero_le _⟩
  · simp at h0
    obtain ⟨rfl, rfl, rfl⟩ := h0
    have hbl := bulk_len (elems.map (·.1))
    rw [List.length_map, hlen] at hbl
    rcases Nat.eq_zero_or_pos n with rfl | hpos
    · exact ⟨[], rfl, hl, .nil _, (fun y hy => by cases hy), Nat.zero_le _⟩
    have hlim : n ≤ lim := by
      simp only [Rows.uptoBulk] at hn
      omega
    rw [hc] at hel
    have each : ∀ i, i < n → ∃ y : α × List Value, y.2.length = sz ∧ (∀ j u, y.2[j]? = some u → w.cell? ((a.add (i * sz)).add j) = some u) ∧ E (fun _ => False) w y.2 y.1 ∧ G y.1 := by
      intro i hi
      have hi' : i < elems.length := by omega
      have he := hel i hi
      rw [List.getElem?_eq_getElem hi', Option.bind_eq_some_iff] at he
      obtain ⟨cs, hcs, ht⟩ := he
      obtain ⟨_, hcl, hcc⟩ := World.cells?_some hcs
      have hmem : elems[i].1 ∈ elems.map (·.1) := List.mem_map_of_mem (List.getElem_mem _)
      have hbm := bulk_mem hmem
      simp only [Rows.uptoBulk] at hn
      obtain ⟨y, hy, hg⟩ := rd m cs elems[i] ht (fits_elem hT hw hmem) (by omega)
      refine ⟨(y, cs), hcl, fun j u hu => ?_, hy, hg⟩
      have hj : j < sz := by rw [← hcl]; exact (List.getElem?_eq_some_iff.1 hu).1
      rw [hcc j hj, ← hu]
    obtain ⟨ys, hyl, hys⟩ := build n each
    have hsp : a.spot = none := by
      obtain ⟨h1, h2, _⟩ := hys 0 (by omega)
      have h3 := h2 0 _ (List.getElem?_eq_getElem (by omega))
      rw [Nat.zero_mul, show (a.add 0).add 0 = a from rfl] at h3
      unfold World.cell? at h3
      cases hs : a.spot with
      | none => rfl
      | some p => rw [hs] at h3; split at h3 <;> simp at h3
    refine ⟨ys.map (·.1), by simp [hyl], hl, ⟨by simp [hyl]; exact hlim, fun i hi => ?_⟩, fun y hy => ?_, by simp only [Rows.uptoBulk] at hn; omega⟩
    · simp at hi
      obtain ⟨h1, h2, h3, _⟩ := hys i hi
      obtain ⟨b, o, sp⟩ := a
      dsimp only at hsp
      subst hsp
      refine ⟨⟨b, o, none⟩, ys[i].2, rfl, rfl, fun q => q, h1, fun j u hu => ?_, by rw [List.getElem_map]; exact h3⟩
      have := h2 j u hu
      rw [add_plain, add_plain, Nat.add_assoc] at this
      exact this
    · obtain ⟨i, hi, rfl⟩ := List.getElem_of_mem hy
      simp at hi
      obtain ⟨_, _, _, hg⟩ := hys i hi
      rw [List.getElem_map]
      exact hg

def eO (S : Nat → Prop) (w : World) (cs : List Value) (x : Bool) : Prop := cs = [.bool x]
theorem Row.toO {S : Nat → Prop} {w : World} {A : Option Addr} {bs : List Bool} (h : Row eO 1 S w A bs) : RowBo w A bs :=
  ⟨h.1, fun i hi => by
    obtain ⟨⟨b, o, sp⟩, cs, h1, h2, h3, h4, h5, h6⟩ := h.2 i hi
    dsimp only at h2
    subst h2
    rw [show cs = [.bool bs[i]] from h6] at h5
    refine ⟨⟨b, o, none⟩, h1, ?_⟩
    have := h5 0 _ rfl
    rw [Nat.mul_one, Nat.add_zero] at this
    rw [add_plain]
    exact this⟩

/-- A law's row of truth values. -/
theorem open_bools {r : Reach} {b0 : Nat} {v : Value} {d : DataW H} {ps : List MemPlace} (hval : Value.okWide Tryz.prog w r b0 46 v) (hd : DataW.Trod enc Tryz.prog w base spare held 46 v d ps) (hw : Fits 46 d) {N : Nat} (hn : Rows.uptoBulk d ≤ N) (hN : N ≤ lim := by unfold lim; omega) :
    ∃ (ys : List Bool) (A : Option Addr) (c : Nat), v = .slice A ys.length c ∧ ys.length ≤ c ∧ RowBo w A ys ∧ True ∧ ys.length ≤ N := by
  obtain ⟨A, n, c, rfl⟩ := okWide_slice Tryz.underlying46 hval
  obtain ⟨fuel, hf⟩ := hd
  obtain ⟨ys, h1, h2, h3, h4, h5⟩ := row_trod2 (E := eO) (sz := 1) Tryz.underlying46 (by kernel_rfl) (by decide) hN (fun _ => True) (fun q cs x h hw hn => by
    obtain ⟨p, e2, _⟩ := DataW.trod_bool (by kernel_rfl) h
    exact ⟨p, e2, trivial⟩) (x := (d, ps)) hf hw hn
  subst h1
  exact ⟨ys, A, c, rfl, h2, h3.toO, trivial, h5⟩


theorem rd_bind {q : Nat} {cs : List Value} {x : DataW H × List MemPlace} (h : DataW.trod enc Tryz.prog w base spare held q 78 cs = some x) (hw : Fits 78 x.1) {N : Nat} (hn : Rows.uptoBulk x.1 ≤ N) : ∃ y, eB (fun _ => False) w cs y ∧ gT N y.t := by
  obtain ⟨ys, q, hq, hx, hcl, hly, hf⟩ := DataW.trod_struct Tryz.underlying78 h
  rw [show Tryz.prog.cellsOf 78 = 4 from by kernel_rfl] at hcl
  rw [(Prod.mk.inj hx).1] at hw hn
  match cs, hcl, ys, hly with
  | [v0, v1, v2, v3], _, [y0, y1], _ =>
    simp only [List.map_cons, List.map_nil, Rows.uptoBulk, Rows.uptoBulkAll] at hn
    have t0 := hf 0 _ rfl
    have t1 := hf 1 _ rfl
    have z1 : Tryz.prog.cellsOf 25 = 3 := by kernel_rfl
    have z2 : Tryz.prog.cellsOf 4 = 1 := by kernel_rfl
    simp [z2] at t0
    simp [z1, z2] at t1
    obtain ⟨p, e2, _⟩ := DataW.trod_bool (by kernel_rfl) t0
    obtain ⟨t, B, b, e, hb, hrb, gb⟩ := rd_term t1 (fits_struct Tryz.underlying78 hw (j := 1) rfl rfl) (N := N) (by omega)
    simp at e e2
    obtain ⟨rfl, rfl, rfl⟩ := e
    subst e2
    exact ⟨⟨p, t⟩, ⟨B, b, rfl, hb, hrb⟩, gb⟩

/-- A law's row of binds. -/
theorem open_binds {r : Reach} {b0 : Nat} {v : Value} {d : DataW H} {ps : List MemPlace} (hval : Value.okWide Tryz.prog w r b0 43 v) (hd : DataW.Trod enc Tryz.prog w base spare held 43 v d ps) (hw : Fits 43 d) {N : Nat} (hn : Rows.uptoBulk d ≤ N) :
    ∃ (ys : List Bd) (A : Option Addr) (c : Nat), v = .slice A ys.length c ∧ ys.length ≤ c ∧ Row eB 4 (fun _ => False) w A ys ∧ (∀ y ∈ ys, gT N y.t) ∧ ys.length ≤ N := by
  obtain ⟨A, n, c, rfl⟩ := okWide_slice Tryz.underlying43 hval
  obtain ⟨fuel, hf⟩ := hd
  exact rd_row Tryz.underlying43 (by kernel_rfl) (bys := 48) (by kernel_rfl) (by decide) (by decide) (fun (y : Bd) => gT N y.t) (E := eB) (sz := 4) (fun _ _ _ h hw hn => rd_bind h hw hn) (x := (d, ps)) hf hw hn
end
end Go.Proofs.YtbmmdfehhhgkcaaGreat
