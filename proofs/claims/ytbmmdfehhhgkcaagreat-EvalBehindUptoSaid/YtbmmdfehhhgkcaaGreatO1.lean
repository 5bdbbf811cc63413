/- Plain laws of layer 5: rising lists, what is added to them, patterns. No program stands here. The contracts of occur.Pattern, amanuensisref05.Pattern and amanuensisref05.Ints. -/
import Derived.Test.YtbmmdfehhhgkcaaGreatLib
import Derived.Test.YtbmmdfehhhgkcaaGreatBI
namespace Go.Proofs.YtbmmdfehhhgkcaaGreat
set_option linter.unusedVariables false
set_option linter.unusedSimpArgs false

abbrev Rise (l : List Int) : Prop := l.Pairwise (· < ·)

theorem rise_unique : ∀ {l m : List Int}, Rise l → Rise m → (∀ x, x ∈ l ↔ x ∈ m) → l = m
  | [], [], _, _, _ => rfl
  | [], y :: m, _, _, h => by have := (h y).2 (by simp); simp at this
  | x :: l, [], _, _, h => by have := (h x).1 (by simp); simp at this
  | x :: l, y :: m, hl, hm, h => by
    have hl' := List.pairwise_cons.1 hl
    have hm' := List.pairwise_cons.1 hm
    have hxy : x = y := by
      have h1 := (h x).1 (by simp)
      have h2 := (h y).2 (by simp)
      rcases List.mem_cons.1 h1 with e | e
      · exact e
      · rcases List.mem_cons.1 h2 with e2 | e2
        · exact e2.symm
        · have := hl'.1 y e2
          have := hm'.1 x e
          omega
    subst hxy
    have hrest : l = m := rise_unique hl'.2 hm'.2 fun z => by
      constructor
      · intro hz
        rcases List.mem_cons.1 ((h z).1 (List.mem_cons_of_mem _ hz)) with e | e
        · subst e
          have := hl'.1 z hz
          omega
        · exact e
      · intro hz
        rcases List.mem_cons.1 ((h z).2 (List.mem_cons_of_mem _ hz)) with e | e
        · subst e
          have := hm'.1 z hz
          omega
        · exact e
    rw [hrest]

/-- A number put into its place: the loop of the document's add. -/
def addGo (n : Int) : Bool → List Int → List Int → List Int
  | d, o, [] => if d then o else o ++ [n]
  | d, o, x :: l => addGo n (d || decide (n ≤ x)) (if x = n then (if !d && decide (n ≤ x) then o ++ [n] else o) else (if !d && decide (n ≤ x) then o ++ [n] else o) ++ [x]) l
def addL (l : List Int) (n : Int) : List Int := addGo n false [] l

theorem addGo_done (n : Int) : ∀ (l o : List Int), addGo n true o l = o ++ l.filter (fun x => decide (x ≠ n))
  | [], o => by simp [addGo]
  | x :: l, o => by
    rw [addGo]
    by_cases h : x = n
    · simp [h, addGo_done n l]
    · simp [h, addGo_done n l]

theorem addGo_mem (n : Int) : ∀ (l o : List Int), Rise l → Rise o → (∀ x ∈ o, x < n ∧ ∀ y ∈ l, x < y) →
    Rise (addGo n false o l) ∧ ∀ z, z ∈ addGo n false o l ↔ z ∈ o ∨ z = n ∨ z ∈ l
  | [], o, _, ho, hlt => by
    constructor
    · simp only [addGo]
      exact List.pairwise_append.2 ⟨ho, List.pairwise_singleton _ _, fun x hx y hy => by rw [List.mem_singleton.1 hy]; exact (hlt x hx).1⟩
    · intro z
      simp [addGo]
  | x :: l, o, hl, ho, hlt => by
    have hl' := List.pairwise_cons.1 hl
    rw [addGo]
    by_cases hn : n ≤ x
    · have hall : ∀ y ∈ l, n < y := fun y hy => by have := hl'.1 y hy; omega
      have hfil : l.filter (fun x => decide (x ≠ n)) = l := List.filter_eq_self.2 fun y hy => by have := hall y hy; simp; omega
      simp only [Bool.false_or, Bool.not_false, Bool.true_and, hn, decide_true, if_true]
      rw [addGo_done, hfil]
      by_cases hx : x = n
      · subst hx
        rw [if_pos rfl]
        constructor
        · refine List.pairwise_append.2 ⟨List.pairwise_append.2 ⟨ho, List.pairwise_singleton _ _, fun y hy z hz => by rw [List.mem_singleton.1 hz]; exact (hlt y hy).1⟩, hl'.2, fun y hy z hz => ?_⟩
          rcases List.mem_append.1 hy with hy | hy
          · exact (hlt y hy).2 z (List.mem_cons_of_mem _ hz)
          · rw [List.mem_singleton.1 hy]; exact hall z hz
        · intro z
          simp [or_assoc]
      · rw [if_neg hx]
        constructor
        · refine List.pairwise_append.2 ⟨List.pairwise_append.2 ⟨List.pairwise_append.2 ⟨ho, List.pairwise_singleton _ _, fun y hy z hz => by rw [List.mem_singleton.1 hz]; exact (hlt y hy).1⟩, List.pairwise_singleton _ _, fun y hy z hz => ?_⟩, hl'.2, fun y hy z hz => ?_⟩
          · rw [List.mem_singleton.1 hz]
            rcases List.mem_append.1 hy with hy | hy
            · exact (hlt y hy).2 x (by simp)
            · rw [List.mem_singleton.1 hy]; omega
          · rcases List.mem_append.1 hy with hy | hy
            · rcases List.mem_append.1 hy with hy | hy
              · exact (hlt y hy).2 z (List.mem_cons_of_mem _ hz)
              · rw [List.mem_singleton.1 hy]; exact hall z hz
            · rw [List.mem_singleton.1 hy]; exact hl'.1 z hz
        · intro z
          simp [or_assoc]
    · have hx : x ≠ n := by omega
      simp only [Bool.false_or, Bool.not_false, Bool.true_and, hn, decide_false, hx, if_false, Bool.false_eq_true]
      have ih := addGo_mem n l (o ++ [x]) hl'.2 (List.pairwise_append.2 ⟨ho, List.pairwise_singleton _ _, fun y hy z hz => by rw [List.mem_singleton.1 hz]; exact (hlt y hy).2 x (by simp)⟩) (by
        intro y hy
        rcases List.mem_append.1 hy with hy | hy
        · exact ⟨(hlt y hy).1, fun z hz => (hlt y hy).2 z (List.mem_cons_of_mem _ hz)⟩
        · rw [List.mem_singleton.1 hy]
          exact ⟨by omega, fun z hz => hl'.1 z hz⟩)
      refine ⟨ih.1, fun z => (ih.2 z).trans ?_⟩
      simp only [List.mem_append, List.mem_cons, List.not_mem_nil, or_false]
      constructor
      · rintro ((h | h) | h | h)
        · exact .inl h
        · exact .inr (.inr (.inl h))
        · exact .inr (.inl h)
        · exact .inr (.inr (.inr h))
      · rintro (h | h | h | h)
        · exact .inl (.inl h)
        · exact .inr (.inl h)
        · exact .inl (.inr h)
        · exact .inr (.inr h)
theorem addL_rise {l : List Int} (h : Rise l) (n : Int) : Rise (addL l n) := (addGo_mem n l [] h List.Pairwise.nil (fun x hx => by cases hx)).1
theorem addL_mem {l : List Int} (h : Rise l) (n z : Int) : z ∈ addL l n ↔ z = n ∨ z ∈ l := ((addGo_mem n l [] h List.Pairwise.nil (fun x hx => by cases hx)).2 z).trans (by simp)
theorem addGo_len (n : Int) : ∀ (l o : List Int) (d : Bool), (addGo n d o l).length ≤ o.length + l.length + (if d then 0 else 1)
  | [], o, d => by cases d <;> simp [addGo]
  | x :: l, o, d => by
    rw [addGo]
    refine Nat.le_trans (addGo_len n l _ _) ?_
    by_cases hx : x = n
    · cases d <;> by_cases hn : n ≤ x <;> simp [hx, hn] <;> omega
    · cases d <;> by_cases hn : n ≤ x <;> simp [hx, hn] <;> omega

/-- The variables that terms are, each another one, below a number. -/
def patGo (below : Int) : List Int → List Tm → Option (List Int)
  | vs, [] => some vs
  | vs, t :: l => if t.k = 4 ∧ t.a.length = 0 ∧ 0 ≤ t.h ∧ t.h < below ∧ t.h ∉ vs then patGo below (vs ++ [t.h]) l else none
def patV (l : List Tm) (below : Int) : Option (List Int) := patGo below [] l
end Go.Proofs.YtbmmdfehhhgkcaaGreat
namespace Go.Proofs.YtbmmdfehhhgkcaaGreat
open Go.RowKit Go.Shelf

/-- What comes back: numbers and true, or nil and false. -/
def RetI (r : Option (List Int)) (w : World) (e : Ending) (w' : World) : Prop :=
  Below w.heap.size w w' ∧ ((r = none ∧ e = .returned (.tuple #[.slice none 0 0, .bool false])) ∨
    ∃ vs B c, r = some vs ∧ e = .returned (.tuple #[.slice B vs.length c, .bool true]) ∧ vs.length ≤ c ∧ RdI (fun _ => False) w' B vs)

structure PatRel (w : World) (ts : List Tm) (hi : Int) (i : Nat) (v : Value) (wr : World) : Prop where
  le : i ≤ ts.length
  below : Below w.heap.size w wr
  out : ∃ vs, MineI w.heap.size wr v vs ∧ vs.length = i ∧ patV ts hi = patGo hi vs (ts.drop i)

theorem lim_limI {n : Nat} (h : n ≤ lim) : n ≤ limI := by unfold lim at h; unfold limI; omega

theorem patGo_at {below : Int} {vs : List Int} {ts : List Tm} {i : Nat} (hlt : i < ts.length) :
    patGo below vs (ts.drop i) = if ts[i].k = 4 ∧ ts[i].a.length = 0 ∧ 0 ≤ ts[i].h ∧ ts[i].h < below ∧ ts[i].h ∉ vs then patGo below (vs ++ [ts[i].h]) (ts.drop (i + 1)) else none := by
  rw [List.drop_eq_getElem_cons hlt, patGo]

set_option maxHeartbeats 4000000 in
theorem Pattern_calls (ts : List Tm) (A : Option Addr) (c : Nat) (below : Int) (w : World) (hr : Reads (fun _ => False) w A ts) :
    Calls Tryz.prog 79 #[.slice A ts.length c, .int .i64 below] w (RetI (patV ts below) w) := by
  have hlen := hr.len
  have hli := lim_limI hlen
  unfold lim at hlen
  go_enter Tryz.func79, Tryz.ntmps79
  go_wp2_with fail
  have hrel0 : PatRel w ts below 0 (.slice none 0 0) w := ⟨Nat.zero_le _, Below.refl _ _, [], MineI.nil _ _, rfl, rfl⟩
  have hrel1 := Lib.hid hrel0
  clear hrel0
  go_loopw [6, 11] (fun v j wr => ∃ i : Nat, j = .int .i64 i ∧ PatRel w ts below i v wr) (fun _ j _ => ts.length - (intOf j).toNat)
  case atStart => exact ⟨0, rfl, hrel1.out⟩
  case round =>
    clear hrel1
    obtain ⟨i, rfl, hrel⟩ := hrel
    obtain ⟨vs, hmine, hvs, hfl⟩ := hrel.out
    have hbw := hrel.below
    by_cases hlt : i < ts.length
    · have hml := hmine.lt
      have hmg := hmine.ge
      have hlim : vs.length ≤ limI := by rw [hvs]; omega
      obtain ⟨ad, B, d, rfl, -, c0, c1, c2, hd, hsub⟩ := (hr.mov hbw).at hlt
      obtain ⟨A2, d2, rfl, hd2, hr2⟩ := hmine.reads hlim
      have hal := hsub.len
      unfold lim at hal
      rw [patGo_at hlt] at hfl
      have HFL := Lib.hid hfl
      have HVS := Lib.hid hvs
      have HC := Lib.hid (fun (W : World) (hb : Below wr.heap.size wr W) => Contains_calls vs A2 d2 ts[i].h W (hr2.mov hb))
      have hdec : ∃ b, decide (ts[i].h ∈ vs) = b := ⟨_, rfl⟩
      obtain ⟨mb, hmb⟩ := hdec
      rw [hmb] at HC
      clear hfl hvs hrel
      cases h1 : (ts[i].k != 4)
      · cases h2 : decide (0 < ts[i].a.length)
        · cases h3 : decide (ts[i].h < 0)
          · cases h4 : decide (below ≤ ts[i].h)
            · cases mb
              · skip
                go_wp2_with (first
                  | (go_at_call 97; refine (HC.out _ (bl_alloc (Below.refl _ _) _)).mono ?_; clear HC; rintro e w3 ⟨rfl, hb3⟩; (with_reducible have z := (Blk.new _ _ _).mov hb3); have z1 := z.cell 1; clear z)
                  | (at_builtin; refine append_int rfl _ _ rfl w.heap.size (.slice A2 vs.length d2) vs ts[i].h rfl rfl (by simp) ((hmine.mov (bl_alloc (Below.refl _ _) _)).mov hb3) ?bb ?ll ?_
                     case bb => exact Nat.le_trans hbw.size (Nat.le_trans (bl_alloc (Below.refl _ _) _).size hb3.size)
                     case ll => (rw [HVS.out]; unfold limI; omega)
                     intro v1 w1 hm1 hg1 _))
                refine ⟨⟨i + 1, by go_num, hlt, bl_grown (bl_then (bl_alloc hbw _) hb3) hg1 (fun k e => hmg k e), vs ++ [ts[i].h], hm1, by rw [List.length_append, HVS.out]; rfl, ?_⟩, by simp [intOf]; omega⟩
                rw [HFL.out, if_pos ⟨by simpa using h1, by simpa using h2, by simpa using h3, by simpa using h4, of_decide_eq_false hmb⟩]
              · skip
                go_wp2_with (first
                  | (go_at_call 97; refine (HC.out _ (bl_alloc (Below.refl _ _) _)).mono ?_; clear HC; rintro e w3 ⟨rfl, hb3⟩))
                go_ret2
                refine ⟨by first | exact bl_then (bl_alloc hbw _) hb3 | exact bl_alloc hbw _, .inl ⟨?_, rfl⟩⟩
                rw [HFL.out, if_neg (fun q => ?_)]
                obtain ⟨x1, x2, x3, x4, x5⟩ := q
                first
                  | exact x5 (of_decide_eq_true hmb)
                  | (simp at h4; omega)
                  | (simp at h3; omega)
                  | (simp [x2] at h2; done)
                  | (simp [x1] at h1; done)
            · skip
              go_wp2_with (first
                | (go_at_call 97; refine (HC.out _ (bl_alloc (Below.refl _ _) _)).mono ?_; clear HC; rintro e w3 ⟨rfl, hb3⟩))
              go_ret2
              refine ⟨by first | exact bl_then (bl_alloc hbw _) hb3 | exact bl_alloc hbw _, .inl ⟨?_, rfl⟩⟩
              rw [HFL.out, if_neg (fun q => ?_)]
              obtain ⟨x1, x2, x3, x4, x5⟩ := q
              first
                | exact x5 (of_decide_eq_true hmb)
                | (simp at h4; omega)
                | (simp at h3; omega)
                | (simp [x2] at h2; done)
                | (simp [x1] at h1; done)
          · skip
            go_wp2_with (first
              | (go_at_call 97; refine (HC.out _ (bl_alloc (Below.refl _ _) _)).mono ?_; clear HC; rintro e w3 ⟨rfl, hb3⟩))
            go_ret2
            refine ⟨by first | exact bl_then (bl_alloc hbw _) hb3 | exact bl_alloc hbw _, .inl ⟨?_, rfl⟩⟩
            rw [HFL.out, if_neg (fun q => ?_)]
            obtain ⟨x1, x2, x3, x4, x5⟩ := q
            first
              | exact x5 (of_decide_eq_true hmb)
              | (simp at h4; omega)
              | (simp at h3; omega)
              | (simp [x2] at h2; done)
              | (simp [x1] at h1; done)
        · skip
          go_wp2_with (first
            | (go_at_call 97; refine (HC.out _ (bl_alloc (Below.refl _ _) _)).mono ?_; clear HC; rintro e w3 ⟨rfl, hb3⟩))
          go_ret2
          refine ⟨by first | exact bl_then (bl_alloc hbw _) hb3 | exact bl_alloc hbw _, .inl ⟨?_, rfl⟩⟩
          rw [HFL.out, if_neg (fun q => ?_)]
          obtain ⟨x1, x2, x3, x4, x5⟩ := q
          first
            | exact x5 (of_decide_eq_true hmb)
            | (simp at h4; omega)
            | (simp at h3; omega)
            | (simp [x2] at h2; done)
            | (simp [x1] at h1; done)
      · skip
        go_wp2_with (first
          | (go_at_call 97; refine (HC.out _ (bl_alloc (Below.refl _ _) _)).mono ?_; clear HC; rintro e w3 ⟨rfl, hb3⟩))
        go_ret2
        refine ⟨by first | exact bl_then (bl_alloc hbw _) hb3 | exact bl_alloc hbw _, .inl ⟨?_, rfl⟩⟩
        rw [HFL.out, if_neg (fun q => ?_)]
        obtain ⟨x1, x2, x3, x4, x5⟩ := q
        first
          | exact x5 (of_decide_eq_true hmb)
          | (simp at h4; omega)
          | (simp at h3; omega)
          | (simp [x2] at h2; done)
          | (simp [x1] at h1; done)
    · obtain rfl : i = ts.length := by have := hrel.le; omega
      obtain ⟨B, d, rfl, hd2, hrd⟩ := hmine.reads (by omega)
      have HFL := Lib.hid hfl
      clear hfl hrel
      go_wp2_with fail
      go_ret2
      refine ⟨hbw, .inr ⟨vs, B, d, ?_, rfl, hd2, hrd⟩⟩
      rw [HFL.out]
      simp [patGo]
end Go.Proofs.YtbmmdfehhhgkcaaGreat
