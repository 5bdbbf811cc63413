/- What evaluating comes to, in plain words. The contract of the closure of eval.fits: the clauses that fit. A region that draws its order, in a round: by the laws that hold outside of rounds. The contracts of eval.fits and eval.find. -/
import Derived.Test.YtbmmdfehhhgkcaaGreatE1
import Derived.Test.YtbmmdfehhhgkcaaGreatMA
import Derived.Sort.CutIn
import Derived.OrdersIn
import Derived.OrdersHeld
import Derived.Deep.RegionHeld2
namespace Go.Proofs.YtbmmdfehhhgkcaaGreat
open Go.RowKit Go.Shelf
set_option linter.unusedVariables false
set_option linter.unusedSimpArgs false

/-- What a clause tells of a term: nothing where they clash; else what its metas are, and an error. -/
noncomputable def fitV (k : Nat) (m : Tm) (c : Cs) : Option (List Tm × Int) :=
  match MatchV (paramsV c.ms) [] c.p m (k : Int) (bd0 c.ms.length) with
  | .error e => if e = 6 then none else some ([], e)
  | .ok bs => if bs.any (fun x => !x.is) = true then some ([], 5) else some (toldV bs, 0)
noncomputable def fitsV (k : Nat) (m : Tm) : List Cs → List (Cs × List Tm × Int)
  | [] => []
  | c :: l => match fitV k m c with
    | none => fitsV k m l
    | some r => (c, r) :: fitsV k m l
noncomputable def findL (del : List Md) (theta : List Tm) : List (Cs × List Tm × Int) → Except Int (Cs × List Tm)
  | [] => .error 7
  | (c, rho, e) :: l => if e = 0 then (match AllV c.th rho (sizesV del) with
      | .error x => .error x
      | .ok own => if sameL own theta = true then .ok (c, rho) else findL del theta l) else .error e
noncomputable def findV (f : Fu) (theta : List Tm) (m : Tm) : Except Int (Cs × List Tm) := findL f.del theta (fitsV f.psi.length m f.cl)

/-- A call, calls, a function, by so much fuel; how many were evaluated. -/
noncomputable def callV (fs : List Fu) (ev : Int → List Tm → Tm → Int → Except Int Tm × Int) (x : Cl) (rho : List Tm) (s : Int) : Except Int Tm × Int :=
  if x.f < 0 ∨ (fs.length : Int) ≤ x.f then (.error 2, s) else
  match fs[x.f.toNat]? with
  | none => (.error 2, s)
  | some g => match AllV x.th rho ((sizesV g.del).map fun n => wrap64 (n + (x.ext.length : Int))) with
    | .error e => (.error e, s)
    | .ok theta => match FillV rho x.arg (wrap64 ((x.ext.length : Int) + (g.psi.length : Int))) with
      | .error e => (.error e, s)
      | .ok arg => ev x.f theta arg s
noncomputable def callsV (fs : List Fu) (ev : Int → List Tm → Tm → Int → Except Int Tm × Int) : List Cl → List Tm → Int → Except Int (List Tm) × Int
  | [], rho, s => (.ok rho, s)
  | x :: l, rho, s => match callV fs ev x rho s with
    | (.error e, s') => (.error e, s')
    | (.ok t, s') => callsV fs ev l (rho ++ [t]) s'
noncomputable def evalV (fs : List Fu) : Nat → Int → List Tm → Tm → Int → Except Int Tm × Int
  | 0, no, theta, m, s => if no < 0 ∨ (fs.length : Int) ≤ no then (.error 2, s) else (.error 12, s)
  | k + 1, no, theta, m, s => if no < 0 ∨ (fs.length : Int) ≤ no then (.error 2, s) else
    if 2000 < s + 1 then (.error 4, s + 1) else
    match fs[no.toNat]? with
    | none => (.error 2, s)
    | some f => match findV f theta m with
      | .error e => (.error e, s + 1)
      | .ok (c, rho) => match callsV fs (evalV fs k) c.cs rho (s + 1) with
        | (.error e, s') => (.error e, s')
        | (.ok all, s') => (FillV all c.r (f.phi.length : Int), s')

theorem fitsV_at {k : Nat} {m : Tm} {cl : List Cs} {i : Nat} (h : i < cl.length) : fitsV k m (cl.drop i) = match fitV k m cl[i] with
    | none => fitsV k m (cl.drop (i + 1))
    | some r => (cl[i], r) :: fitsV k m (cl.drop (i + 1)) := by
  rw [List.drop_eq_getElem_cons h, fitsV]
end Go.Proofs.YtbmmdfehhhgkcaaGreat
namespace Go.Proofs.YtbmmdfehhhgkcaaGreat
open Go.RowKit Go.Shelf
set_option linter.unusedVariables false
set_option linter.unusedSimpArgs false
attribute [local go_sem] Oper.semAt_some

/-- A clause that fits, where its parts lie, what its metas are, an error. -/
structure Ft where
  c : Cs
  A : Option Addr
  a : Nat
  B : Option Addr
  b : Nat
  C : Option Addr
  k : Nat
  D : Option Addr
  d : Nat
  E : Option Addr
  l : Nat
  rho : List Tm
  R : Option Addr
  n : Nat
  e : Int
abbrev cellsK (c : Cs) (A : Option Addr) (a : Nat) (B : Option Addr) (b : Nat) (C : Option Addr) (k : Nat) (D : Option Addr) (d : Nat) (E : Option Addr) (l : Nat) : List Value :=
  [.slice A c.ms.length a, .slice B c.th.length b, .int .i64 c.p.k, .int .i64 c.p.h, .slice C c.p.a.length k, .slice D c.cs.length d, .int .i64 c.r.k, .int .i64 c.r.h, .slice E c.r.a.length l]
abbrev encF (x : Ft) : Array Value := #[.agg #[.slice x.A x.c.ms.length x.a, .slice x.B x.c.th.length x.b, .int .i64 x.c.p.k, .int .i64 x.c.p.h, .slice x.C x.c.p.a.length x.k, .slice x.D x.c.cs.length x.d, .int .i64 x.c.r.k, .int .i64 x.c.r.h, .slice x.E x.c.r.a.length x.l, .slice x.R x.rho.length x.n], .int .i64 x.e]
def HasF (S : Nat → Prop) (G : Cs × List Tm × Int → Prop) (x : Ft) (W : World) : Prop :=
  G (x.c, x.rho, x.e) ∧ eK S W (cellsK x.c x.A x.a x.B x.b x.C x.k x.D x.d x.E x.l) x.c ∧ Reads S W x.R x.rho ∧ x.rho.length ≤ x.n
def prF (x : Ft) : Cs × List Tm × Int := (x.c, x.rho, x.e)

structure FiRel (k : Nat) (m : Tm) (cl : List Cs) (J : List Ft → World → Prop) (w : World) (i : Nat) (wr : World) : Prop where
  le : i ≤ cl.length
  below : Below w.heap.size w wr
  out : ∃ xs, J xs wr ∧ xs.map prF ++ fitsV k m (cl.drop i) = fitsV k m cl

/-- Whole of nothing. -/
theorem Whole0_calls (w : World) : Calls Tryz.prog 21 #[.slice none 0 0] w fun e w' => Below w.heap.size w w' ∧ ∃ B d, e = .returned (.tuple #[.slice B 0 d, .bool true]) :=
  (Whole_calls (fun _ => False) [] none 0 w (fun _ q => q.elim) ⟨Nat.zero_le _, fun i hi => absurd hi (Nat.not_lt_zero _)⟩).mono (by
    rintro e w' ⟨hb, (⟨h, _⟩ | ⟨_, B, d, rfl, _⟩)⟩
    · simp at h
    · exact ⟨hb, B, d, rfl⟩)
theorem fiStep {k : Nat} {m : Tm} {cl : List Cs} {xs : List Ft} {i : Nat} {x : Ft} {r : List Tm × Int} (hxs : xs.map prF ++ (match some r with | none => fitsV k m (cl.drop (i + 1)) | some r => (x.c, r) :: fitsV k m (cl.drop (i + 1))) = fitsV k m cl) (h : (x.rho, x.e) = r) :
    (xs ++ [x]).map prF ++ fitsV k m (cl.drop (i + 1)) = fitsV k m cl := by
  rw [← hxs, ← h]
  simp [prF]
theorem fiCut {k : Nat} {m : Tm} {cl : List Cs} {xs : List Ft} {i : Nat} (h : xs.map prF ++ fitsV k m (cl.drop i) = fitsV k m cl) : xs.map prF <+: fitsV k m cl := ⟨_, h⟩

/-- What is asked of the clauses of a function that is held against a term. -/
structure ClOk (cl : List Cs) (m : Tm) (k : Nat) : Prop where
  each : ∀ c ∈ cl, (mayB c.p = true → mayB m = true → QM c.p m (k : Int)) ∧ c.ms.length ≤ 1048576

/-- What Match tells, its parts apart. -/
def RetMC (S : Nat → Prop) (r : Except Int (List Bd)) (B : Option Addr) (n d : Nat) (x : Int) (w' : World) : Prop :=
  (r = .error x ∧ x ≠ 0 ∧ B = none ∧ n = 0 ∧ d = 0) ∨ ∃ bs, r = .ok bs ∧ x = 0 ∧ n = bs.length ∧ bs.length ≤ d ∧ RowB S w' B bs
theorem RetMS.open {S : Nat → Prop} {r : Except Int (List Bd)} {w : World} {e : Ending} {w' : World} (q : RetMS S r w e w') : Below w.heap.size w w' ∧ ∃ B n d x, e = .returned (.tuple #[.slice B n d, .int .i64 x]) ∧ RetMC S r B n d x w' := by
  obtain ⟨hb, q⟩ := q
  refine ⟨hb, ?_⟩
  rcases q with ⟨x, h1, h2, rfl⟩ | ⟨bs, g, c, h1, rfl, h2, h3, h4⟩
  · exact ⟨none, 0, 0, x, rfl, .inl ⟨h1, h2, rfl, rfl, rfl⟩⟩
  · exact ⟨_, _, _, _, rfl, .inr ⟨bs, h1, rfl, rfl, h2, h4⟩⟩
theorem RetMC.mov {S : Nat → Prop} {r : Except Int (List Bd)} {B : Option Addr} {n d : Nat} {x : Int} {w w' : World} (h : RetMC S r B n d x w) (hb : Below w.heap.size w w') : RetMC S r B n d x w' := by
  rcases h with h | ⟨bs, h1, h2, h3, h4, h5⟩
  · exact .inl h
  · exact .inr ⟨bs, h1, h2, h3, h4, h5.mov hb⟩
theorem paramsV_len (l : List Md) : (paramsV l).length = l.length := by simp [paramsV]
/-- Match of binds that are nothing yet. -/
theorem Match0_calls (S : Nat → Prop) (ms : List Md) (p t : Tm) (n : Nat) (A : Option Addr) (c : Nat) (A2 : Option Addr) (c2 : Nat) (g : Nat) (P : Option Addr) (cp : Nat) (w : World) (hS : ∀ k, S k → k < w.heap.size)
    (hr : Reads (fun _ => False) w A p.a) (hc : p.a.length ≤ c) (hr2 : Reads (fun _ => False) w A2 t.a) (hc2 : t.a.length ≤ c2) (hb : Row eB 4 (fun _ => False) w (some ⟨g, 0, none⟩) (bd0 ms.length)) (hP : RowBo w P (paramsV ms)) (hbl : ms.length ≤ 1048576)
    (hq : mayB p = true → mayB t = true → QM p t n) :
    Calls Tryz.prog 19 #[.agg #[.int .i64 p.k, .int .i64 p.h, .slice A p.a.length c], .agg #[.int .i64 t.k, .int .i64 t.h, .slice A2 t.a.length c2], .int .i64 n, .slice (some ⟨g, 0, none⟩) ms.length ms.length, .slice P ms.length cp, .slice none 0 0] w
      (RetMS S (MatchV (paramsV ms) [] p t n (bd0 ms.length)) w) := by
  have h := Match_callsS S (paramsV ms) [] p t n (bd0 ms.length) A c A2 c2 (some ⟨g, 0, none⟩) ms.length P cp none 0 w hS hr hc hr2 hc2 hb (by rw [bd0_len]; exact Nat.le_refl _) hP rowBo_nil (by rw [bd0_len]; exact hbl) (by rw [paramsV_len]; exact hbl) hq (fun x hx hi => by simp [bd0] at hx; rw [hx.2] at hi; cases hi)
  rw [bd0_len, paramsV_len] at h
  exact h

set_option maxRecDepth 100000 in
set_option maxHeartbeats 16000000 in
theorem fits1_gives (S : Nat → Prop) (mm : Nat) (f : Fu) (m : Tm) (gf gm : Nat) (v0 v1 v2 v4 v5 v6 v7 v8 v9 v10 v11 : Value) (P : Option Addr) (cp : Nat) (G : Option Addr) (cg : Nat) (M : Option Addr) (cm : Nat) (w : World) (hS : ∀ k, S k → k < w.heap.size)
    (hf : Blk w gf #[v0, v1, v2, .slice P f.psi.length cp, v4, v5, v6, v7, v8, v9, v10, v11, .slice G f.cl.length cg] 39) (hm : Blk w gm #[.int .i64 m.k, .int .i64 m.h, .slice M m.a.length cm] 25)
    (hG : Row eK 9 S w G f.cl) (hM : Reads (fun _ => False) w M m.a) (hcm : m.a.length ≤ cm) (hpsi : f.psi.length ≤ 1048576) (hcl : ClOk f.cl m f.psi.length) (GP : Cs × List Tm × Int → Prop) (hGP : ∀ c ∈ f.cl, ∀ r, fitV f.psi.length m c = some r → GP (c, r)) :
    Gives mm 88 #[.pointer (some ⟨gf, 0, none⟩), .pointer (some ⟨gm, 0, none⟩)] encF (HasF S GP) (fun xs => xs.map prF = fitsV f.psi.length m f.cl) (fun pre => pre.map prF <+: fitsV f.psi.length m f.cl) w := by
  intro l J Jx W hW hJ hY h0
  have hdd : ∀ k : Nat, (Fence.wide.depth.isSome = true → 1 ≤ k) := fun k h => by cases h
  have hlen := hG.1
  unfold lim at hlen
  have HJ := Lib.hid hJ
  have HY := Lib.hid hY
  have hrel0 : FiRel f.psi.length m f.cl J w 0 W := ⟨Nat.zero_le _, hW, [], h0, rfl⟩
  have HR0 := Lib.hid hrel0
  have F0 := hf.mov hW
  have f12 := F0.cell 12
  clear hJ hY h0 hrel0 F0
  refine callsIn_of_wp Tryz.func88 rfl trivial ?_ rfl
  simp only [Tryz.ntmps88, List.size_toArray, List.length_cons, List.length_nil, Nat.reduceAdd, Nat.reduceSub, Array.replicate_succ, Array.replicate_zero, List.push_toArray, List.append_toArray, List.nil_append, List.cons_append]
  gi_wp2_with fail
  gi_loopw [13] (fun v wr => ∃ i : Nat, v = .int .i64 i ∧ FiRel f.psi.length m f.cl J w i wr) (fun v _ => f.cl.length - (intOf v).toNat)
  case atStart => exact ⟨0, rfl, HR0.out⟩
  case round =>
    clear f12 HR0
    obtain ⟨i, rfl, hrel⟩ := hrel
    have hbw := hrel.below
    by_cases hlt : i < f.cl.length
    · obtain ⟨ad, cs, rfl, -, hcl9, k0, kj, hk⟩ := (hG.mov lasts_K (by decide) hbw).at hlt
      obtain ⟨A, a, B, b, C, c, D, d, E, e, hcs, hkk⟩ := hk
      rw [hcs] at k0 kj
      have q0 := k0 _ rfl
      have q1 := kj 1 _ rfl
      have q2 := kj 2 _ rfl
      have q3 := kj 3 _ rfl
      have q4 := kj 4 _ rfl
      have q5 := kj 5 _ rfl
      have q6 := kj 6 _ rfl
      have q7 := kj 7 _ rfl
      have q8 := kj 8 _ rfl
      clear k0 kj hcs hcl9
      obtain ⟨xs, hjx, hxs⟩ := hrel.out
      rw [fitsV_at hlt] at hxs
      have hok := hcl.each _ (List.getElem_mem hlt)
      have hwx : Below wr.heap.size wr (wr.alloc (.cells #[.slice A f.cl[i].ms.length a, .slice B f.cl[i].th.length b, .int .i64 f.cl[i].p.k, .int .i64 f.cl[i].p.h, .slice C f.cl[i].p.a.length c, .slice D f.cl[i].cs.length d, .int .i64 f.cl[i].r.k, .int .i64 f.cl[i].r.h, .slice E f.cl[i].r.a.length e] 42)) := bl_alloc (Below.refl _ _) _
      have e5 := Blk.new wr #[.slice A f.cl[i].ms.length a, .slice B f.cl[i].th.length b, .int .i64 f.cl[i].p.k, .int .i64 f.cl[i].p.h, .slice C f.cl[i].p.a.length c, .slice D f.cl[i].cs.length d, .int .i64 f.cl[i].r.k, .int .i64 f.cl[i].r.h, .slice E f.cl[i].r.a.length e] 42
      obtain ⟨W1, hW1⟩ : ∃ W1, (wr.alloc (.cells #[.slice A f.cl[i].ms.length a, .slice B f.cl[i].th.length b, .int .i64 f.cl[i].p.k, .int .i64 f.cl[i].p.h, .slice C f.cl[i].p.a.length c, .slice D f.cl[i].cs.length d, .int .i64 f.cl[i].r.k, .int .i64 f.cl[i].r.h, .slice E f.cl[i].r.a.length e] 42)) = W1 := ⟨_, rfl⟩
      rw [hW1] at hwx e5
      have hb1 := bl_then hbw hwx
      have F1 := hf.mov hb1
      have M1 := hm.mov hb1
      have hkk1 := lasts_K.mov (cs := cellsK f.cl[i] A a B b C c D d E e) (x := f.cl[i]) ⟨A, a, B, b, C, c, D, d, E, e, rfl, hkk⟩ hwx
      obtain ⟨hms, -, hp, -, -⟩ := hkk
      have HPA := Lib.hid (fun (W : World) (hb : Below W1.heap.size W1 W) => Params_calls f.cl[i].ms A a W (((hms.2.less lasts_M (by decide) (fun _ q => q.elim)).mov lasts_M (by decide) hwx).mov lasts_M (by decide) hb))
      have HMA := Lib.hid (fun (W : World) (hb : Below W1.heap.size W1 W) (g : Nat) (PP : Option Addr) (cpp : Nat) (h1 : Row eB 4 (fun _ => False) W (some ⟨g, 0, none⟩) (bd0 f.cl[i].ms.length)) (h2 : RowBo W PP (paramsV f.cl[i].ms)) =>
        Match0_calls S f.cl[i].ms f.cl[i].p m f.psi.length C c M cm g PP cpp W (fun k q => Nat.lt_of_lt_of_le (hS k q) (bl_then hb1 hb).size) (((hp.2.less (fun _ q => q.elim)).mov hwx).mov hb) hp.1 ((hM.mov hb1).mov hb) hcm h1 h2 hok.2 hok.1)
      have HCE : Hid (∀ W, Below W1.heap.size W1 W → (Below W1.heap.size W1 W ∧ W.cell? ⟨wr.heap.size, 0, none⟩ = some (.slice A f.cl[i].ms.length a) ∧ W.cell? ⟨wr.heap.size, 2, none⟩ = some (.int .i64 f.cl[i].p.k) ∧ W.cell? ⟨wr.heap.size, 3, none⟩ = some (.int .i64 f.cl[i].p.h) ∧ W.cell? ⟨wr.heap.size, 4, none⟩ = some (.slice C f.cl[i].p.a.length c) ∧
          W.cell? ⟨gm, 0, none⟩ = some (.int .i64 m.k) ∧ W.cell? ⟨gm, 1, none⟩ = some (.int .i64 m.h) ∧ W.cell? ⟨gm, 2, none⟩ = some (.slice M m.a.length cm) ∧ W.cell? ⟨gf, 3, none⟩ = some (.slice P f.psi.length cp))) :=
        Lib.hid (fun W hb => ⟨hb, (e5.mov hb).cell 0, (e5.mov hb).cell 2, (e5.mov hb).cell 3, (e5.mov hb).cell 4, (M1.mov hb).cell 0, (M1.mov hb).cell 1, (M1.mov hb).cell 2, (F1.mov hb).cell 3⟩)
      have H5 := Lib.hid (fun (W : World) (hb : Below W1.heap.size W1 W) => e5.mov hb)
      have HK1 := Lib.hid hkk1
      have HB1 := Lib.hid hb1
      have HXS := Lib.hid hxs
      have HJX := Lib.hid (fun (W : World) (hb : Below W1.heap.size W1 W) => HJ.out _ _ _ hjx (bl_then hwx hb))
      have hmsl := hok.2
      obtain ⟨O, hO⟩ : ∃ O : Obj, Obj.cells (madeCells #[.bool false, .int .i64 0, .int .i64 0, .slice none 0 0] (f.cl[i].ms.length * 4)) 78 = O := ⟨_, rfl⟩
      have hmk : ∀ w : World, (Instr.makeSlice 43 (.int .i64 f.cl[i].ms.length) (.int .i64 f.cl[i].ms.length)).run Tryz.prog w = .ok (.slice (some ⟨w.heap.size, 0, none⟩) f.cl[i].ms.length f.cl[i].ms.length) (w.alloc O) := fun w => hO ▸ bd_make _ hmsl w
      have HO := Lib.hid hO
      have HFV := Lib.hid (rfl : fitV f.psi.length m f.cl[i] = fitV f.psi.length m f.cl[i])
      conv at HFV => rhs; rhs; unfold fitV
      generalize MatchV (paramsV f.cl[i].ms) [] f.cl[i].p m (f.psi.length : Int) (bd0 f.cl[i].ms.length) = mv at *
      have hz1 : wr.heap.size < W1.heap.size := e5.lt
      have hz2 : gm < W1.heap.size := M1.lt
      have hz3 : gf < W1.heap.size := F1.lt
      clear hO hxs hjx hrel hok hwx hb1 F1 M1 hkk1 hms hp e5
      gi_upto_region 3 with fail
      clear hW1 q0 q1 q2 q3 q4 q5 q6 q7 q8
      refine wpIn_wide.2 ?_
      go_cut [6, 7] (fun s6 s7 wx => ∃ B n d x, s6 = .slice B n d ∧ s7 = .int .i64 x ∧ Below W1.heap.size W1 wx ∧ RetMC S mv B n d x wx)
      case first =>
        clear hz1 hz2 hz3
        go_region_held2 (fun W => (Below W1.heap.size W1 W ∧ W.cell? ⟨wr.heap.size, 0, none⟩ = some (.slice A f.cl[i].ms.length a) ∧ W.cell? ⟨wr.heap.size, 2, none⟩ = some (.int .i64 f.cl[i].p.k) ∧ W.cell? ⟨wr.heap.size, 3, none⟩ = some (.int .i64 f.cl[i].p.h) ∧ W.cell? ⟨wr.heap.size, 4, none⟩ = some (.slice C f.cl[i].p.a.length c) ∧
          W.cell? ⟨gm, 0, none⟩ = some (.int .i64 m.k) ∧ W.cell? ⟨gm, 1, none⟩ = some (.int .i64 m.h) ∧ W.cell? ⟨gm, 2, none⟩ = some (.slice M m.a.length cm) ∧ W.cell? ⟨gf, 3, none⟩ = some (.slice P f.psi.length cp)))
          ((first | exact HCE.out _ hx3 | exact HCE.out _ hx2 | exact HCE.out _ (bl_alloc hx2 _) | exact HCE.out _ (Below.refl _ _) | exact HCE.out _ (bl_alloc (Below.refl _ _) _) | exact HCE.out _ (Below.refl _ _).drew | exact HCE.out _ (bl_alloc (Below.refl _ _).drew _)))
          (first
            | (go_at_call 20; refine (HPA.out _ ?hb).mono ?_; (case hb => first | exact (Below.refl _ _).drew | exact (bl_alloc (Below.refl _ _) _).drew | exact bl_alloc (Below.refl _ _).drew _); rintro e2 w2 ⟨hb2, BP, dP, rfl, hdP, hrP⟩; have hx2 : Below W1.heap.size W1 w2 := (by first | exact bl_undrew hb2 | exact bl_then (bl_alloc (Below.refl _ _) _) (bl_undrew hb2)))
            | (go_at_call 19; refine (HMA.out _ ?hb _ _ _ ?h1 ?h2).mono ?_; (case hb => first | exact hx2 | exact bl_alloc hx2 _); (case h1 => (have e := HO.out; subst e; first | exact row_made ((Blk.nw W1 _ _ _ rfl).mov (bl_undrew hb2)) (Nat.le_trans hmsl (by unfold lim; omega)) | exact row_made (Blk.nw w2 _ _ _ rfl) (Nat.le_trans hmsl (by unfold lim; omega)))); (case h2 => first | exact hrP | exact hrP.mov (bl_alloc (Below.refl _ _) _)); rintro e3 w3 q; obtain ⟨hb3, B3, n3, d3, x3, rfl, hrc⟩ := q.open; have hx3 : Below W1.heap.size W1 w3 := (by first | exact bl_then hx2 hb3 | exact bl_then (bl_alloc hx2 _) hb3)))
        all_goals
          go_wp2_with fail
          go_meet
          exact ⟨_, _, _, _, rfl, rfl, hx3, hrc⟩
      case rest =>
        obtain ⟨B3, n3, d3, x3, rfl, rfl, hx3, hrc⟩ := hcut
        rcases hrc with ⟨rfl, hx0, rfl, rfl, rfl⟩ | ⟨bs, rfl, rfl, rfl, hd3, hr3⟩
        · by_cases h6 : x3 = 6
          · subst h6
            have e1 := HFV.out
            simp only [if_true] at e1
            rw [e1] at HXS
            have HE1 := Lib.hid e1
            clear HFV e1
            gi_wp2_with fail
            exact ⟨⟨i + 1, by go_num, hlt, bl_then HB1.out hx3, xs, HJX.out _ hx3, HXS.out⟩, by simp [intOf]; omega⟩
          · have e1 := HFV.out
            simp only [h6, if_false] at e1
            rw [e1] at HXS
            have HE1 := Lib.hid e1
            have h6' : (x3 == 6) = false := by simpa using h6
            have h0' : (x3 == 0) = false := by simpa using hx0
            clear HFV e1 h6 hx0
            gi_upto_region 8 with (refine ⟨trivial, hdd _, ?_⟩; gi_at_call 21; refine (callsIn_wide.2 (Whole0_calls _)).mono ?_; rintro e5 w5 ⟨hb5, B5, d5, rfl⟩)
            have hwz := bl_then hx3 hb5
            obtain ⟨X, hX⟩ : ∃ X : Ft, X = ⟨f.cl[i], A, a, B, b, C, c, D, d, E, e, [], B5, d5, x3⟩ := ⟨_, rfl⟩
            have y := HY.out xs X w5 (HJX.out _ hwz) (by rw [hX]; exact ⟨hGP _ (List.getElem_mem hlt) _ HE1.out, lasts_K.mov HK1.out hwz, .nil _, Nat.zero_le _⟩)
            have HXN := Lib.hid (fiStep (x := X) (by rw [hX]; exact HXS.out) (by rw [hX]))
            rw [hX] at y
            (try dsimp only at y)
            obtain ⟨fn, tmps, assign, body, hy, hR⟩ := y
            (try dsimp only [encF] at hy)
            (try simp only [List.length_nil, toldV_len] at hy)
            have HR := Lib.hid hR
            have p5 := H5.out _ hwz
            have c0 := p5.cell 0
            have c1 := p5.cell 1
            have c2 := p5.cell 2
            have c3 := p5.cell 3
            have c4 := p5.cell 4
            have c5 := p5.cell 5
            have c6 := p5.cell 6
            have c7 := p5.cell 7
            have c8 := p5.cell 8
            have HWZ := Lib.hid hwz
            clear hR p5
            gi_wp2_with ((try refine ⟨hdd _, ?_⟩); refine HR.out.mono ?_; clear HR; rintro e w6 (⟨rfl, hj6, hk6, hb6⟩ | ⟨rfl, hjx6⟩))
            · refine ⟨⟨i + 1, by go_num, hlt, (HB1.out.trans (HWZ.out.mono HB1.out.size)).trans hb6, xs ++ [X], by rw [hX]; exact hj6, HXN.out⟩, by simp [intOf]; omega⟩
            · refine bodyPost_ret (res_none rfl _ _) rfl ⟨⟨_, rfl⟩, .inr ⟨xs ++ [X], fiCut HXN.out, by rw [hX]; exact hjx6⟩⟩
        · by_cases hw : bs.any (fun x => !x.is) = true
          · have e1 := HFV.out
            simp only [hw, if_true] at e1
            rw [e1] at HXS
            have HE1 := Lib.hid e1
            have HW := Lib.hid (fun (W : World) (hb : Below wc.heap.size wc W) => Whole_calls S bs B3 d3 W (fun k q => Nat.lt_of_lt_of_le (hS k q) (bl_then (bl_then HB1.out hx3) hb).size) (hr3.mov hb))
            have HWT := Lib.hid hw
            clear HFV e1 hw hr3
            gi_upto_region 8 with (refine ⟨trivial, hdd _, ?_⟩; gi_at_call 21; refine (callsIn_wide.2 (HW.out _ (Below.refl _ _))).mono ?_; rintro e5 w5 ⟨hb5, (⟨-, rfl⟩ | ⟨hn, -⟩)⟩; rotate_left; (exact absurd HWT.out (by rw [hn]; exact Bool.false_ne_true)))
            have hwz := bl_then hx3 hb5
            obtain ⟨X, hX⟩ : ∃ X : Ft, X = ⟨f.cl[i], A, a, B, b, C, c, D, d, E, e, [], none, 0, 5⟩ := ⟨_, rfl⟩
            have y := HY.out xs X w5 (HJX.out _ hwz) (by rw [hX]; exact ⟨hGP _ (List.getElem_mem hlt) _ HE1.out, lasts_K.mov HK1.out hwz, .nil _, Nat.zero_le _⟩)
            have HXN := Lib.hid (fiStep (x := X) (by rw [hX]; exact HXS.out) (by rw [hX]))
            rw [hX] at y
            (try dsimp only at y)
            obtain ⟨fn, tmps, assign, body, hy, hR⟩ := y
            (try dsimp only [encF] at hy)
            (try simp only [List.length_nil, toldV_len] at hy)
            have HR := Lib.hid hR
            have p5 := H5.out _ hwz
            have c0 := p5.cell 0
            have c1 := p5.cell 1
            have c2 := p5.cell 2
            have c3 := p5.cell 3
            have c4 := p5.cell 4
            have c5 := p5.cell 5
            have c6 := p5.cell 6
            have c7 := p5.cell 7
            have c8 := p5.cell 8
            have HWZ := Lib.hid hwz
            clear hR p5
            gi_wp2_with ((try refine ⟨hdd _, ?_⟩); refine HR.out.mono ?_; clear HR; rintro e w6 (⟨rfl, hj6, hk6, hb6⟩ | ⟨rfl, hjx6⟩))
            · refine ⟨⟨i + 1, by go_num, hlt, (HB1.out.trans (HWZ.out.mono HB1.out.size)).trans hb6, xs ++ [X], by rw [hX]; exact hj6, HXN.out⟩, by simp [intOf]; omega⟩
            · refine bodyPost_ret (res_none rfl _ _) rfl ⟨⟨_, rfl⟩, .inr ⟨xs ++ [X], fiCut HXN.out, by rw [hX]; exact hjx6⟩⟩
          · have hw' : bs.any (fun x => !x.is) = false := by simpa using hw
            have e1 := HFV.out
            simp only [hw', Bool.false_eq_true, if_false] at e1
            rw [e1] at HXS
            have HE1 := Lib.hid e1
            have HW := Lib.hid (fun (W : World) (hb : Below wc.heap.size wc W) => Whole_calls S bs B3 d3 W (fun k q => Nat.lt_of_lt_of_le (hS k q) (bl_then (bl_then HB1.out hx3) hb).size) (hr3.mov hb))
            have HWT := Lib.hid hw'
            clear HFV e1 hw hw' hr3
            gi_upto_region 8 with (refine ⟨trivial, hdd _, ?_⟩; gi_at_call 21; refine (callsIn_wide.2 (HW.out _ (Below.refl _ _))).mono ?_; rintro e5 w5 ⟨hb5, (⟨hn, -⟩ | ⟨-, B5, d5, rfl, hd5, hr5⟩)⟩; (exact absurd hn (by rw [HWT.out]; exact Bool.false_ne_true)))
            have hwz := bl_then hx3 hb5
            have HR5 := Lib.hid hr5
            clear hr5
            obtain ⟨X, hX⟩ : ∃ X : Ft, X = ⟨f.cl[i], A, a, B, b, C, c, D, d, E, e, toldV bs, B5, d5, 0⟩ := ⟨_, rfl⟩
            have y := HY.out xs X w5 (HJX.out _ hwz) (by rw [hX]; exact ⟨hGP _ (List.getElem_mem hlt) _ HE1.out, lasts_K.mov HK1.out hwz, HR5.out, by rw [toldV_len]; exact hd5⟩)
            have HXN := Lib.hid (fiStep (x := X) (by rw [hX]; exact HXS.out) (by rw [hX]))
            rw [hX] at y
            (try dsimp only at y)
            obtain ⟨fn, tmps, assign, body, hy, hR⟩ := y
            (try dsimp only [encF] at hy)
            (try simp only [List.length_nil, toldV_len] at hy)
            have HR := Lib.hid hR
            have p5 := H5.out _ hwz
            have c0 := p5.cell 0
            have c1 := p5.cell 1
            have c2 := p5.cell 2
            have c3 := p5.cell 3
            have c4 := p5.cell 4
            have c5 := p5.cell 5
            have c6 := p5.cell 6
            have c7 := p5.cell 7
            have c8 := p5.cell 8
            have HWZ := Lib.hid hwz
            clear hR p5
            gi_wp2_with ((try refine ⟨hdd _, ?_⟩); refine HR.out.mono ?_; clear HR; rintro e w6 (⟨rfl, hj6, hk6, hb6⟩ | ⟨rfl, hjx6⟩))
            · refine ⟨⟨i + 1, by go_num, hlt, (HB1.out.trans (HWZ.out.mono HB1.out.size)).trans hb6, xs ++ [X], by rw [hX]; exact hj6, HXN.out⟩, by simp [intOf]; omega⟩
            · refine bodyPost_ret (res_none rfl _ _) rfl ⟨⟨_, rfl⟩, .inr ⟨xs ++ [X], fiCut HXN.out, by rw [hX]; exact hjx6⟩⟩
    · obtain rfl : i = f.cl.length := by have := hrel.le; omega
      obtain ⟨xs, hjx, hxs⟩ := hrel.out
      rw [List.drop_length, fitsV, List.append_nil] at hxs
      have HXS := Lib.hid hxs
      clear hxs hrel
      gi_wp2_with fail
      go_end0
      exact ⟨⟨_, rfl⟩, .inl ⟨xs, HXS.out, hjx⟩⟩
end Go.Proofs.YtbmmdfehhhgkcaaGreat
namespace Go.Proofs.YtbmmdfehhhgkcaaGreat
open Go.RowKit Go.Shelf
set_option linter.unusedVariables false
set_option linter.unusedSimpArgs false

theorem op_round {l m : Nat} {o : Oper} {a : Act} {w : World} {K : Act → World → Prop} {Q : Exit → Act → World → Prop} (hd : ∀ c, o.op ≠ .defer c) (h : Oper.wp Tryz.prog o a w K Q) : Oper.wpIn (Fence.wide.inRound l) m Tryz.prog o a w K Q := by
  unfold Oper.wpIn
  unfold Oper.wp at h
  refine ⟨fun _ _ => trivial, ?_⟩
  rw [show (Fence.wide.inRound l).round = some l from rfl, Oper.semAt_some l _ _ hd]
  generalize (execOp a.eval o).run Tryz.prog w = r at *
  have hdd : ∀ k : Nat, ((Fence.wide.inRound l).depth.isSome = true → 1 ≤ k) := fun k q => by simp [Fence.inRound, Fence.wide] at q
  cases r with
  | ok n w' =>
    cases n
    case value v => exact h
    case skip => exact h
    case defer d => exact h
    case enter f args => exact ⟨hdd _, CallsIn.inRound l (callsIn_wide.2 h)⟩
    case row row args =>
      refine ⟨hdd _, fun c cs _ => ?_⟩
      obtain ⟨v, w2, h1, h2⟩ := h c cs
      exact ⟨v, w2, h1, stepsIn_wide.2 h2⟩
    all_goals exact h.elim
  | halt x w' => cases x <;> first | exact h | exact h.elim
theorem any_round {l m : Nat} {md : Region.Mode} {ops : Array Oper} {Q : Exit → Act → World → Prop} (hd : ∀ (i : Nat) (o : Oper), ops[i]? = some o → ∀ c, o.op ≠ .defer c) (hq : ¬ LetsOut Q) :
    ∀ (fuel : Nat) (listed : Array Bool) (a : Act) (w : World), wpAny Tryz.prog md ops Q fuel listed a w → wpAnyIn (Fence.wide.inRound l) m Tryz.prog md ops Q fuel listed a w
  | 0, _, _, _, h => h
  | fuel + 1, listed, a, w, h => by
    refine ⟨h.1, fun i hi => ?_⟩
    have q := h.2 i hi
    unfold wpOp at q
    unfold wpOpIn
    cases ho : ops[i]? with
    | none =>
      simp only [ho] at q
      exact any_round hd hq fuel _ _ _ q
    | some o =>
      simp only [ho] at q ⊢
      split
      · rename_i hw
        simp only [hw, if_true] at q
        rcases q with q | ⟨_, q⟩
        · exact op_round (hd i o ho) (Oper.wp_mono (fun a w h => any_round hd hq fuel _ a w h) q)
        · exact absurd q hq
      · rename_i hw
        simp only [hw] at q
        exact ⟨fun _ _ => trivial, any_round hd hq fuel _ _ _ q⟩
/-- A region that draws, in a round, by the laws that hold outside: S holds behind every operation. -/
theorem region_round {l m id : Nat} {ops : Array Oper} {Q : Exit → Act → World → Prop} {a : Act} {w : World} (S : World → Prop) (hm : Tryz.prog.follows .mixedOrders = true) (hd : (ops.toList.all fun o => match o.op with | .defer _ => false | _ => true) = true) (hq : ¬ LetsOut Q) (hS : S w.drew)
    (h : S w.drew → wpAnyH Tryz.prog .any ops Q S ops.size (Array.replicate ops.size false) a w.drew) : (Code.region id ops true).wpIn (Fence.wide.inRound l) m Tryz.prog Q a w :=
  wpIn_region_any hm (any_round (fun i o ho c hc => by
    have := List.all_eq_true.1 hd o (by have := Array.mem_of_getElem? ho; exact Array.mem_toList_iff.2 this)
    rw [hc] at this
    cases this) hq _ _ _ _ (wpAny_of_held _ _ _ _ (h hS)))
end Go.Proofs.YtbmmdfehhhgkcaaGreat
namespace Go.Proofs.YtbmmdfehhhgkcaaGreat
open Go.RowKit Go.Shelf
set_option linter.unusedVariables false
set_option linter.unusedSimpArgs false
attribute [local go_sem] Oper.semAt_some

abbrev cellsF (f : Fu) (A : Option Addr) (a : Nat) (B : Option Addr) (b : Nat) (C : Option Addr) (c : Nat) (D : Option Addr) (d : Nat) (E : Option Addr) (e : Nat) (F : Option Addr) (k : Nat) (G : Option Addr) (g : Nat) : Array Value :=
  #[.string f.nm, .slice A f.sch.length a, .slice B f.del.length b, .slice C f.psi.length c, .int .i64 f.a.k, .int .i64 f.a.h, .slice D f.a.a.length d, .slice E f.phi.length e, .int .i64 f.b.k, .int .i64 f.b.h, .slice F f.b.a.length k, .bool f.tot, .slice G f.cl.length g]

set_option maxRecDepth 100000 in
set_option maxHeartbeats 2000000 in
theorem fits_calls (v0 v1 v2 v3 v4 v5 v6 v7 v8 v9 v10 v11 v12 u0 u1 u2 : Value) (w : World) :
    Calls Tryz.prog 69 #[.agg #[v0, v1, v2, v3, v4, v5, v6, v7, v8, v9, v10, v11, v12], .agg #[u0, u1, u2]] w fun e w' => e = .returned (.func (.func 88) #[] #[.pointer (some ⟨w.heap.size, 0, none⟩), .pointer (some ⟨w.heap.size + 1, 0, none⟩)]) ∧
      w' = (w.alloc (.cells #[v0, v1, v2, v3, v4, v5, v6, v7, v8, v9, v10, v11, v12] 39)).alloc (.cells #[u0, u1, u2] 25) := by
  have hmf : ∀ (fn : Fn) (first cap : Array Value) (w : World), (Instr.makeFunc fn first cap).run Tryz.prog w = .ok (.func fn first cap) w := fun _ _ _ _ => rfl
  go_enter Tryz.func69, Tryz.ntmps69
  go_wp2
  go_ret
  exact ⟨rfl, rfl⟩

theorem Blk.set10 {W : World} {g : Nat} {t : TypeId} {b0 b1 b2 b3 b4 b5 b6 b7 b8 b9 : Value} (h : Blk W g #[b0, b1, b2, b3, b4, b5, b6, b7, b8, b9] t) (a0 a1 a2 a3 a4 a5 a6 a7 a8 a9 : Value) :
    Blk ((((((((((W.setCell ⟨g, 0, none⟩ a0).setCell ⟨g, 1, none⟩ a1).setCell ⟨g, 2, none⟩ a2).setCell ⟨g, 3, none⟩ a3).setCell ⟨g, 4, none⟩ a4).setCell ⟨g, 5, none⟩ a5).setCell ⟨g, 6, none⟩ a6).setCell ⟨g, 7, none⟩ a7).setCell ⟨g, 8, none⟩ a8).setCell ⟨g, 9, none⟩ a9) g
      #[a0, a1, a2, a3, a4, a5, a6, a7, a8, a9] t := by
  have q := ((((((((((h.set 0 a0).set 1 a1).set 2 a2).set 3 a3).set 4 a4).set 5 a5).set 6 a6).set 7 a7).set 8 a8).set 9 a9)
  simpa using q
theorem far10 {P : World → Prop} {W : World} {g : Nat} (hP : ∀ w, P w → ∀ j u, P (w.setCell ⟨g, j, none⟩ u)) (h : P W) (a0 a1 a2 a3 a4 a5 a6 a7 a8 a9 : Value) :
    P ((((((((((W.setCell ⟨g, 0, none⟩ a0).setCell ⟨g, 1, none⟩ a1).setCell ⟨g, 2, none⟩ a2).setCell ⟨g, 3, none⟩ a3).setCell ⟨g, 4, none⟩ a4).setCell ⟨g, 5, none⟩ a5).setCell ⟨g, 6, none⟩ a6).setCell ⟨g, 7, none⟩ a7).setCell ⟨g, 8, none⟩ a8).setCell ⟨g, 9, none⟩ a9) :=
  hP _ (hP _ (hP _ (hP _ (hP _ (hP _ (hP _ (hP _ (hP _ (hP _ h 0 a0) 1 a1) 2 a2) 3 a3) 4 a4) 5 a5) 6 a6) 7 a7) 8 a8) 9 a9

/-- The nought of a fit. -/
abbrev zeroFt : Array Value := #[.slice none 0 0, .slice none 0 0, .int .i64 0, .int .i64 0, .slice none 0 0, .slice none 0 0, .int .i64 0, .int .i64 0, .slice none 0 0, .slice none 0 0]
abbrev aggFt (x : Ft) : Array Value := #[.slice x.A x.c.ms.length x.a, .slice x.B x.c.th.length x.b, .int .i64 x.c.p.k, .int .i64 x.c.p.h, .slice x.C x.c.p.a.length x.k, .slice x.D x.c.cs.length x.d, .int .i64 x.c.r.k, .int .i64 x.c.r.h, .slice x.E x.c.r.a.length x.l, .slice x.R x.rho.length x.n]
/-- What find tells: no clause and an error, or one that reads so. -/
def FindC (S : Nat → Prop) (r : Except Int (Cs × List Tm)) (v : Array Value) (x : Int) (W : World) : Prop :=
  (r = .error x ∧ x ≠ 0 ∧ v = zeroFt) ∨ ∃ X : Ft, r = .ok (X.c, X.rho) ∧ x = 0 ∧ v = aggFt X ∧ HasF S (fun _ => True) X W
/-- What tells cells lasts where all cells do. -/
structure LastsZ {α : Type} (E : (Nat → Prop) → World → List Value → α → Prop) : Prop where
  step : ∀ {S : Nat → Prop} {w w' : World} {cs : List Value} {x : α}, Kz w w' → E S w cs x → E S w' cs x
theorem Row.kz {α : Type} {E : (Nat → Prop) → World → List Value → α → Prop} (hE : LastsZ E) {sz : Nat} {S : Nat → Prop} {w w' : World} (k : Kz w w') {A : Option Addr} {xs : List α} (h : Row E sz S w A xs) : Row E sz S w' A xs := by
  refine ⟨h.1, fun i hi => ?_⟩
  obtain ⟨ad, cs, h1, h2, h3, h4, h5, h6⟩ := h.2 i hi
  exact ⟨ad, cs, h1, h2, h3, h4, fun j u hu => k.cell (fun q => q) (h5 j u hu), hE.step k h6⟩
theorem Reads.kz {S : Nat → Prop} {w w' : World} (k : Kz w w') {A : Option Addr} {ts : List Tm} (h : Reads S w A ts) : Reads S w' A ts := h.kc k (fun _ q => q.elim)
theorem lastsZ_M : LastsZ eM := ⟨fun k ⟨A, c, B, d, h1, h2, h3, h4, h5⟩ => ⟨A, c, B, d, h1, h2, h3.kz k, h4, h5.kz k⟩⟩
theorem lastsZ_C : LastsZ eC := ⟨fun k ⟨A, c, B, d, C, e, h1, h2, h3, h4, h5, h6, h7⟩ => ⟨A, c, B, d, C, e, h1, h2, h3.kz k, h4, h5.kz k, h6, h7.kz k⟩⟩
theorem lastsZ_K : LastsZ eK := ⟨fun k ⟨A, a, B, b, C, c, D, d, E, e, h0, h1, h2, h3, h4, h5⟩ =>
  ⟨A, a, B, b, C, c, D, d, E, e, h0, ⟨h1.1, h1.2.kz lastsZ_M k⟩, ⟨h2.1, h2.2.kz k⟩, ⟨h3.1, h3.2.kz k⟩, ⟨h4.1, h4.2.kz lastsZ_C k⟩, ⟨h5.1, h5.2.kz k⟩⟩⟩
theorem HasF.kz {S : Nat → Prop} {G : Cs × List Tm × Int → Prop} {x : Ft} {A B : World} (k : Kz A B) (h : HasF S G x A) : HasF S G x B := by
  obtain ⟨h1, h2, h3, h4⟩ := h
  exact ⟨h1, lastsZ_K.step k h2, h3.kz k, h4⟩
theorem FindC.kz {S : Nat → Prop} {r : Except Int (Cs × List Tm)} {v : Array Value} {x : Int} {A B : World} (k : Kz A B) (h : FindC S r v x A) : FindC S r v x B := by
  rcases h with h | ⟨X, h1, h2, h3, h4⟩
  · exact .inl h
  · exact .inr ⟨X, h1, h2, h3, h4.kz k⟩
theorem Blk.kz {W W' : World} {g : Nat} {cs : Array Value} {t : TypeId} (k : Kz W W') (h : Blk W g cs t) : Blk W' g cs t := h.kc k (fun q => q)
theorem boxed_kz {W W' : World} {g : Nat} {v : Value} {t : TypeId} (k : Kz W W') (h : Boxed W g t v) : Boxed W' g t v := Blk.kz k h

/-- The same list, told of as a row. -/
def RetLC (S : Nat → Prop) (r : Except Int (List Tm)) (B : Option Addr) (n d : Nat) (x : Int) (w' : World) : Prop :=
  (r = .error x ∧ x ≠ 0 ∧ B = none ∧ n = 0 ∧ d = 0) ∨ ∃ us, r = .ok us ∧ x = 0 ∧ n = us.length ∧ us.length ≤ d ∧ Reads S w' B us
theorem RetQL.open {S : Nat → Prop} {r : Except Int (List Tm)} {w : World} {e : Ending} {w' : World} (q : RetQL S r w e w') : Below w.heap.size w w' ∧ ∃ B n d x, e = .returned (.tuple #[.slice B n d, .int .i64 x]) ∧ RetLC S r B n d x w' := by
  obtain ⟨hb, q⟩ := q
  refine ⟨hb, ?_⟩
  rcases q with ⟨x, h1, h2, rfl⟩ | ⟨us, B, c, h1, rfl, h2, h3⟩
  · exact ⟨none, 0, 0, x, rfl, .inl ⟨h1, h2, rfl, rfl, rfl⟩⟩
  · exact ⟨B, _, c, 0, rfl, .inr ⟨us, h1, rfl, rfl, h2, h3⟩⟩

theorem HasF.th {S : Nat → Prop} {G : Cs × List Tm × Int → Prop} {x : Ft} {W : World} (h : HasF S G x W) : x.c.th.length ≤ x.b ∧ Reads S W x.B x.c.th := by
  obtain ⟨-, ⟨A, a, B, b, C, c, D, d, E, e, h0, -, h2, -⟩, -⟩ := h
  simp only [List.cons.injEq, Value.slice.injEq] at h0
  obtain ⟨-, ⟨rfl, -, rfl⟩, -⟩ := h0
  exact h2
theorem HasF.step {S S' : Nat → Prop} {G : Cs × List Tm × Int → Prop} {x : Ft} {W W' : World} (hS : ∀ k, k < W.heap.size → ¬ S k → ¬ S' k) (hb : ∀ k, k < W.heap.size → ¬ S k → W'.heap[k]? = W.heap[k]?) (h : HasF S G x W) : HasF S' (fun _ => True) x W' :=
  ⟨trivial, lasts_K.step hS hb h.2.1, h.2.2.1.step hS hb, h.2.2.2⟩
theorem sizesV_len (l : List Md) : (sizesV l).length = l.length := by simp [sizesV]
theorem far_heap {W : World} {p : Addr} {u : Value} {S : Nat → Prop} (hp : S p.block) : ∀ k, ¬ S k → (W.setCell p u).heap[k]? = W.heap[k]? := fun k hk => Below.heap_setCell W p u k (fun e => hk (e ▸ hp))

/-- What is asked of a function, of terms for its metas, of a term. -/
structure FindOk (B : Int) (f : Fu) (m : Tm) : Prop where
  b0 : 0 ≤ B
  top : B + stepB * 4000 ≤ 1152921504606846976
  psi : f.psi.length ≤ 1048576
  cl : ClOk f.cl m f.psi.length
  th : ∀ c ∈ f.cl, ∀ t ∈ c.th, (mayB t = true → hB B t) ∧ cnt t ≤ 1048576
  rho : ∀ c ∈ f.cl, ∀ r, fitV f.psi.length m c = some r → ∀ t ∈ r.1, (mayB t = true → hB B t) ∧ cnt t ≤ 1048576

section
variable {del : List Md} {theta : List Tm} {x : Ft} (l : List (Cs × List Tm × Int))
theorem findL_bad (h : ¬ x.e = 0) : findL del theta (prF x :: l) = .error x.e := by unfold prF; rw [findL]; simp [h]
theorem findL_err (h : x.e = 0) {e : Int} (q : AllV x.c.th x.rho (sizesV del) = .error e) : findL del theta (prF x :: l) = .error e := by unfold prF; rw [findL]; simp [h, q]
theorem findL_hit (h : x.e = 0) {own : List Tm} (q : AllV x.c.th x.rho (sizesV del) = .ok own) (hs : sameL own theta = true) : findL del theta (prF x :: l) = .ok (x.c, x.rho) := by unfold prF; rw [findL]; simp [h, q, hs]
theorem findL_skip (h : x.e = 0) {own : List Tm} (q : AllV x.c.th x.rho (sizesV del) = .ok own) (hs : sameL own theta = false) : findL del theta (prF x :: l) = findL del theta l := by unfold prF; rw [findL]; simp [h, q, hs]
end
theorem res_fit {fn : Func} {p u : Tmp} (h : fn.results = #[.cell p 95, .cell u 30]) (tmps : Array Value) (W : World) (g gu : Nat) (v0 v1 v2 v3 v4 v5 v6 v7 v8 v9 y : Value) (hp : tmps[p]?.getD undef = .pointer (some ⟨g, 0, none⟩)) (hu : tmps[u]?.getD undef = .pointer (some ⟨gu, 0, none⟩))
    (hb : Blk W g #[v0, v1, v2, v3, v4, v5, v6, v7, v8, v9] 95) (hy : Boxed W gu 30 y) :
    (results fn tmps).run Tryz.prog W = .ok (.tuple #[.agg #[v0, v1, v2, v3, v4, v5, v6, v7, v8, v9], y]) W := by
  have q0 := hb.cell 0
  have q1 := hb.cell 1
  have q2 := hb.cell 2
  have q3 := hb.cell 3
  have q4 := hb.cell 4
  have q5 := hb.cell 5
  have q6 := hb.cell 6
  have q7 := hb.cell 7
  have q8 := hb.cell 8
  have q9 := hb.cell 9
  have qy := hy.cell
  simp [results, h, hp, hu, go_sem, q0, q1, q2, q3, q4, q5, q6, q7, q8, q9, qy]

structure FdI (f : Fu) (theta : List Tm) (fc : Array Value) (tv : Value) (w : World) (n : Nat) (pre : List Ft) (W : World) : Prop where
  b3 : Blk W w.heap.size fc 39
  b4 : Boxed W (w.heap.size + 1) 23 tv
  b6 : Blk W (w.heap.size + 1 + 1 + 1) zeroFt 95
  b7 : Boxed W (w.heap.size + 1 + 1 + 1 + 1) 30 (.int .i64 0)
  below : Below w.heap.size w W
  seen : ∀ l', findL f.del theta (pre.map prF ++ l') = findL f.del theta l'
  sz : n ≤ W.heap.size
structure FdX (S : Nat → Prop) (f : Fu) (theta : List Tm) (w : World) (c : Code) (pre : List Ft) (W : World) : Prop where
  ret : c = .ret
  out : ∃ v0 v1 v2 v3 v4 v5 v6 v7 v8 v9 x, Blk W (w.heap.size + 1 + 1 + 1) #[v0, v1, v2, v3, v4, v5, v6, v7, v8, v9] 95 ∧ Boxed W (w.heap.size + 1 + 1 + 1 + 1) 30 (.int .i64 x) ∧ ∀ l', FindC S (findL f.del theta (pre.map prF ++ l')) #[v0, v1, v2, v3, v4, v5, v6, v7, v8, v9] x W
  below : Below w.heap.size w W
theorem FdI.kw {f : Fu} {theta : List Tm} {fc : Array Value} {tv : Value} {w : World} {pre : List Ft} {n : Nat} (hn : w.heap.size ≤ n) {A B : World} (h : FdI f theta fc tv w n pre A) (k : Kw n A B) : FdI f theta fc tv w n pre B :=
  ⟨h.b3.kz k.cells, boxed_kz k.cells h.b4, h.b6.kz k.cells, boxed_kz k.cells h.b7, h.below.trans (k.below.mono hn), h.seen, Nat.le_trans h.sz k.cells.size⟩
theorem FdX.kw {S : Nat → Prop} {f : Fu} {theta : List Tm} {w : World} {c : Code} {pre : List Ft} {n : Nat} (hn : w.heap.size ≤ n) {A B : World} (h : FdX S f theta w c pre A) (k : Kw n A B) : FdX S f theta w c pre B := by
  obtain ⟨h1, ⟨v0, v1, v2, v3, v4, v5, v6, v7, v8, v9, x, h2, h3, h4⟩, h5⟩ := h
  exact ⟨h1, ⟨v0, v1, v2, v3, v4, v5, v6, v7, v8, v9, x, h2.kz k.cells, boxed_kz k.cells h3, fun l' => (h4 l').kz k.cells⟩, h5.trans (k.below.mono hn)⟩

/-- What a round leaves that writes the answer. -/
abbrev ansW (W : World) (g : Nat) (a0 a1 a2 a3 a4 a5 a6 a7 a8 a9 y : Value) : World :=
  ((((((((((W.setCell ⟨g, 0, none⟩ a0).setCell ⟨g, 1, none⟩ a1).setCell ⟨g, 2, none⟩ a2).setCell ⟨g, 3, none⟩ a3).setCell ⟨g, 4, none⟩ a4).setCell ⟨g, 5, none⟩ a5).setCell ⟨g, 6, none⟩ a6).setCell ⟨g, 7, none⟩ a7).setCell ⟨g, 8, none⟩ a8).setCell ⟨g, 9, none⟩ a9).setCell ⟨g + 1, 0, none⟩ y
theorem ans_keeps {n : Nat} {A W : World} (h : Below A.heap.size A W) (g : Nat) (a0 a1 a2 a3 a4 a5 a6 a7 a8 a9 y : Value) : KeepsFrom n A (ansW W g a0 a1 a2 a3 a4 a5 a6 a7 a8 a9 y) :=
  (far10 (P := KeepsFrom n A) (fun V hv j u => hv.trans ((KeepsOthers.setCell _ _ _).from _)) (kf_of_below h) _ _ _ _ _ _ _ _ _ _).trans ((KeepsOthers.setCell _ _ _).from _)
theorem ans_below {w W : World} (h : Below w.heap.size w W) {g : Nat} (hg : w.heap.size ≤ g) (a0 a1 a2 a3 a4 a5 a6 a7 a8 a9 y : Value) : Below w.heap.size w (ansW W g a0 a1 a2 a3 a4 a5 a6 a7 a8 a9 y) :=
  bl_set (far10 (P := Below w.heap.size w) (fun V hv j u => bl_set hv (p := ⟨g, j, none⟩) hg u) h _ _ _ _ _ _ _ _ _ _) (p := ⟨g + 1, 0, none⟩) (Nat.le_succ_of_le hg) y
theorem ans_blk {W : World} {g : Nat} {t : TypeId} {b0 b1 b2 b3 b4 b5 b6 b7 b8 b9 : Value} (h : Blk W g #[b0, b1, b2, b3, b4, b5, b6, b7, b8, b9] t) (a0 a1 a2 a3 a4 a5 a6 a7 a8 a9 y : Value) : Blk (ansW W g a0 a1 a2 a3 a4 a5 a6 a7 a8 a9 y) g #[a0, a1, a2, a3, a4, a5, a6, a7, a8, a9] t :=
  (h.set10 a0 a1 a2 a3 a4 a5 a6 a7 a8 a9).far (p := ⟨g + 1, 0, none⟩) (by simp) y
theorem ans_box {W : World} {g : Nat} {t : TypeId} {v : Value} (h : Boxed W (g + 1) t v) (a0 a1 a2 a3 a4 a5 a6 a7 a8 a9 y : Value) : Boxed (ansW W g a0 a1 a2 a3 a4 a5 a6 a7 a8 a9 y) (g + 1) t y :=
  Boxed.set y (far10 (P := fun V => Boxed V (g + 1) t v) (fun V hv j u => Blk.far hv (p := ⟨g, j, none⟩) (by simp) u) h _ _ _ _ _ _ _ _ _ _)
theorem ans_heap {W : World} {g : Nat} {S : Nat → Prop} (h0 : S g) (h1 : S (g + 1)) (a0 a1 a2 a3 a4 a5 a6 a7 a8 a9 y : Value) (k : Nat) (hk : ¬ S k) : (ansW W g a0 a1 a2 a3 a4 a5 a6 a7 a8 a9 y).heap[k]? = W.heap[k]? :=
  (far_heap (S := S) (p := ⟨g + 1, 0, none⟩) h1 k hk).trans (far10 (P := fun V => V.heap[k]? = W.heap[k]?) (fun V hv j u => (far_heap (S := S) (p := ⟨g, j, none⟩) h0 k hk).trans hv) rfl _ _ _ _ _ _ _ _ _ _)

set_option maxRecDepth 100000 in
set_option maxHeartbeats 16000000 in
theorem find_calls (S : Nat → Prop) (B0 : Int) (f : Fu) (theta : List Tm) (m : Tm) (A : Option Addr) (a : Nat) (B : Option Addr) (b : Nat) (C : Option Addr) (c : Nat) (D : Option Addr) (d : Nat) (E : Option Addr) (e : Nat) (F : Option Addr) (k : Nat) (G : Option Addr) (g : Nat) (T : Option Addr) (ct : Nat) (M : Option Addr) (cm : Nat) (w : World) (hSS : ∀ k, S k → k < w.heap.size)
    (hok : FindOk B0 f m) (hdel : Row eM 5 (fun _ => False) w B f.del) (hcl : Row eK 9 S w G f.cl) (hT : Reads (fun _ => False) w T theta) (hct : theta.length ≤ ct) (hM : Reads (fun _ => False) w M m.a) (hcm : m.a.length ≤ cm) :
    Calls Tryz.prog 52 #[.agg (cellsF f A a B b C c D d E e F k G g), .slice T theta.length ct, .agg #[.int .i64 m.k, .int .i64 m.h, .slice M m.a.length cm]] w fun en w' =>
      Below w.heap.size w w' ∧ ∃ v x, en = .returned (.tuple #[.agg v, .int .i64 x]) ∧ FindC S (findV f theta m) v x w' := by
  obtain ⟨FC, hFC⟩ : ∃ FC, cellsF f A a B b C c D d E e F k G g = FC := ⟨_, rfl⟩
  have hb : Below w.heap.size w (((((w.alloc (.cells (cellsF f A a B b C c D d E e F k G g) 39)).alloc (.cells #[.slice T theta.length ct] 23)).alloc (.cells #[.int .i64 m.k, .int .i64 m.h, .slice M m.a.length cm] 25)).alloc (.cells zeroFt 95)).alloc (.cells #[.int .i64 0] 30)) := bl_alloc (bl_alloc (bl_alloc (bl_alloc (bl_alloc (Below.refl _ _) _) _) _) _) _
  have e3 : Blk (((((w.alloc (.cells (cellsF f A a B b C c D d E e F k G g) 39)).alloc (.cells #[.slice T theta.length ct] 23)).alloc (.cells #[.int .i64 m.k, .int .i64 m.h, .slice M m.a.length cm] 25)).alloc (.cells zeroFt 95)).alloc (.cells #[.int .i64 0] 30)) w.heap.size (cellsF f A a B b C c D d E e F k G g) 39 := ((((Blk.nw _ _ _ _ rfl).al _).al _).al _).al _
  have e4 : Boxed (((((w.alloc (.cells (cellsF f A a B b C c D d E e F k G g) 39)).alloc (.cells #[.slice T theta.length ct] 23)).alloc (.cells #[.int .i64 m.k, .int .i64 m.h, .slice M m.a.length cm] 25)).alloc (.cells zeroFt 95)).alloc (.cells #[.int .i64 0] 30)) (w.heap.size + 1) 23 (.slice T theta.length ct) := (((Blk.nw _ _ _ _ (by simp)).al _).al _).al _
  have e5 : Blk (((((w.alloc (.cells (cellsF f A a B b C c D d E e F k G g) 39)).alloc (.cells #[.slice T theta.length ct] 23)).alloc (.cells #[.int .i64 m.k, .int .i64 m.h, .slice M m.a.length cm] 25)).alloc (.cells zeroFt 95)).alloc (.cells #[.int .i64 0] 30)) (w.heap.size + 1 + 1) #[.int .i64 m.k, .int .i64 m.h, .slice M m.a.length cm] 25 := ((Blk.nw _ _ _ _ (by simp)).al _).al _
  have e6 : Blk (((((w.alloc (.cells (cellsF f A a B b C c D d E e F k G g) 39)).alloc (.cells #[.slice T theta.length ct] 23)).alloc (.cells #[.int .i64 m.k, .int .i64 m.h, .slice M m.a.length cm] 25)).alloc (.cells zeroFt 95)).alloc (.cells #[.int .i64 0] 30)) (w.heap.size + 1 + 1 + 1) zeroFt 95 := (Blk.nw _ _ _ _ (by simp)).al _
  have e7 : Boxed (((((w.alloc (.cells (cellsF f A a B b C c D d E e F k G g) 39)).alloc (.cells #[.slice T theta.length ct] 23)).alloc (.cells #[.int .i64 m.k, .int .i64 m.h, .slice M m.a.length cm] 25)).alloc (.cells zeroFt 95)).alloc (.cells #[.int .i64 0] 30)) (w.heap.size + 1 + 1 + 1 + 1) 30 (.int .i64 0) := Blk.nw _ _ _ _ (by simp)
  obtain ⟨W0, hW0⟩ : ∃ W0, (((((w.alloc (.cells (cellsF f A a B b C c D d E e F k G g) 39)).alloc (.cells #[.slice T theta.length ct] 23)).alloc (.cells #[.int .i64 m.k, .int .i64 m.h, .slice M m.a.length cm] 25)).alloc (.cells zeroFt 95)).alloc (.cells #[.int .i64 0] 30)) = W0 := ⟨_, rfl⟩
  have hsz : W0.heap.size = w.heap.size + 5 := by rw [← hW0]; simp
  rw [hW0] at hb e3 e4 e5 e6 e7
  refine (callsIn_wide (n := 9)).1 ?_
  dsimp only [cellsF] at hW0 e3 ⊢
  have f0 := e3.cell 0
  have f1 := e3.cell 1
  have f2 := e3.cell 2
  have f3 := e3.cell 3
  have f4 := e3.cell 4
  have f5 := e3.cell 5
  have f6 := e3.cell 6
  have f7 := e3.cell 7
  have f8 := e3.cell 8
  have f9 := e3.cell 9
  have f10 := e3.cell 10
  have f11 := e3.cell 11
  have f12 := e3.cell 12
  have m0 := e5.cell 0
  have m1 := e5.cell 1
  have m2 := e5.cell 2
  have HE := Lib.hid (And.intro e3 (And.intro e4 (And.intro e6 e7)))
  have HB := Lib.hid hb
  have HSZ := Lib.hid hsz
  clear e3 e4 e5 e6 e7 hb hsz hFC FC
  refine callsIn_of_wp_marks Tryz.func52 rfl trivial ?_ rfl
  simp only [Tryz.ntmps52, List.size_toArray, List.length_cons, List.length_nil, Nat.reduceAdd, Nat.reduceSub, Array.replicate_succ, Array.replicate_zero, List.push_toArray, List.append_toArray, List.nil_append, List.cons_append]
  gi_wp2_with (refine ⟨trivial, ?_⟩; gi_at_call 69; refine (callsIn_wide.2 (fits_calls _ _ _ _ _ _ _ _ _ _ _ _ _ _ _ _ _)).mono ?_; rintro e w' ⟨rfl, rfl⟩)
  clear f0 f1 f2 f3 f4 f5 f6 f7 f8 f9 f10 f11 f12 m0 m1 m2 hW0
  have hbl2 : Below W0.heap.size W0 ((W0.alloc (.cells (cellsF f A a B b C c D d E e F k G g) 39)).alloc (.cells #[.int .i64 m.k, .int .i64 m.h, .slice M m.a.length cm] 25)) := bl_alloc (bl_alloc (Below.refl _ _) _) _
  have g5 : Blk ((W0.alloc (.cells (cellsF f A a B b C c D d E e F k G g) 39)).alloc (.cells #[.int .i64 m.k, .int .i64 m.h, .slice M m.a.length cm] 25)) W0.heap.size (cellsF f A a B b C c D d E e F k G g) 39 := (Blk.nw _ _ _ _ rfl).al _
  have g6 : Blk ((W0.alloc (.cells (cellsF f A a B b C c D d E e F k G g) 39)).alloc (.cells #[.int .i64 m.k, .int .i64 m.h, .slice M m.a.length cm] 25)) (W0.heap.size + 1) #[.int .i64 m.k, .int .i64 m.h, .slice M m.a.length cm] 25 := Blk.nw _ _ _ _ (by simp)
  have hsz2 : ((W0.alloc (.cells (cellsF f A a B b C c D d E e F k G g) 39)).alloc (.cells #[.int .i64 m.k, .int .i64 m.h, .slice M m.a.length cm] 25)).heap.size = W0.heap.size + 2 := by simp
  obtain ⟨W1, hW1⟩ : ∃ W1, ((W0.alloc (.cells (cellsF f A a B b C c D d E e F k G g) 39)).alloc (.cells #[.int .i64 m.k, .int .i64 m.h, .slice M m.a.length cm] 25)) = W1 := ⟨_, rfl⟩
  dsimp only [cellsF] at hbl2 g5 g6 hsz2 hW1 ⊢
  rw [hW1] at hbl2 g5 g6 hsz2 ⊢
  clear hW1
  obtain ⟨e3, e4, e6, e7⟩ := HE.out
  generalize Value.agg #[.string f.nm, .slice A f.sch.length a, .slice B f.del.length b, .slice C f.psi.length c, .int .i64 f.a.k, .int .i64 f.a.h, .slice D f.a.a.length d, .slice E f.phi.length e, .int .i64 f.b.k, .int .i64 f.b.h, .slice F f.b.a.length k, .bool f.tot, .slice G f.cl.length g] = VF
  generalize Value.agg #[.int .i64 m.k, .int .i64 m.h, .slice M m.a.length cm] = VM
  have hb1 := bl_then HB.out hbl2
  have hn : w.heap.size ≤ W1.heap.size := hb1.size
  refine range_gives (by decide) (gf := 88) (lb := #[.pointer (some ⟨W0.heap.size, 0, none⟩), .pointer (some ⟨W0.heap.size + 1, 0, none⟩)]) rfl (enters_of Tryz.func88 (by kernel_rfl) rfl)
    (fits1_gives (fun k => S k ∨ (w.heap.size ≤ k ∧ k < w.heap.size + 5)) _ f m W0.heap.size (W0.heap.size + 1) _ _ _ _ _ _ _ _ _ _ _ C c G g M cm W1 (fun k q => by (have h1 := HSZ.out; have h2 := hb1.size; rcases q with q | q; (have := hSS k q; omega); omega)) g5 g6 (hcl.step lasts_K (by decide) (fun k hk hn q => by (rcases q with q | q; exact hn q; omega)) (fun k hk _ => hb1.block k hk)) ((hM.mov HB.out).mov hbl2) hcm hok.psi hok.cl (fun y => y.1 ∈ f.cl ∧ ∀ t ∈ y.2.1, (mayB t = true → hB B0 t) ∧ cnt t ≤ 1048576) (fun y hy r hr => ⟨hy, hok.rho y hy r hr⟩)) (fun _ => rfl)
    (FdI f theta (cellsF f A a B b C c D d E e F k G g) (.slice T theta.length ct) w W1.heap.size) (FdX S f theta w) (fun s A B h k => h.kw hn k) (fun c s A B h k => h.kw hn k)
    ⟨e3.mov hbl2, boxed_mov e4 hbl2, e6.mov hbl2, boxed_mov e7 hbl2, hb1, fun l' => rfl, Nat.le_refl _⟩ ?round ?done ?stop
  case round =>
    rintro l pre x W K hI hH hK
    have HK := Lib.hid hK
    have hI1 := Lib.hid hI.sz
    have HI := Lib.hid hI
    have HH := Lib.hid hH
    have hbx : Below W.heap.size W (W.alloc (.cells (aggFt x) 95)) := bl_alloc (Below.refl _ _) _
    have ex := Blk.new W (aggFt x) 95
    have HBX := Lib.hid hbx
    have EX := Lib.hid ex
    clear hK hI hH hbx ex
    gi_wp2_with fail
    refine HK.out _ _ HBX.out (fun W2 hk2 => ?_)
    clear HK
    have hx2 : Kw W1.heap.size W W2 := (Kw.of hI1.out HBX.out).trans hk2
    have hi2 := HI.out.kw hn hx2
    have hh2 := HH.out.kz hx2.cells
    have ex2 := EX.out.kz hk2.cells
    have hw2 := hi2.below
    have hz2 := hi2.b7.lt
    have c1 := ex2.cell 1
    have c9 := ex2.cell 9
    have d2 := hi2.b3.cell 2
    have hmix : Tryz.prog.follows .mixedOrders = true := by kernel_rfl
    have hth := HasF.th hh2
    obtain ⟨⟨hcm, hrg⟩, -, hrr, hrn⟩ := hh2
    have HSI := Lib.hid (fun (W : World) (hb : Below W2.heap.size W2 W) => Sizes_calls f.del B b W ((hdel.mov lasts_M (by decide) hw2).mov lasts_M (by decide) hb))
    have HAL := Lib.hid (fun (W : World) (hb : Below W2.heap.size W2 W) (N : Option Addr) (dn : Nat) (hN : RdI (fun _ => False) W N (sizesV f.del)) =>
      (by have h := All_calls (fun _ => False) x.c.th x.rho (sizesV f.del) x.B x.b x.R x.n N dn W hrn B0 hok.b0 hok.top (fun _ q => q.elim) ((hth.2.less (fun _ q => q.elim)).mov hb) ((hrr.less (fun _ q => q.elim)).mov hb).toE hN (hok.th _ hcm) hrg
          rw [sizesV_len] at h
          exact h : Calls Tryz.prog 22 #[.slice x.B x.c.th.length x.b, .slice x.R x.rho.length x.n, .slice N f.del.length dn] W (RetQL (fun _ => False) (AllV x.c.th x.rho (sizesV f.del)) W)))
    have HSE := Lib.hid hi2.seen
    have HI2 := Lib.hid hi2
    have HX2 := Lib.hid ex2
    have HHS := Lib.hid (HasF.kz hx2.cells HH.out)
    have HT2 := Lib.hid (fun (W : World) (hb : Below W2.heap.size W2 W) => (hT.mov hw2).mov hb)
    clear HH HI HBX EX hI1 hx2 hi2 hk2 ex2 hcm hrg hth hrr hrn
    by_cases he : x.e = 0
    · have he' : (x.e != 0) = false := by simp [he]
      obtain ⟨av, hav⟩ : ∃ av, AllV x.c.th x.rho (sizesV f.del) = av := ⟨_, rfl⟩
      rw [hav] at HAL
      have HE0 := Lib.hid he
      have HAV := Lib.hid hav
      clear he hav
      gi_wp2_with fail
      generalize Value.agg #[.slice x.A x.c.ms.length x.a, .slice x.B x.c.th.length x.b, .int .i64 x.c.p.k, .int .i64 x.c.p.h, .slice x.C x.c.p.a.length x.k, .slice x.D x.c.cs.length x.d, .int .i64 x.c.r.k, .int .i64 x.c.r.h, .slice x.E x.c.r.a.length x.l, .slice x.R x.rho.length x.n] = VX
      gi_cut [10, 11] from 20 (fun s10 s11 wx => ∃ B n d y, s10 = .slice B n d ∧ s11 = .int .i64 y ∧ Below W2.heap.size W2 wx ∧ RetLC (fun _ => False) av B n d y wx)
      case first =>
        refine region_round (fun V => Below W2.heap.size W2 V ∧ V.cell? ⟨W.heap.size, 1, none⟩ = some (.slice x.B x.c.th.length x.b) ∧ V.cell? ⟨W.heap.size, 9, none⟩ = some (.slice x.R x.rho.length x.n) ∧ V.cell? ⟨w.heap.size, 2, none⟩ = some (.slice B f.del.length b)) (by kernel_rfl) rfl (fun ⟨_, _, q⟩ => q) ⟨(Below.refl _ _).drew, c1, c9, d2⟩ (fun hHeld => ?_)
        refine wpAnyH_take (i := 0) (v := ?_) rfl (by kernel_rfl) (by kernel_rfl) (by kernel_rfl) (fun _ _ _ h => h) (Or.inl ⟨by rfl, ?_⟩) (by assumption) ?_
        rotate_left
        · intro w hSw
          obtain ⟨-, s1, s9, s2⟩ := hSw
          go_simp
          try with_reducible rfl
        (try simp only [Act.put, List.getElem_toArray, List.getElem_cons_succ, List.getElem_cons_zero, List.setIfInBounds_toArray, List.set_cons_zero, List.set_cons_succ])
        refine wpAnyH_take (i := 1) (v := ?_) rfl (by kernel_rfl) (by kernel_rfl) (by kernel_rfl) (fun _ _ _ h => h) (Or.inl ⟨by rfl, ?_⟩) (by assumption) ?_
        rotate_left
        · intro w hSw
          obtain ⟨-, s1, s9, s2⟩ := hSw
          go_simp
          try with_reducible rfl
        (try simp only [Act.put, List.getElem_toArray, List.getElem_cons_succ, List.getElem_cons_zero, List.setIfInBounds_toArray, List.set_cons_zero, List.set_cons_succ])
        refine wpAnyH_take (i := 2) (v := ?_) rfl (by kernel_rfl) (by kernel_rfl) (by kernel_rfl) (fun _ _ _ h => h) (Or.inl ⟨by rfl, ?_⟩) (by assumption) ?_
        rotate_left
        · intro w hSw
          obtain ⟨-, s1, s9, s2⟩ := hSw
          go_simp
          try with_reducible rfl
        (try simp only [Act.put, List.getElem_toArray, List.getElem_cons_succ, List.getElem_cons_zero, List.setIfInBounds_toArray, List.set_cons_zero, List.set_cons_succ])
        refine wpAnyH_take (i := 3) (v := ?_) rfl (by kernel_rfl) (by kernel_rfl) (by kernel_rfl) (fun _ _ _ h => h) (Or.inl ⟨by rfl, ?_⟩) (by assumption) ?_
        rotate_left
        · intro w hSw
          obtain ⟨-, s1, s9, s2⟩ := hSw
          go_simp
          try with_reducible rfl
        (try simp only [Act.put, List.getElem_toArray, List.getElem_cons_succ, List.getElem_cons_zero, List.setIfInBounds_toArray, List.set_cons_zero, List.set_cons_succ])
        refine wpAnyH_take (i := 4) (v := ?_) rfl (by kernel_rfl) (by kernel_rfl) (by kernel_rfl) (fun _ _ _ h => h) (Or.inl ⟨by rfl, ?_⟩) (by assumption) ?_
        rotate_left
        · intro w hSw
          obtain ⟨-, s1, s9, s2⟩ := hSw
          go_simp
          try with_reducible rfl
        (try simp only [Act.put, List.getElem_toArray, List.getElem_cons_succ, List.getElem_cons_zero, List.setIfInBounds_toArray, List.set_cons_zero, List.set_cons_succ])
        refine wpAnyH_take (i := 5) (v := ?_) rfl (by kernel_rfl) (by kernel_rfl) (by kernel_rfl) (fun _ _ _ h => h) (Or.inl ⟨by rfl, ?_⟩) (by assumption) ?_
        rotate_left
        · intro w hSw
          obtain ⟨-, s1, s9, s2⟩ := hSw
          go_simp
          try with_reducible rfl
        (try simp only [Act.put, List.getElem_toArray, List.getElem_cons_succ, List.getElem_cons_zero, List.setIfInBounds_toArray, List.set_cons_zero, List.set_cons_succ])
        refine wpAnyH_take (i := 6) (v := ?_) rfl (by kernel_rfl) (by kernel_rfl) (by kernel_rfl) (fun _ _ _ h => h) (Or.inl ⟨by rfl, ?_⟩) (by assumption) ?_
        rotate_left
        · intro w hSw
          obtain ⟨-, s1, s9, s2⟩ := hSw
          go_simp
          try with_reducible rfl
        (try simp only [Act.put, List.getElem_toArray, List.getElem_cons_succ, List.getElem_cons_zero, List.setIfInBounds_toArray, List.set_cons_zero, List.set_cons_succ])
        refine wpAnyH_ready (rs := [7]) (by kernel_rfl) (by simp) (AllReadyH.cons rfl (fun K hK => ?_) AllReadyH.nil)
        rw [if_pos (by rfl)]
        go_simp
        go_at_call 23
        refine (HSI.out _ (Below.refl _ _).drew).mono ?_
        rintro e3 w3 ⟨hb3, BS, dS, rfl, hdS, hrS⟩
        have hx3 := bl_undrew hb3
        clear HSI
        refine hK.out _ _ ⟨hx3, (HX2.out.mov hx3).cell 1, (HX2.out.mov hx3).cell 9, (HI2.out.b3.mov hx3).cell 2⟩ (fun hHeld => ?_)
        clear hK K
        (try simp only [Act.put, List.getElem_toArray, List.getElem_cons_succ, List.getElem_cons_zero, List.setIfInBounds_toArray, List.set_cons_zero, List.set_cons_succ])
        refine wpAnyH_ready (rs := [8]) (by kernel_rfl) (by simp) (AllReadyH.cons rfl (fun K hK => ?_) AllReadyH.nil)
        rw [if_pos (by rfl)]
        go_simp
        go_at_call 22
        refine (HAL.out _ hx3 _ _ hrS).mono ?_
        rintro e4 w4 q
        obtain ⟨hb4, B4, n4, d4, y4, rfl, hrl⟩ := q.open
        have hx4 := bl_then hx3 hb4
        clear HAL q
        refine hK.out _ _ ⟨hx4, (HX2.out.mov hx4).cell 1, (HX2.out.mov hx4).cell 9, (HI2.out.b3.mov hx4).cell 2⟩ (fun hHeld => ?_)
        clear hK K
        (try simp only [Act.put, List.getElem_toArray, List.getElem_cons_succ, List.getElem_cons_zero, List.setIfInBounds_toArray, List.set_cons_zero, List.set_cons_succ])
        refine wpAnyH_take (i := 9) (v := ?_) rfl (by kernel_rfl) (by kernel_rfl) (by kernel_rfl) (fun _ _ _ h => h) (Or.inl ⟨by rfl, ?_⟩) (by assumption) ?_
        rotate_left
        · intro w hSw
          obtain ⟨-, s1, s9, s2⟩ := hSw
          go_simp
          try with_reducible rfl
        (try simp only [Act.put, List.getElem_toArray, List.getElem_cons_succ, List.getElem_cons_zero, List.setIfInBounds_toArray, List.set_cons_zero, List.set_cons_succ])
        refine wpAnyH_take (i := 10) (v := ?_) rfl (by kernel_rfl) (by kernel_rfl) (by kernel_rfl) (fun _ _ _ h => h) (Or.inl ⟨by rfl, ?_⟩) (by assumption) ?_
        rotate_left
        · intro w hSw
          obtain ⟨-, s1, s9, s2⟩ := hSw
          go_simp
          try with_reducible rfl
        (try simp only [Act.put, List.getElem_toArray, List.getElem_cons_succ, List.getElem_cons_zero, List.setIfInBounds_toArray, List.set_cons_zero, List.set_cons_succ])
        refine wpAnyH_take (i := 11) (v := ?_) rfl (by kernel_rfl) (by kernel_rfl) (by kernel_rfl) (fun _ _ _ h => h) (Or.inl ⟨by rfl, ?_⟩) (by assumption) ?_
        rotate_left
        · intro w hSw
          obtain ⟨-, s1, s9, s2⟩ := hSw
          go_simp
          try with_reducible rfl
        (try simp only [Act.put, List.getElem_toArray, List.getElem_cons_succ, List.getElem_cons_zero, List.setIfInBounds_toArray, List.set_cons_zero, List.set_cons_succ])
        refine wpAnyH_take (i := 12) (v := ?_) rfl (by kernel_rfl) (by kernel_rfl) (by kernel_rfl) (fun _ _ _ h => h) (Or.inl ⟨by rfl, ?_⟩) (by assumption) ?_
        rotate_left
        · intro w hSw
          obtain ⟨-, s1, s9, s2⟩ := hSw
          go_simp
          try with_reducible rfl
        (try simp only [Act.put, List.getElem_toArray, List.getElem_cons_succ, List.getElem_cons_zero, List.setIfInBounds_toArray, List.set_cons_zero, List.set_cons_succ])
        refine wpAnyH_take (i := 13) (v := ?_) rfl (by kernel_rfl) (by kernel_rfl) (by kernel_rfl) (fun _ _ _ h => h) (Or.inl ⟨by rfl, ?_⟩) (by assumption) ?_
        rotate_left
        · intro w hSw
          obtain ⟨-, s1, s9, s2⟩ := hSw
          go_simp
          try with_reducible rfl
        (try simp only [Act.put, List.getElem_toArray, List.getElem_cons_succ, List.getElem_cons_zero, List.setIfInBounds_toArray, List.set_cons_zero, List.set_cons_succ])
        refine wpAnyH_done (by kernel_rfl) ?_ _
        simp only [Exit.then]
        gi_step
        gi_meet
        exact ⟨_, _, _, _, rfl, rfl, hx4, hrl⟩
      case rest =>
        obtain ⟨B4, n4, d4, y4, rfl, rfl, hx4, hrl⟩ := hcut
        have b6 := HI2.out.b6.mov hx4
        have b7 := boxed_mov HI2.out.b7 hx4
        have hw4 := bl_then HI2.out.below hx4
        rcases hrl with ⟨rfl, hy0, rfl, rfl, rfl⟩ | ⟨own, rfl, rfl, rfl, hd4, hr4⟩
        · have hy' : (y4 != 0) = true := by simp [hy0]
          have zc0 := b6.cell 0
          have zc1 := b6.cell 1
          have zc2 := b6.cell 2
          have zc3 := b6.cell 3
          have zc4 := b6.cell 4
          have zc5 := b6.cell 5
          have zc6 := b6.cell 6
          have zc7 := b6.cell 7
          have zc8 := b6.cell 8
          have zc9 := b6.cell 9
          have zy := Boxed.cell b7
          have fz0 := b6.frozen 0
          have fz1 := b6.frozen 1
          have fz2 := b6.frozen 2
          have fz3 := b6.frozen 3
          have fz4 := b6.frozen 4
          have fz5 := b6.frozen 5
          have fz6 := b6.frozen 6
          have fz7 := b6.frozen 7
          have fz8 := b6.frozen 8
          have fz9 := b6.frozen 9
          have fy := Boxed.frozen b7
          have lz6 := b6.lt
          have lz7 := Boxed.lt b7
          have ne67 : w.heap.size + 1 + 1 + 1 ≠ w.heap.size + 1 + 1 + 1 + 1 := by omega
          have HY0 := Lib.hid hy0
          have H67 := Lib.hid (And.intro b6 b7)
          clear hy0 b6 b7
          gi_wp2_with fail
          refine ⟨ans_keeps hx4 _ _ _ _ _ _ _ _ _ _ _ _, rfl, ⟨_, _, _, _, _, _, _, _, _, _, y4, ans_blk H67.out.1 _ _ _ _ _ _ _ _ _ _ _, ans_box H67.out.2 _ _ _ _ _ _ _ _ _ _ _, fun l' => .inl ⟨?_, HY0.out, rfl⟩⟩, ans_below hw4 (by omega) _ _ _ _ _ _ _ _ _ _ _⟩
          rw [List.map_append, List.append_assoc, HSE.out]
          exact findL_err _ HE0.out HAV.out
        · have HEQ := Lib.hid (fun (W : World) (hb : Below wc.heap.size wc W) => EqualFunc_calls own theta B4 d4 T ct W (hr4.mov hb) ((HT2.out _ hx4).mov hb))
          obtain ⟨bs, hbs⟩ : ∃ b, sameL own theta = b := ⟨_, rfl⟩
          rw [hbs] at HEQ
          have HBS := Lib.hid hbs
          have t4 := (boxed_mov HI2.out.b4 hx4).cell
          clear hbs hr4
          cases bs
          · clear b6 b7
            gi_wp2_with (refine ⟨trivial, ?_⟩; gi_at_call 70; refine (CallsIn.inRound l (callsIn_wide.2 (HEQ.out _ (Below.refl _ _)))).mono ?_; clear HEQ; rintro e5 w5 ⟨rfl, hb5⟩)
            have hx5 := bl_then hx4 hb5
            have hk5 : Kw W1.heap.size W2 w5 := Kw.of HI2.out.sz hx5
            refine ⟨⟨kf_of_below hx5, hk5.below, hk5.cells⟩, ?_⟩
            have hi5 := HI2.out.kw hn hk5
            exact ⟨hi5.b3, hi5.b4, hi5.b6, hi5.b7, hi5.below, fun l' => by rw [List.map_append, List.append_assoc, HSE.out]; exact findL_skip _ HE0.out HAV.out HBS.out, hi5.sz⟩
          · gi_upto_region 10 with (refine ⟨trivial, ?_⟩; gi_at_call 70; refine (CallsIn.inRound l (callsIn_wide.2 (HEQ.out _ (Below.refl _ _)))).mono ?_; clear HEQ; rintro e5 w5 ⟨rfl, hb5⟩)
            have hx5 := bl_then hx4 hb5
            have e6 := b6.mov hb5
            have e7 := boxed_mov b7 hb5
            have p5 := HX2.out.mov hx5
            have q0 := p5.cell 0
            have q1 := p5.cell 1
            have q2 := p5.cell 2
            have q3 := p5.cell 3
            have q4 := p5.cell 4
            have q5 := p5.cell 5
            have q6 := p5.cell 6
            have q7 := p5.cell 7
            have q8 := p5.cell 8
            have q9 := p5.cell 9
            have zc0 := e6.cell 0
            have zc1 := e6.cell 1
            have zc2 := e6.cell 2
            have zc3 := e6.cell 3
            have zc4 := e6.cell 4
            have zc5 := e6.cell 5
            have zc6 := e6.cell 6
            have zc7 := e6.cell 7
            have zc8 := e6.cell 8
            have zc9 := e6.cell 9
            have zy := Boxed.cell e7
            have fz0 := e6.frozen 0
            have fz1 := e6.frozen 1
            have fz2 := e6.frozen 2
            have fz3 := e6.frozen 3
            have fz4 := e6.frozen 4
            have fz5 := e6.frozen 5
            have fz6 := e6.frozen 6
            have fz7 := e6.frozen 7
            have fz8 := e6.frozen 8
            have fz9 := e6.frozen 9
            have fy := Boxed.frozen e7
            have lz6 := e6.lt
            have lz7 := Boxed.lt e7
            have ne67 : w.heap.size + 1 + 1 + 1 ≠ w.heap.size + 1 + 1 + 1 + 1 := by omega
            have H67 := Lib.hid (And.intro e6 e7)
            clear e6 e7 p5 b6 b7 t4
            gi_wp2_with fail
            refine ⟨ans_keeps hx5 _ _ _ _ _ _ _ _ _ _ _ _, rfl, ⟨_, _, _, _, _, _, _, _, _, _, 0, ans_blk H67.out.1 _ _ _ _ _ _ _ _ _ _ _, ans_box H67.out.2 _ _ _ _ _ _ _ _ _ _ _, fun l' => .inr ⟨x, ?_, rfl, rfl, HasF.step (fun k _ hk q => hk (.inl q)) (fun k hk hs => (ans_heap (S := fun k => S k ∨ (w.heap.size ≤ k ∧ k < w.heap.size + 5)) (.inr (by omega)) (.inr (by omega)) _ _ _ _ _ _ _ _ _ _ _ k hs).trans (hx5.block k hk)) HHS.out⟩⟩, ans_below (bl_then hw4 hb5) (by omega) _ _ _ _ _ _ _ _ _ _ _⟩
            rw [List.map_append, List.append_assoc, HSE.out]
            exact findL_hit _ HE0.out HAV.out HBS.out
    · have he' : (x.e != 0) = true := by simp [he]
      have b6 := HI2.out.b6
      have b7 := HI2.out.b7
      have zc0 := b6.cell 0
      have zc1 := b6.cell 1
      have zc2 := b6.cell 2
      have zc3 := b6.cell 3
      have zc4 := b6.cell 4
      have zc5 := b6.cell 5
      have zc6 := b6.cell 6
      have zc7 := b6.cell 7
      have zc8 := b6.cell 8
      have zc9 := b6.cell 9
      have zy := Boxed.cell b7
      have fz0 := b6.frozen 0
      have fz1 := b6.frozen 1
      have fz2 := b6.frozen 2
      have fz3 := b6.frozen 3
      have fz4 := b6.frozen 4
      have fz5 := b6.frozen 5
      have fz6 := b6.frozen 6
      have fz7 := b6.frozen 7
      have fz8 := b6.frozen 8
      have fz9 := b6.frozen 9
      have fy := Boxed.frozen b7
      have lz6 := b6.lt
      have lz7 := Boxed.lt b7
      have ne67 : w.heap.size + 1 + 1 + 1 ≠ w.heap.size + 1 + 1 + 1 + 1 := by omega
      have HY0 := Lib.hid he
      have H67 := Lib.hid (And.intro b6 b7)
      clear he b6 b7
      gi_wp2_with fail
      refine ⟨ans_keeps (Below.refl _ _) _ _ _ _ _ _ _ _ _ _ _ _, rfl, ⟨_, _, _, _, _, _, _, _, _, _, x.e, ans_blk H67.out.1 _ _ _ _ _ _ _ _ _ _ _, ans_box H67.out.2 _ _ _ _ _ _ _ _ _ _ _, fun l' => .inl ⟨?_, HY0.out, rfl⟩⟩, ans_below hw2 (by omega) _ _ _ _ _ _ _ _ _ _ _⟩
      rw [List.map_append, List.append_assoc, HSE.out]
      exact findL_bad _ HY0.out
  case done =>
    rintro D' xs W hD hS hI hDf
    have b6 := hI.b6
    have b7 := hI.b7
    have zc0 := b6.cell 0
    have zc1 := b6.cell 1
    have zc2 := b6.cell 2
    have zc3 := b6.cell 3
    have zc4 := b6.cell 4
    have zc5 := b6.cell 5
    have zc6 := b6.cell 6
    have zc7 := b6.cell 7
    have zc8 := b6.cell 8
    have zc9 := b6.cell 9
    have zy := Boxed.cell b7
    have fz0 := b6.frozen 0
    have fz1 := b6.frozen 1
    have fz2 := b6.frozen 2
    have fz3 := b6.frozen 3
    have fz4 := b6.frozen 4
    have fz5 := b6.frozen 5
    have fz6 := b6.frozen 6
    have fz7 := b6.frozen 7
    have fz8 := b6.frozen 8
    have fz9 := b6.frozen 9
    have fy := Boxed.frozen b7
    have lz6 := b6.lt
    have lz7 := Boxed.lt b7
    have ne67 : w.heap.size + 1 + 1 + 1 ≠ w.heap.size + 1 + 1 + 1 + 1 := by omega
    have H67 := Lib.hid (And.intro b6 b7)
    have HSN := Lib.hid hI.seen
    have HBW := Lib.hid hI.below
    have HS := Lib.hid hS
    clear b6 b7 hI hS
    have hDf2 := (ans_keeps (n := W1.heap.size) (Below.refl W.heap.size W) (w.heap.size + 1 + 1 + 1) (.slice none 0 0) (.slice none 0 0) (.int .i64 0) (.int .i64 0) (.slice none 0 0) (.slice none 0 0) (.int .i64 0) (.int .i64 0) (.slice none 0 0) (.slice none 0 0) (.int .i64 7)).same D' _ hD hDf rfl
    have HD2 := Lib.hid hDf2
    clear hDf2
    gi_wp2_with fail
    refine ⟨by simp, .inl ⟨_, _, rfl, run_takeDeferred HD2.out, ?_⟩⟩
    refine ⟨_, res_fit rfl _ _ (w.heap.size + 1 + 1 + 1) (w.heap.size + 1 + 1 + 1 + 1) _ _ _ _ _ _ _ _ _ _ _ rfl rfl ((ans_blk H67.out.1 _ _ _ _ _ _ _ _ _ _ _).kz (kz_put _ HD2.out rfl)) (boxed_kz (kz_put _ HD2.out rfl) (ans_box H67.out.2 _ _ _ _ _ _ _ _ _ _ _)), (ans_below HBW.out (by omega) _ _ _ _ _ _ _ _ _ _ _).trans (Kw.put _ (Nat.le_trans hn hD) HD2.out rfl).below, _, 7, rfl, .inl ⟨?_, by decide, rfl⟩⟩
    have q := HSN.out []
    rw [HS.out, List.append_nil] at q
    unfold findV
    rw [q]
    rfl
  case stop =>
    rintro D' c' pre W hD hSp hX hDf
    obtain ⟨rfl, ⟨v0, v1, v2, v3, v4, v5, v6, v7, v8, v9, y, b6, b7, hX⟩, hbX⟩ := hX
    obtain ⟨r, hr⟩ := hSp
    have HX := Lib.hid (hX r)
    have H67 := Lib.hid (And.intro b6 b7)
    have HRR := Lib.hid hr
    clear hX b6 b7 hr
    gi_wp2_with fail
    refine ⟨by simp, .inl ⟨_, _, rfl, run_takeDeferred hDf, ?_⟩⟩
    refine ⟨_, res_fit rfl _ _ (w.heap.size + 1 + 1 + 1) (w.heap.size + 1 + 1 + 1 + 1) _ _ _ _ _ _ _ _ _ _ _ rfl rfl (H67.out.1.kz (kz_put _ hDf rfl)) (boxed_kz (kz_put _ hDf rfl) H67.out.2), hbX.trans (Kw.put _ (Nat.le_trans hn hD) hDf rfl).below, _, y, rfl, ?_⟩
    unfold findV
    rw [← HRR.out]
    exact FindC.kz (kz_put _ hDf rfl) HX.out
end Go.Proofs.YtbmmdfehhhgkcaaGreat
