/- Metas, calls, clauses, functions: what rows of them read as. -/
import Derived.Test.YtbmmdfehhhgkcaaGreatF3
namespace Go.Proofs.YtbmmdfehhhgkcaaGreat
open Go.RowKit Go.Shelf

structure Md where
  ctx : List Tm
  t : Tm
  p : Bool
structure Cl where
  f : Int
  ext : List Tm
  th : List Tm
  arg : Tm
structure Cs where
  ms : List Md
  th : List Tm
  p : Tm
  cs : List Cl
  r : Tm
structure Fu where
  nm : ByteArray
  sch : List Tm
  del : List Md
  psi : List Tm
  a : Tm
  phi : List Tm
  b : Tm
  tot : Bool
  cl : List Cs

/-- Where the parts of one thing lie: the rows that its cells lead to. -/
abbrev Pl := Option Addr × Nat

/-- The row at A reads as these, each of so many cells; cells E w S x of x are told by E. -/
def Row {α : Type} (E : (Nat → Prop) → World → List Value → α → Prop) (sz : Nat) (S : Nat → Prop) (w : World) (A : Option Addr) (xs : List α) : Prop :=
  xs.length ≤ lim ∧ ∀ i, (hi : i < xs.length) → ∃ (ad : Addr) (cs : List Value), A = some ad ∧ ad.spot = none ∧ ¬ S ad.block ∧ cs.length = sz ∧ (∀ j u, cs[j]? = some u → w.cell? ⟨ad.block, ad.off + (i * sz + j), none⟩ = some u) ∧ E S w cs xs[i]

/-- What tells cells lasts. -/
structure Lasts {α : Type} (E : (Nat → Prop) → World → List Value → α → Prop) : Prop where
  step : ∀ {S S' : Nat → Prop} {w w' : World} {cs : List Value} {x : α}, (∀ k, k < w.heap.size → ¬ S k → ¬ S' k) → (∀ k, k < w.heap.size → ¬ S k → w'.heap[k]? = w.heap[k]?) → E S w cs x → E S' w' cs x

theorem Row.step {α : Type} {E : (Nat → Prop) → World → List Value → α → Prop} (hE : Lasts E) {sz : Nat} (hz : 0 < sz) {S S' : Nat → Prop} {w w' : World} (hS : ∀ k, k < w.heap.size → ¬ S k → ¬ S' k) (hb : ∀ k, k < w.heap.size → ¬ S k → w'.heap[k]? = w.heap[k]?)
    {A : Option Addr} {xs : List α} (h : Row E sz S w A xs) : Row E sz S' w' A xs := by
  refine ⟨h.1, fun i hi => ?_⟩
  obtain ⟨ad, cs, h1, h2, h3, h4, h5, h6⟩ := h.2 i hi
  have hlt : ad.block < w.heap.size := World.block_lt_of_cell? w ⟨ad.block, _, none⟩ (h5 0 cs[0] (List.getElem?_eq_getElem (by omega)))
  exact ⟨ad, cs, h1, h2, hS _ hlt h3, h4, fun j u hu => (World.cell?_of_block (a := ⟨ad.block, _, none⟩) (hb _ hlt h3)).trans (h5 j u hu), hE.step hS hb h6⟩
theorem Row.mov {α : Type} {E : (Nat → Prop) → World → List Value → α → Prop} (hE : Lasts E) {sz : Nat} (hz : 0 < sz) {S : Nat → Prop} {w w' : World} {A : Option Addr} {xs : List α} (h : Row E sz S w A xs) (hb : Below w.heap.size w w') : Row E sz S w' A xs :=
  h.step hE hz (fun _ _ q => q) (fun k hk _ => hb.block k hk)
theorem Row.less {α : Type} {E : (Nat → Prop) → World → List Value → α → Prop} (hE : Lasts E) {sz : Nat} (hz : 0 < sz) {S S' : Nat → Prop} {w : World} {A : Option Addr} {xs : List α} (h : Row E sz S w A xs) (hs : ∀ k, S' k → S k) : Row E sz S' w A xs :=
  h.step hE hz (fun k _ hk q => hk (hs k q)) (fun _ _ _ => rfl)
theorem Lasts.mov {α : Type} {E : (Nat → Prop) → World → List Value → α → Prop} {S : Nat → Prop} {w w' : World} {cs : List Value} {x : α} (hE : Lasts E) (h : E S w cs x) (hb : Below w.heap.size w w') : E S w' cs x := hE.step (fun _ _ q => q) (fun k hk _ => hb.block k hk) h
theorem Row.nil {α : Type} {E : (Nat → Prop) → World → List Value → α → Prop} {sz : Nat} {S : Nat → Prop} {w : World} (A : Option Addr) : Row E sz S w A ([] : List α) := ⟨Nat.zero_le _, fun i hi => absurd hi (Nat.not_lt_zero i)⟩

/-- The cells of a meta, a call, a clause, a function. -/
def eM (S : Nat → Prop) (w : World) (cs : List Value) (x : Md) : Prop :=
  ∃ A c B d, cs = [.slice A x.ctx.length c, .int .i64 x.t.k, .int .i64 x.t.h, .slice B x.t.a.length d, .bool x.p] ∧ x.ctx.length ≤ c ∧ Reads S w A x.ctx ∧ x.t.a.length ≤ d ∧ Reads S w B x.t.a
def eC (S : Nat → Prop) (w : World) (cs : List Value) (x : Cl) : Prop :=
  ∃ A c B d C e, cs = [.int .i64 x.f, .slice A x.ext.length c, .slice B x.th.length d, .int .i64 x.arg.k, .int .i64 x.arg.h, .slice C x.arg.a.length e] ∧ x.ext.length ≤ c ∧ Reads S w A x.ext ∧ x.th.length ≤ d ∧ Reads S w B x.th ∧ x.arg.a.length ≤ e ∧ Reads S w C x.arg.a
def eK (S : Nat → Prop) (w : World) (cs : List Value) (x : Cs) : Prop :=
  ∃ A a B b C c D d E e, cs = [.slice A x.ms.length a, .slice B x.th.length b, .int .i64 x.p.k, .int .i64 x.p.h, .slice C x.p.a.length c, .slice D x.cs.length d, .int .i64 x.r.k, .int .i64 x.r.h, .slice E x.r.a.length e] ∧
    (x.ms.length ≤ a ∧ Row eM 5 S w A x.ms) ∧ (x.th.length ≤ b ∧ Reads S w B x.th) ∧ (x.p.a.length ≤ c ∧ Reads S w C x.p.a) ∧ (x.cs.length ≤ d ∧ Row eC 6 S w D x.cs) ∧ (x.r.a.length ≤ e ∧ Reads S w E x.r.a)
def eF (S : Nat → Prop) (w : World) (cs : List Value) (x : Fu) : Prop :=
  ∃ A a B b C c D d E e F f G g, cs = [.string x.nm, .slice A x.sch.length a, .slice B x.del.length b, .slice C x.psi.length c, .int .i64 x.a.k, .int .i64 x.a.h, .slice D x.a.a.length d, .slice E x.phi.length e, .int .i64 x.b.k, .int .i64 x.b.h, .slice F x.b.a.length f, .bool x.tot, .slice G x.cl.length g] ∧
    (x.sch.length ≤ a ∧ Reads S w A x.sch) ∧ (x.del.length ≤ b ∧ Row eM 5 S w B x.del) ∧ (x.psi.length ≤ c ∧ Reads S w C x.psi) ∧ (x.a.a.length ≤ d ∧ Reads S w D x.a.a) ∧ (x.phi.length ≤ e ∧ Reads S w E x.phi) ∧ (x.b.a.length ≤ f ∧ Reads S w F x.b.a) ∧ (x.cl.length ≤ g ∧ Row eK 9 S w G x.cl)

theorem lasts_M : Lasts eM := ⟨fun hS hb ⟨A, c, B, d, h1, h2, h3, h4, h5⟩ => ⟨A, c, B, d, h1, h2, h3.step hS hb, h4, h5.step hS hb⟩⟩
theorem lasts_C : Lasts eC := ⟨fun hS hb ⟨A, c, B, d, C, e, h1, h2, h3, h4, h5, h6, h7⟩ => ⟨A, c, B, d, C, e, h1, h2, h3.step hS hb, h4, h5.step hS hb, h6, h7.step hS hb⟩⟩
theorem lasts_K : Lasts eK := ⟨fun hS hb ⟨A, a, B, b, C, c, D, d, E, e, h0, h1, h2, h3, h4, h5⟩ =>
  ⟨A, a, B, b, C, c, D, d, E, e, h0, ⟨h1.1, h1.2.step lasts_M (by decide) hS hb⟩, ⟨h2.1, h2.2.step hS hb⟩, ⟨h3.1, h3.2.step hS hb⟩, ⟨h4.1, h4.2.step lasts_C (by decide) hS hb⟩, ⟨h5.1, h5.2.step hS hb⟩⟩⟩
theorem lasts_F : Lasts eF := ⟨fun hS hb ⟨A, a, B, b, C, c, D, d, E, e, F, f, G, g, h0, h1, h2, h3, h4, h5, h6, h7⟩ =>
  ⟨A, a, B, b, C, c, D, d, E, e, F, f, G, g, h0, ⟨h1.1, h1.2.step hS hb⟩, ⟨h2.1, h2.2.step lasts_M (by decide) hS hb⟩, ⟨h3.1, h3.2.step hS hb⟩, ⟨h4.1, h4.2.step hS hb⟩, ⟨h5.1, h5.2.step hS hb⟩, ⟨h6.1, h6.2.step hS hb⟩, ⟨h7.1, h7.2.step lasts_K (by decide) hS hb⟩⟩⟩
end Go.Proofs.YtbmmdfehhhgkcaaGreat
