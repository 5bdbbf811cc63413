/- The contracts of package term: all, may, Depth, May. -/
import Derived.Test.YtolpbnkkmkjejaaT1
namespace Go.Proofs.Ytolpbnkkmkjejaa
open Go.RowKit Go.Shelf
attribute [local go_sem] Oper.semAt_some

abbrev tmv (t : Tm) (A : Option Addr) (c : Nat) : Value := .agg #[.int .i64 t.k, .int .i64 t.h, .slice A t.a.length c]

/-- Is a function value asked of a node what p says? -/
def Asks (w : World) (S : Nat → Prop) (kf : Nat) (cap : Array Value) (p : Int → Tm → Bool) : Prop :=
  ∀ (n : Int) (s : Tm) (B : Option Addr) (d : Nat) (W : World), Below w.heap.size w W → Reads S W B s.a → s.a.length ≤ d →
    Calls Try.prog kf (#[.int .i64 n, .agg #[.int .i64 s.k, .int .i64 s.h, .slice B s.a.length d]] ++ cap) W fun e W' => e = .returned (.bool (p n s)) ∧ Below W.heap.size W W'

theorem boxed_mov {W W' : World} {B : Nat} {t : TypeId} {v : Value} (h : Boxed W B t v) (k : Below W.heap.size W W') : Boxed W' B t v := (k.block B h.lt).trans h

theorem kc_of_grown {M : Nat → Prop} {X Y : World} {row : Option Nat} {B : Nat} (hg : X.grownBy Y row) (hr : ∀ r, row = some r → B ≤ r ∧ ∃ o : Obj, X.heap[r]? = some o ∧ o.isCells = false) : KC M X Y :=
  ⟨hg.size, fun k cs t fr _ e => by
    rw [hg.block k (Array.getElem?_eq_some_iff.1 e).1 (fun q => by obtain ⟨_, o, ho, hc⟩ := hr k q.symm; rw [e] at ho; cases ho; cases hc)]; exact e⟩
theorem ownFrom_kc {β : Type} {M : Nat → Prop} (B : Nat) (W0 : World) : OwnFrom B (fun (_ : β) W => KC M W0 W) := fun _ _ _ _ hs hg hr => hs.trans (kc_of_grown hg hr)
theorem Reads.less {S S' : Nat → Prop} {W : World} {A : Option Addr} {ts : List Tm} (h : Reads S W A ts) (hs : ∀ k, S' k → S k) : Reads S' W A ts := h.step (fun k _ hk q => hk (hs k q)) (fun _ _ _ => rfl)
theorem boxed_put {W : World} {B : Nat} {t : TypeId} {v : Value} (h : Boxed W B t v) {l : Nat} {o : Obj} (o' : Obj) (hl : W.heap[l]? = some o) (ho : o.isCells = false) : Boxed (W.putObj l o') B t v :=
  h.kept (grownBy_putObj' W l o') (fun e => by cases e; rw [show W.heap[B]? = _ from h] at hl; cases hl; cases ho)

theorem kf_of_below {B : Nat} {W W' : World} (h : Below W.heap.size W W') : KeepsFrom B W W' := ⟨h.size, fun k o _ e _ => by rw [h.block k (Array.getElem?_eq_some_iff.1 e).1]; exact e⟩

end Go.Proofs.Ytolpbnkkmkjejaa
