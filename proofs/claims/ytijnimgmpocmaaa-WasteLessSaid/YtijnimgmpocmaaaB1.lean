/- Texts of the proof, part 1: F0. -/
import Derived.WalkKit
import Derived.Below
/- The plain seat: no fact on the oldest blocks is needed. -/
namespace Go.Proofs.Ytijnimgmpocmaaa
open Go.RowKit
def Fct (n0 : Nat) (w : World) : Prop := True
theorem Fct.of {n0 : Nat} {w w' : World} (h : Fct n0 w) (hb : ∀ k : Nat, k < n0 → w'.heap[k]? = w.heap[k]?) : Fct n0 w' := trivial
theorem Fct.shut {n0 : Nat} {w w' : World} (h : Fct n0 w) (hb : ∀ (k : Nat) (cs : Array Value) (t : TypeId) (fr : Nat × Nat), w.heap[k]? = some (Obj.cells cs t fr) → w'.heap[k]? = w.heap[k]?) : Fct n0 w' := trivial
theorem Fct.up {n0 n1 : Nat} {w : World} (h : Fct n0 w) (hn : n0 ≤ n1) : Fct n1 w := trivial
structure Bs (n0 : Nat) (w : World) : Prop where
  le : n0 ≤ w.heap.size
  fct : Fct n0 w
theorem Bs.of {n0 : Nat} {w w' : World} (h : Bs n0 w) (hs : w.heap.size ≤ w'.heap.size) (hb : ∀ k : Nat, k < n0 → w'.heap[k]? = w.heap[k]?) : Bs n0 w' := ⟨Nat.le_trans h.le hs, h.fct.of hb⟩
theorem Bs.top {n0 : Nat} {w : World} (h : Bs n0 w) : Bs w.heap.size w := ⟨Nat.le_refl _, h.fct.up h.le⟩
theorem Bs.below {n0 : Nat} {w w' : World} (h : Bs n0 w) (hb : Below w.heap.size w w') : Bs n0 w' := h.of hb.size fun k hk => hb.block k (Nat.lt_of_lt_of_le hk h.le)
theorem Bs.grown {n0 b : Nat} {w w' : World} (h : Bs n0 w) (hg : w.grownBy w' (some b)) (hb : n0 ≤ b) : Bs n0 w' := h.of hg.size fun k hk => hg.block k (Nat.lt_of_lt_of_le hk h.le) (fun e => by cases e; omega)
theorem Bs.grownO {n0 : Nat} {ob : Option Nat} {w w' : World} (h : Bs n0 w) (hg : w.grownBy w' ob) (hb : ∀ b, ob = some b → n0 ≤ b) : Bs n0 w' := h.of hg.size fun k hk => hg.block k (Nat.lt_of_lt_of_le hk h.le) (fun e => by have := hb k e.symm; omega)
end Go.Proofs.Ytijnimgmpocmaaa

