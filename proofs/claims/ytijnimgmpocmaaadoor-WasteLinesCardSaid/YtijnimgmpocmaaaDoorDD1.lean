/- Texts of the proof, part 1: F0. -/
import Derived.WalkKit
import Derived.Below
import Derived.Lib.TrailingZeros
/- A fact on the oldest blocks, that a walk leaves as it is: the library's table of lowest bits. -/
namespace Go.Proofs.YtijnimgmpocmaaaDoor
open Go.RowKit
/-- Callees that turn the row that they are given (slices.Compact). -/
def killF (f : Nat) : Bool := Nat.beq f 85
/-- The table lies in its variable (block G). -/
def Fct (n0 : Nat) (w : World) : Prop := 2 ≤ n0 ∧ ∃ cs t fr, w.heap[1]? = some (Obj.cells cs t fr) ∧ ∀ j, j < Lib.deBruijn64tab.length → w.cell? ⟨1, j, none⟩ = some (.int .u8 (Lib.deBruijn64tab.getD j 0))
theorem Fct.of {n0 : Nat} {w w' : World} (h : Fct n0 w) (hb : ∀ k : Nat, k < n0 → w'.heap[k]? = w.heap[k]?) : Fct n0 w' := by
  obtain ⟨h1, cs, t, fr, h2, h3⟩ := h
  have he := hb 1 (by omega)
  exact ⟨h1, cs, t, fr, he.trans h2, fun j hj => (World.cell?_of_block he).trans (h3 j hj)⟩
theorem Fct.shut {n0 : Nat} {w w' : World} (h : Fct n0 w) (hb : ∀ (k : Nat) (cs : Array Value) (t : TypeId) (fr : Nat × Nat), w.heap[k]? = some (Obj.cells cs t fr) → w'.heap[k]? = w.heap[k]?) : Fct n0 w' := by
  obtain ⟨h1, cs, t, fr, h2, h3⟩ := h
  have he := hb 1 _ _ _ h2
  exact ⟨h1, cs, t, fr, he.trans h2, fun j hj => (World.cell?_of_block he).trans (h3 j hj)⟩
theorem Fct.up {n0 n1 : Nat} {w : World} (h : Fct n0 w) (hn : n0 ≤ n1) : Fct n1 w := ⟨Nat.le_trans h.1 hn, h.2⟩
structure Bs (n0 : Nat) (w : World) : Prop where
  le : n0 ≤ w.heap.size
  fct : Fct n0 w
theorem Bs.of {n0 : Nat} {w w' : World} (h : Bs n0 w) (hs : w.heap.size ≤ w'.heap.size) (hb : ∀ k : Nat, k < n0 → w'.heap[k]? = w.heap[k]?) : Bs n0 w' := ⟨Nat.le_trans h.le hs, h.fct.of hb⟩
theorem Bs.top {n0 : Nat} {w : World} (h : Bs n0 w) : Bs w.heap.size w := ⟨Nat.le_refl _, h.fct.up h.le⟩
theorem Bs.below {n0 : Nat} {w w' : World} (h : Bs n0 w) (hb : Below w.heap.size w w') : Bs n0 w' := h.of hb.size fun k hk => hb.block k (Nat.lt_of_lt_of_le hk h.le)
theorem Bs.grown {n0 b : Nat} {w w' : World} (h : Bs n0 w) (hg : w.grownBy w' (some b)) (hb : n0 ≤ b) : Bs n0 w' := h.of hg.size fun k hk => hg.block k (Nat.lt_of_lt_of_le hk h.le) (fun e => by cases e; omega)
theorem Bs.grownO {n0 : Nat} {ob : Option Nat} {w w' : World} (h : Bs n0 w) (hg : w.grownBy w' ob) (hb : ∀ b, ob = some b → n0 ≤ b) : Bs n0 w' := h.of hg.size fun k hk => hg.block k (Nat.lt_of_lt_of_le hk h.le) (fun e => by have := hb k e.symm; omega)
end Go.Proofs.YtijnimgmpocmaaaDoor

