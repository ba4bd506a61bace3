/- Blocks that a call begins with, and worlds that come behind them. -/
import Derived.Test.YtnafllhgjidbkaaT24
import Derived.StillTailTactics
namespace Go.Proofs.Ytnafllhgjidbkaa
open Go.RowKit Go.Shelf
set_option linter.unusedVariables false
set_option linter.unusedSimpArgs false
theorem Below.link {a b c : World} (h1 : Below a.heap.size a b) (h2 : Below b.heap.size b c) : Below a.heap.size a c := h1.trans (h2.mono h1.size)
theorem Aft.step {W w1 : World} (x : Aft W) (hb : Below x.val.heap.size x.val w1) : ∃ y : Aft W, y.val = w1 ∧ Below x.val.heap.size x.val y.val :=
  ⟨⟨w1, x.bel.trans (hb.mono x.bel.size)⟩, rfl, hb⟩
theorem Aft.heapH {W : World} (x : Aft W) {b : Nat} {o : Obj} (h : W.heap[b]? = some o) : x.val.heap[b]? = some o := (x.bel.block _ (heap_lt h)).trans h
theorem Aft.off {w W : World} (f : Below w.heap.size w W) (x : Aft W) : Below w.heap.size w x.val := f.trans (x.bel.mono f.size)
theorem Aft.size_le {W : World} (x : Aft W) : W.heap.size ≤ x.val.heap.size := x.bel.size
theorem one_new {w : World} (c0 : Array Value) (t0 : TypeId) :
    Below w.heap.size w (w.alloc (.cells c0 t0)) ∧ (w.alloc (.cells c0 t0)).heap.size = w.heap.size + 1 ∧ (w.alloc (.cells c0 t0)).heap[w.heap.size]? = some (.cells c0 t0 (0, 0)) :=
  ⟨(Below.refl _ _).alloc (Nat.le_refl _) _, by simp, World.alloc_heap_new _ _⟩
theorem two_new {w : World} (c0 c1 : Array Value) (t0 t1 : TypeId) :
    Below w.heap.size w ((w.alloc (.cells c0 t0)).alloc (.cells c1 t1)) ∧ ((w.alloc (.cells c0 t0)).alloc (.cells c1 t1)).heap.size = w.heap.size + 2 ∧
    ((w.alloc (.cells c0 t0)).alloc (.cells c1 t1)).heap[w.heap.size]? = some (.cells c0 t0 (0, 0)) ∧ ((w.alloc (.cells c0 t0)).alloc (.cells c1 t1)).heap[w.heap.size + 1]? = some (.cells c1 t1 (0, 0)) := by
  refine ⟨((Below.refl _ _).alloc (Nat.le_refl _) _).alloc (by simp) _, by simp, heap_alloc_old (World.alloc_heap_new _ _) _, ?_⟩
  have := World.alloc_heap_new (w.alloc (.cells c0 t0)) (.cells c1 t1); rwa [World.size_alloc] at this
theorem five_new {w : World} (c0 c1 c2 c3 c4 : Array Value) (t0 t1 t2 t3 t4 : TypeId) :
    Below w.heap.size w (((((w.alloc (.cells c0 t0)).alloc (.cells c1 t1)).alloc (.cells c2 t2)).alloc (.cells c3 t3)).alloc (.cells c4 t4)) ∧ (((((w.alloc (.cells c0 t0)).alloc (.cells c1 t1)).alloc (.cells c2 t2)).alloc (.cells c3 t3)).alloc (.cells c4 t4)).heap.size = w.heap.size + 5 ∧
    (((((w.alloc (.cells c0 t0)).alloc (.cells c1 t1)).alloc (.cells c2 t2)).alloc (.cells c3 t3)).alloc (.cells c4 t4)).heap[w.heap.size]? = some (.cells c0 t0 (0, 0)) ∧
    (((((w.alloc (.cells c0 t0)).alloc (.cells c1 t1)).alloc (.cells c2 t2)).alloc (.cells c3 t3)).alloc (.cells c4 t4)).heap[w.heap.size + 1]? = some (.cells c1 t1 (0, 0)) ∧
    (((((w.alloc (.cells c0 t0)).alloc (.cells c1 t1)).alloc (.cells c2 t2)).alloc (.cells c3 t3)).alloc (.cells c4 t4)).heap[w.heap.size + 1 + 1]? = some (.cells c2 t2 (0, 0)) ∧
    (((((w.alloc (.cells c0 t0)).alloc (.cells c1 t1)).alloc (.cells c2 t2)).alloc (.cells c3 t3)).alloc (.cells c4 t4)).heap[w.heap.size + 1 + 1 + 1]? = some (.cells c3 t3 (0, 0)) ∧
    (((((w.alloc (.cells c0 t0)).alloc (.cells c1 t1)).alloc (.cells c2 t2)).alloc (.cells c3 t3)).alloc (.cells c4 t4)).heap[w.heap.size + 1 + 1 + 1 + 1]? = some (.cells c4 t4 (0, 0)) := by
  obtain ⟨f0, f1, f2, f3, f4, f5⟩ := four_new (w := w) c0 c1 c2 c3 t0 t1 t2 t3
  refine ⟨f0.alloc (by omega) _, by rw [World.size_alloc, f1], heap_alloc_old f2 _, heap_alloc_old f3 _, heap_alloc_old f4 _, heap_alloc_old f5 _, ?_⟩
  have := World.alloc_heap_new ((((w.alloc (.cells c0 t0)).alloc (.cells c1 t1)).alloc (.cells c2 t2)).alloc (.cells c3 t3)) (.cells c4 t4)
  rwa [f1] at this
/-- A place for a struct of three, written. -/
theorem res3 {W : World} {b : Nat} {v0 v1 v2 : Value} {t : TypeId} (h : W.heap[b]? = some (.cells #[v0, v1, v2] t (0, 0))) (a0 a1 a2 : Value) :
    (((W.setCell ⟨b, 0, none⟩ a0).setCell ⟨b, 1, none⟩ a1).setCell ⟨b, 2, none⟩ a2).heap[b]? = some (.cells #[a0, a1, a2] t (0, 0)) := by
  have e3 := heap_setCell_same (heap_setCell_same (heap_setCell_same h (i := 0) a0) (i := 1) a1) (i := 2) a2
  rwa [set3] at e3
/-- A region that draws its order, met in a world behind W. -/
theorem wp_region_aftW {P : Program} {id : Nat} {Q : Exit → Act → World → Prop} {a : Act} {W : World} (x0 : Aft W) {l : List Oper} (hm : P.follows .mixedOrders = true) (hB : Region.lexB .any l.toArray = true)
    (h : wpQuiet P l.toArray (fun w' => ∃ x : Aft W, w' = x.val) (fun a' => ∀ w', (∃ x : Aft W, w' = x.val) → Q .normal a' w') l a) : (Code.region id l.toArray true).wp P Q a x0.val :=
  wp_region_quiet (C := fun w' => ∃ x : Aft W, w' = x.val) hm hB ⟨⟨_, x0.bel.drew⟩, rfl⟩ (by simpa using h)
theorem wp_region_stillD {P : Program} {id : Nat} {Q : Exit → Act → World → Prop} {a : Act} {w : World} {l : List Oper} (n : Nat) (hm : P.follows .mixedOrders = true) (hB : Region.lexTailB .any l.toArray n = true)
    (h : wpStill P l.toArray w.drew (fun a' => wpList P l.toArray Q (l.drop n) a' w.drew) (l.take n) a) : (Code.region id l.toArray true).wp P Q a w := wp_region_still_tail n hm hB h
end Go.Proofs.Ytnafllhgjidbkaa
