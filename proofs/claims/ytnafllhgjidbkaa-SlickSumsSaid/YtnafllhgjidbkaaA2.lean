/- Results in memory, and appending to a slice of the call's own. -/
import Derived.Test.YtnafllhgjidbkaaA1
import Derived.Test.YtnafllhgjidbkaaT10
namespace Go.Proofs.Ytnafllhgjidbkaa
open Go.RowKit Go.Shelf
set_option linter.unusedVariables false
set_option linter.unusedSimpArgs false
/-- A struct of three in a place for results. -/
theorem res3c {W : World} {b : Nat} {v0 v1 v2 : Value} {t : TypeId} (h : W.heap[b]? = some (.cells #[v0, v1, v2] t (0, 0))) : W.cell? ⟨b, 0, none⟩ = some v0 ∧ W.cell? ⟨b, 1, none⟩ = some v1 ∧ W.cell? ⟨b, 2, none⟩ = some v2 :=
  ⟨cell_of_heap h 0, cell_of_heap h 1, cell_of_heap h 2⟩
theorem own_empty (w : World) (base p : Nat) (hp : w.heap.size = p) (hb : base ≤ p) : (w.alloc (.cells #[] 3)).ownsRow base 3 1 (.slice (some ⟨p, 0, none⟩) 0 0) 0 [] := by
  subst hp
  exact ⟨rfl, .inr ⟨w.heap.size, 0, #[], rfl, hb, World.alloc_heap_new _ _, Nat.le_refl _, by simp [maxLen], rfl, rfl⟩⟩
theorem news_of {w : World} {a : Addr} {l : List Int} (h : IntsAt w (some a) l) : ∀ j u, (l.map (Value.int .i64))[j]? = some u → w.cell? (a.add j) = some u := by
  intro j u hj
  obtain ⟨hj1, hj2⟩ := List.getElem?_eq_some_iff.1 hj
  have hj' : j < l.length := by simpa using hj1
  obtain ⟨b, off, ha, hb, hc⟩ := h.get hj'
  obtain rfl : a = ⟨b, off, none⟩ := by simpa using ha
  have : (⟨b, off, none⟩ : Addr).add j = ⟨b, off + j, none⟩ := by
    unfold Addr.add; split
    · rename_i h; subst h; rfl
    · rfl
  rw [this, hc, ← hj2]
  simp [List.getD_eq_getElem?_getD, List.getElem?_eq_getElem hj']
theorem ints_one {l : List Int} : ∀ u ∈ l.map (Value.int .i64), u.oneCell' = true := by
  intro u hu; obtain ⟨x, _, rfl⟩ := List.mem_map.1 hu; rfl

theorem own_ints {w : World} {base : Nat} {v : Value} {l : List Int} (h : w.ownsRow base 3 1 v l.length (l.map (Value.int .i64))) : ∃ ao c, v = .slice ao l.length c ∧ IntsAt w ao l ∧ ∀ a, ao = some a → base ≤ a.block := by
  obtain ⟨ao, c, hv, hi⟩ := ints_of_own h
  refine ⟨ao, c, hv, hi, ?_⟩
  obtain ⟨h1, ⟨rfl, h2⟩ | ⟨g, cap, cur, rfl, hb, hh, hn, hm, hs, ht⟩⟩ := h
  · intro a ha; injection hv with e1 e2 e3; rw [← e1] at ha; cases ha
  · cases hv; intro a ha; cases ha; exact hb

end Go.Proofs.Ytnafllhgjidbkaa
