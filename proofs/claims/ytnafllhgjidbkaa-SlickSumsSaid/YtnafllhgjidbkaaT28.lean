import Derived.Test.YtnafllhgjidbkaaM2
import Derived.Test.YtnafllhgjidbkaaL6
namespace Go.Proofs.Ytnafllhgjidbkaa
open Go.RowKit Go.Shelf
set_option linter.unusedVariables false
set_option linter.unusedSimpArgs false

theorem slks_two {w : World} {ao bo : Option Addr} {c d : Nat} {s t : Slk} (hi : IntsAt w ao s.Oil) (ht : IntsAt w bo t.Oil) (hn : s.Oil.length < 1152921504606846976) (hm : t.Oil.length < 1152921504606846976) :
    SlksAt (w.alloc (.cells #[.int .i64 s.K, .slice ao s.Oil.length c, .int .i64 s.Away, .int .i64 t.K, .slice bo t.Oil.length d, .int .i64 t.Away] 28)) (some ⟨w.heap.size, 0, none⟩) [s, t] := by
  intro k hk
  have hh := World.alloc_heap_new w (.cells #[.int .i64 s.K, .slice ao s.Oil.length c, .int .i64 s.Away, .int .i64 t.K, .slice bo t.Oil.length d, .int .i64 t.Away] 28)
  have hb := (Below.refl w.heap.size w).alloc (Nat.le_refl _) (.cells #[.int .i64 s.K, .slice ao s.Oil.length c, .int .i64 s.Away, .int .i64 t.K, .slice bo t.Oil.length d, .int .i64 t.Away] 28)
  have : k = 0 ∨ k = 1 := by have : k < 2 := hk; omega
  rcases this with rfl | rfl
  · exact ⟨w.heap.size, 0, ao, c, rfl, by simp, cell_of_heap hh 0, cell_of_heap hh 1, cell_of_heap hh 2, hi.below (Nat.le_refl _) hb, hn⟩
  · exact ⟨w.heap.size, 0, bo, d, rfl, by simp, cell_of_heap hh 3, cell_of_heap hh 4, cell_of_heap hh 5, ht.below (Nat.le_refl _) hb, hm⟩
theorem askE_two (B : Bay) (s t : Slk) : askE B [s, t] = if validB B = true then (if fitsB B s = true ∧ fitsB B t = true then 0 else 21) else 20 := by
  unfold askE
  split
  · have : allFitB B [s, t] = decide (fitsB B s = true ∧ fitsB B t = true) := by
      unfold allFitB allFit
      have : (∀ k, k < [s, t].length → fitsB B ([s, t].getD k ⟨0, [], 0⟩) = true) ↔ (fitsB B s = true ∧ fitsB B t = true) := by
        constructor
        · intro h; exact ⟨h 0 (by simp), h 1 (by simp)⟩
        · intro h k hk
          have : k = 0 ∨ k = 1 := by have : k < 2 := hk; omega
          rcases this with rfl | rfl
          · exact h.1
          · exact h.2
      simp only [this]
    rw [this]
    simp
  · rfl
noncomputable def sumE (B : Bay) (s t : Slk) : Int := if validB B = true then (if fitsB B s = true ∧ fitsB B t = true ∧ s.K = t.K ∧ fitsB B (addS s t) = true then 0 else 21) else 20
noncomputable def sumS (B : Bay) (s t : Slk) : Slk := if sumE B s t = 0 then addS s t else ⟨0, [], 0⟩
end Go.Proofs.Ytnafllhgjidbkaa
