import Derived.Test.YtnafllhgjidbkaaT8
namespace Go.Proofs.Ytnafllhgjidbkaa
open Go.RowKit Go.Shelf
set_option linter.unusedVariables false
set_option linter.unusedSimpArgs false

/-- A slice of the call's own reads as a list. -/
theorem ints_of_own {w : World} {base : Nat} {v : Value} {l : List Int} (h : w.ownsRow base 3 1 v l.length (l.map (Value.int .i64))) : ∃ ao c, v = .slice ao l.length c ∧ IntsAt w ao l := by
  obtain ⟨h1, ⟨rfl, h2⟩ | ⟨g, cap, cur, rfl, hb, hh, hn, hm, hs, ht⟩⟩ := h
  · exact ⟨none, 0, by rw [h2], fun hne => absurd (List.eq_nil_of_length_eq_zero (by simpa using h2)) hne⟩
  · refine ⟨_, _, rfl, fun _ => ⟨g, 0, rfl, heap_lt hh, fun i hi => ?_⟩⟩
    rw [Nat.zero_add, cell_of_heap hh i, ← ht]
    have hi' : i < l.length := by simpa using hi
    simp [List.getD_eq_getElem?_getD, hi', ← Array.getElem?_toList]
    have : i < cur.size := by rw [hs]; omega
    simp [this]

set_option maxHeartbeats 400000 in
theorem clone_any (ao : Option Addr) (c : Nat) (l : List Int) (w : World) (hl : IntsAt w ao l) (hn : l.length ≤ 1000000) :
    Calls Try.prog 71 #[.slice ao l.length c] w fun e w' => ∃ rv, e = .returned rv ∧ w'.ownsRow w.heap.size 3 1 rv l.length (l.map (Value.int .i64)) ∧ Below w.heap.size w w' := by
  cases ao with
  | none =>
    have h0 : l = [] := by
      cases l with
      | nil => rfl
      | cons x l => obtain ⟨b, off, h, _⟩ := hl.get (k := 0) (by simp); cases h
    subst h0
    have he := fun W => Lib.run_eql_slice_nil (P := Try.prog) W 26 3 none 0 c 0 0 Try.underlying26
    go_enter Try.func71, Try.ntmps71
    go_wp2
    go_ret
    exact ⟨_, rfl, World.ownsRow_nil _ _ _ _, Below.refl _ _⟩
  | some a =>
    have he := fun W => Lib.run_eql_slice_nil (P := Try.prog) W 26 3 (some a) l.length c 0 0 Try.underlying26
    obtain ⟨i0, hi, hz0, hz1, hz2⟩ := info_parts info3
    have hown : (w.alloc (.cells #[] 3)).ownsRow w.heap.size 3 1 (.slice (some ⟨w.heap.size, 0, none⟩) 0 0) 0 [] :=
      ⟨rfl, .inr ⟨w.heap.size, 0, #[], rfl, Nat.le_refl _, World.alloc_heap_new _ _, Nat.le_refl _, by simp [maxLen], rfl, rfl⟩⟩
    have hnews : ∀ j u, (l.map (Value.int .i64))[j]? = some u → (w.alloc (.cells #[] 3)).cell? (a.add j) = some u := by
      intro j u hj
      obtain ⟨hj1, hj2⟩ := List.getElem?_eq_some_iff.1 hj
      have hj' : j < l.length := by simpa using hj1
      obtain ⟨b, off, ha, hb, hc⟩ := hl.get hj'
      obtain rfl : a = ⟨b, off, none⟩ := by simpa using ha
      have : (⟨b, off, none⟩ : Addr).add j = ⟨b, off + j, none⟩ := by
        unfold Addr.add; split
        · rename_i h; subst h; rfl
        · rfl
      rw [this, World.cell?_alloc_lt _ _ _ hb, hc, ← hj2]
      simp [List.getD_eq_getElem?_getD, List.getElem?_eq_getElem hj']
    have h1 : ∀ u ∈ l.map (Value.int .i64), u.oneCell' = true := by
      intro u hu; obtain ⟨x, _, rfl⟩ := List.mem_map.1 hu; rfl
    go_enter Try.func71, Try.ntmps71
    go_wp2_with (first | (at_builtin; refine wpList_append_own _ rfl _ _ 26 rfl w.heap.size 3 i0 (.int .i64 0) 1 8 Try.underlying26 hi hz0 hz1 hz2 rfl (by decide) _ _ _ rfl hown a l.length c (l.map (Value.int .i64)) rfl (by simp) hnews h1 (by simp [maxLen]; omega) (by omega) (by simp) ?_; intro v' w1 hown1 hgrow1 _))
    go_ret
    exact ⟨_, rfl, by simpa using hown1, ((Below.refl _ _).alloc (Nat.le_refl _) _).grown hgrow1 (by simp) (fun k e => by cases e; exact Nat.le_refl _)⟩
end Go.Proofs.Ytnafllhgjidbkaa
