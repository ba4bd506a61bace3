import Derived.Test.YtnafllhgjidbkaaT23
namespace Go.Proofs.Ytnafllhgjidbkaa
open Go.RowKit Go.Shelf
set_option linter.unusedVariables false
set_option linter.unusedSimpArgs false

set_option maxHeartbeats 1000000 in
theorem Move_any (v sv : Value) (B : Bay) (s : Slk) (w : World) (hv : BayAt w v B) (hs : SlkAt w sv s) :
    Calls Try.prog 18 #[v, sv] w (Aft3 w (aftS B s 1) (aftE B s 1)) := by
  have hv0 := hv
  have hs0 := hs
  obtain ⟨la, lc, sa, sc, rfl, hl, hsh, hll, hsl⟩ := hv
  obtain ⟨ao, c, rfl, hi, hn⟩ := hs
  obtain ⟨f0, f1, f2, f3, f4⟩ := three_new (w := w) #[.int .i64 B.W, .int .i64 B.H, .slice la B.Land.length lc, .slice sa B.Share.length sc] #[.int .i64 s.K, .slice ao s.Oil.length c, .int .i64 s.Away] #[.int .i64 0, .slice none 0 0, .int .i64 0] 25 28 28
  have HV := Lib.hid hv0
  have HS := Lib.hid hs0
  clear hv0 hs0 hl hsh hi
  go_enter Try.func18, Try.ntmps18
  go_wp2_with fail
  have hbx : Below w.heap.size w (((w.alloc (.cells #[.int .i64 B.W, .int .i64 B.H, .slice la B.Land.length lc, .slice sa B.Share.length sc] 25)).alloc (.cells #[.int .i64 s.K, .slice ao s.Oil.length c, .int .i64 s.Away] 28)).alloc (.cells #[.int .i64 0, .slice none 0 0, .int .i64 0] 28)) := f0
  refine (After_any _ _ B s 1 _ (HV.out.below (Nat.le_refl _) hbx) (HS.out.below (Nat.le_refl _) hbx) (by omega)).mono ?_
  rintro e w1 ⟨rv, rfl, ⟨a', c', rfl, hi', hn', hf'⟩, hb1⟩
  have e2 := (hb1.block (w.heap.size + 1 + 1) (by omega)).trans f4
  have r0 := cell_of_heap e2 0
  have r1 := cell_of_heap e2 1
  have r2 := cell_of_heap e2 2
  simp at r0 r1 r2
  have z0 := free_of_heap e2 0
  have z1 := free_of_heap e2 1
  have z2 := free_of_heap e2 2
  have hl2 := heap_lt e2
  generalize aftS B s 1 = S at *
  generalize aftE B s 1 = E at *
  have hne : Hid (∀ a, a' = some a → a.block ≠ w.heap.size + 1 + 1) := fun a ha => by have := hf' a ha; omega
  have hfr : Hid (∀ a, a' = some a → w.heap.size ≤ a.block) := fun a ha => by have := hf' a ha; omega
  have HB : Hid (Below w.heap.size w w1) := f0.trans (hb1.mono (by omega))
  have HI' := Lib.hid hi'
  have hrr := heap_setCell_same (heap_setCell_same (heap_setCell_same e2 (i := 0) (.int .i64 S.K)) (i := 1) (.slice a' S.Oil.length c')) (i := 2) (.int .i64 S.Away)
  rw [set3] at hrr
  have HRR := Lib.hid hrr
  clear hrr e2 hi' hf' hb1 f0 f1 f2 f3 f4
  go_wp2
  have c0 := cell_of_heap HRR.out 0
  have c1 := cell_of_heap HRR.out 1
  have c2 := cell_of_heap HRR.out 2
  simp at c0 c1 c2
  refine bodyPost_ret (v := .tuple #[.agg #[.int .i64 S.K, .slice a' S.Oil.length c', .int .i64 S.Away], .int .i64 E]) (by simp [results, Try.results18, go_sem, c0, c1, c2]) rfl ?_
  refine ⟨_, rfl, ⟨a', c', rfl, ?_, hn', hfr.out⟩, ?_⟩
  · exact IntsAt.setCell (IntsAt.setCell (IntsAt.setCell HI'.out hne.out _) hne.out _) hne.out _
  · exact ((HB.out.setCell (by simp; omega) _).setCell (by simp; omega) _).setCell (by simp; omega) _

def B0 : Bay := ⟨2, 1, [false, true], [(8, 4, 4, 0, 0), (0, 0, 0, 0, 0)]⟩
def s0 : Slk := ⟨0, [100, 0], 0⟩
theorem B0_valid : validP B0 := by
  refine ⟨by decide, by decide, by decide, by decide, ?_⟩
  intro i hi
  have : i = 0 ∨ i = 1 := by have : i < 2 := hi; omega
  rcases this with rfl | rfl
  · exact ⟨⟨by unfold inR; decide, by unfold inR; decide, by unfold inR; decide, by unfold inR; decide, by unfold inR; decide⟩, by decide⟩
  · exact ⟨⟨by unfold inR; decide, by unfold inR; decide, by unfold inR; decide, by unfold inR; decide, by unfold inR; decide⟩, by decide⟩
theorem s0_fits : fitsP B0 s0 := by
  refine ⟨by decide, by decide, ?_, by decide⟩
  refine amtB_iff.2 (fun k hk => ?_)
  have : k = 0 ∨ k = 1 := by have : k < 2 := hk; omega
  rcases this with rfl | rfl
  · exact okB_iff.2 (by decide)
  · exact okB_iff.2 (by decide)
theorem s0_E : aftE B0 s0 1 = 0 := by
  have h : okE B0 s0 = 0 := by unfold okE; rw [if_pos (validB_true B0_valid), if_pos (fitsB_true s0_fits)]
  unfold aftE
  rw [if_neg (by rw [h]; decide), if_neg (by decide), if_neg (by decide)]
theorem s0_S : aftS B0 s0 1 = ⟨1, [800, 400], 400⟩ := by
  unfold aftS
  rw [s0_E, if_pos rfl]
  kernel_rfl

theorem four_new {w : World} (c0 c1 c2 c3 : Array Value) (t0 t1 t2 t3 : TypeId) :
    Below w.heap.size w ((((w.alloc (.cells c0 t0)).alloc (.cells c1 t1)).alloc (.cells c2 t2)).alloc (.cells c3 t3)) ∧ ((((w.alloc (.cells c0 t0)).alloc (.cells c1 t1)).alloc (.cells c2 t2)).alloc (.cells c3 t3)).heap.size = w.heap.size + 4 ∧
    ((((w.alloc (.cells c0 t0)).alloc (.cells c1 t1)).alloc (.cells c2 t2)).alloc (.cells c3 t3)).heap[w.heap.size]? = some (.cells c0 t0 (0, 0)) ∧
    ((((w.alloc (.cells c0 t0)).alloc (.cells c1 t1)).alloc (.cells c2 t2)).alloc (.cells c3 t3)).heap[w.heap.size + 1]? = some (.cells c1 t1 (0, 0)) ∧
    ((((w.alloc (.cells c0 t0)).alloc (.cells c1 t1)).alloc (.cells c2 t2)).alloc (.cells c3 t3)).heap[w.heap.size + 1 + 1]? = some (.cells c2 t2 (0, 0)) ∧
    ((((w.alloc (.cells c0 t0)).alloc (.cells c1 t1)).alloc (.cells c2 t2)).alloc (.cells c3 t3)).heap[w.heap.size + 1 + 1 + 1]? = some (.cells c3 t3 (0, 0)) := by
  obtain ⟨f0, f1, f2, f3, f4⟩ := three_new (w := w) c0 c1 c2 t0 t1 t2
  refine ⟨f0.alloc (by omega) _, by rw [World.size_alloc, f1], heap_alloc_old f2 _, heap_alloc_old f3 _, heap_alloc_old f4 _, ?_⟩
  have := World.alloc_heap_new (((w.alloc (.cells c0 t0)).alloc (.cells c1 t1)).alloc (.cells c2 t2)) (.cells c3 t3)
  rwa [f1] at this

set_option maxHeartbeats 1000000 in
theorem Sane_any (w : World) : Calls Try.prog 17 #[] w fun e w' => e = .returned (.bool true) ∧ Below w.heap.size w w' := by
  obtain ⟨f0, f1, f2, f3, f4, f5⟩ := four_new (w := w) #[.bool false, .bool true] #[.int .i64 8, .int .i64 4, .int .i64 4, .int .i64 0, .int .i64 0, .int .i64 0, .int .i64 0, .int .i64 0, .int .i64 0, .int .i64 0]
    #[.int .i64 2, .int .i64 1, .slice (some ⟨w.heap.size, 0, none⟩) 2 2, .slice (some ⟨w.heap.size + 1, 0, none⟩) 2 2] #[.int .i64 100, .int .i64 0] 4 74 25 3
  go_enter Try.func17, Try.ntmps17
  go_wp2_with fail
  have hbay : BayAt _ (.agg #[.int .i64 2, .int .i64 1, .slice (some ⟨w.heap.size, 0, none⟩) 2 2, .slice (some ⟨w.heap.size + 1, 0, none⟩) 2 2]) B0 :=
    ⟨some ⟨w.heap.size, 0, none⟩, 2, some ⟨w.heap.size + 1, 0, none⟩, 2, rfl, bools_of_heap (l := [false, true]) f2, cells_of_heap (cs := B0.Share.flatMap Five.cells) f3, by decide, by decide⟩
  have hslk : SlkAt _ (.agg #[.int .i64 0, .slice (some ⟨w.heap.size + 1 + 1 + 1, 0, none⟩) 2 2, .int .i64 0]) s0 :=
    ⟨some ⟨w.heap.size + 1 + 1 + 1, 0, none⟩, 2, rfl, ints_of_heap (l := [100, 0]) f5, by decide⟩
  have hcall := Move_any _ _ B0 s0 _ hbay hslk
  rw [s0_E, s0_S] at hcall
  refine hcall.mono ?_
  rintro e w1 ⟨rv, rfl, ⟨a', c', rfl, hi', hn', hf'⟩, hb1⟩
  have HB : Hid (Below w.heap.size w w1) := f0.trans (hb1.mono (by omega))
  have hsz := hb1.size
  rw [f1] at hsz
  obtain ⟨b, off, rfl, hblt, hx0⟩ := hi'.get (k := 0) (by decide)
  have hx1 := (hi'.get (k := 1) (by decide))
  obtain ⟨b', off', e1, _, hx1⟩ := hx1
  cases e1
  simp at hx0 hx1
  clear hi' hn' hf' hb1 f0 f1 f2 f3 f4 f5 hbay hslk hcall
  go_wp2
  go_ret
  exact ⟨rfl, HB.out.alloc (by omega) _⟩
end Go.Proofs.Ytnafllhgjidbkaa
