/- Sum of two slicks. -/
import Derived.Test.YtnafllhgjidbkaaA2
import Derived.Test.YtnafllhgjidbkaaT25
import Derived.Test.YtnafllhgjidbkaaT28
import Derived.Deep.RegionHeld3
import Derived.Deep.Cut
namespace Go.Proofs.Ytnafllhgjidbkaa
open Go.RowKit Go.Shelf
set_option linter.unusedVariables false
set_option linter.unusedSimpArgs false
theorem Aft.bump {W : World} (x : Aft W) {w1 : World} (h : Below x.val.heap.size x.val w1) : ∃ y : Aft W, y.val = w1 := ⟨⟨w1, x.bel.trans (h.mono x.bel.size)⟩, rfl⟩
theorem sumE_cases (B : Bay) (s t : Slk) : (validP B ∧ fitsP B s ∧ fitsP B t) ∨ (sumE B s t = askE B [s, t] ∧ askE B [s, t] ≠ 0 ∧ sumS B s t = ⟨0, [], 0⟩) := by
  by_cases h1 : validP B
  · by_cases h2 : fitsB B s = true ∧ fitsB B t = true
    · exact .inl ⟨h1, fitsB_iff.1 h2.1, fitsB_iff.1 h2.2⟩
    · have e1 : askE B [s, t] = 21 := by rw [askE_two, if_pos (validB_true h1), if_neg h2]
      have e2 : sumE B s t = 21 := by unfold sumE; rw [if_pos (validB_true h1), if_neg (fun h => h2 ⟨h.1, h.2.1⟩)]
      exact .inr ⟨by rw [e1, e2], by rw [e1]; decide, by unfold sumS; rw [e2, if_neg (by decide)]⟩
  · have e1 : askE B [s, t] = 20 := by rw [askE_two, if_neg (by rw [validB_false h1]; simp)]
    have e2 : sumE B s t = 20 := by unfold sumE; rw [if_neg (by rw [validB_false h1]; simp)]
    exact .inr ⟨by rw [e1, e2], by rw [e1]; decide, by unfold sumS; rw [e2, if_neg (by decide)]⟩
theorem sumE_bad {B : Bay} {s t : Slk} (hval : validP B) (h : ¬ (s.K = t.K ∧ fitsB B (addS s t) = true)) : sumE B s t = 21 ∧ sumS B s t = ⟨0, [], 0⟩ := by
  have e2 : sumE B s t = 21 := by unfold sumE; rw [if_pos (validB_true hval), if_neg (fun hh => h ⟨hh.2.2.1, hh.2.2.2⟩)]
  exact ⟨e2, by unfold sumS; rw [e2, if_neg (by decide)]⟩
theorem sumE_ok {B : Bay} {s t : Slk} (hval : validP B) (hs : fitsP B s) (ht : fitsP B t) (hk : s.K = t.K) (hf : fitsB B (addS s t) = true) : sumE B s t = 0 ∧ sumS B s t = addS s t := by
  have e2 : sumE B s t = 0 := by unfold sumE; rw [if_pos (validB_true hval), if_pos ⟨fitsB_true hs, fitsB_true ht, hk, hf⟩]
  exact ⟨e2, by unfold sumS; rw [e2, if_pos rfl]⟩

def mixL (a b : List Int) (k : Nat) : List Int := (List.range a.length).map (fun j => a.getD j 0 + if j < k then b.getD j 0 else 0)
theorem mixL_len (a b : List Int) (k : Nat) : (mixL a b k).length = a.length := by simp [mixL]
theorem mixL_get (a b : List Int) {k j : Nat} (h : j < a.length) : (mixL a b k).getD j 0 = a.getD j 0 + if j < k then b.getD j 0 else 0 := by
  unfold mixL; simp [List.getD_eq_getElem?_getD, h]
theorem mixL_zero (a b : List Int) : mixL a b 0 = a := list_ext_getD (mixL_len _ _ _) (fun j hj => by rw [mixL_get a b (by rwa [mixL_len] at hj)]; simp)
theorem mixL_all (a b : List Int) (h : a.length = b.length) : mixL a b a.length = addL a b := list_ext_getD (by rw [mixL_len, addL_len h]) (fun j hj => by
  rw [mixL_len] at hj; rw [mixL_get a b hj, addL_get h, if_pos hj])
theorem getD_set (l : List Int) (k j : Nat) (v : Int) (hk : k < l.length) : (l.set k v).getD j 0 = if j = k then v else l.getD j 0 := by
  rw [List.getD_eq_getElem?_getD, List.getElem?_set]
  by_cases e : k = j
  · subst e; simp [hk]
  · rw [if_neg e, if_neg (by omega), List.getD_eq_getElem?_getD]
theorem mixL_set (a b : List Int) {k : Nat} (h : k < a.length) : (mixL a b k).set k (a.getD k 0 + b.getD k 0) = mixL a b (k + 1) := list_ext_getD (by simp [mixL_len]) (fun j hj => by
  have hj' : j < a.length := by simpa [mixL_len] using hj
  rw [getD_set _ _ _ _ (by rw [mixL_len]; exact h), mixL_get a b hj', mixL_get a b hj']
  by_cases e : j = k
  · subst e; simp
  · rw [if_neg e]
    by_cases h1 : j < k
    · rw [if_pos h1, if_pos (by omega)]
    · rw [if_neg h1, if_neg (by omega)])
theorem own_open {w : World} {base : Nat} {v : Value} {l : List Int} (h : w.ownsRow base 3 1 v l.length (l.map (Value.int .i64))) (h0 : 0 < l.length) :
    ∃ g c rest, v = .slice (some ⟨g, 0, none⟩) l.length c ∧ base ≤ g ∧ w.heap[g]? = some (.cells (l.map (Value.int .i64) ++ rest).toArray 3 (0, 0)) := by
  obtain ⟨h1, ⟨rfl, h2⟩ | ⟨g, cap, cur, rfl, hb, hh, hn, hm, hs, ht⟩⟩ := h
  · omega
  · refine ⟨g, cap, cur.toList.drop l.length, rfl, hb, ?_⟩
    rw [hh, ← ht]
    simp
theorem ints_of_row {W : World} {g : Nat} {l : List Int} {rest : List Value} {t : TypeId} {f : Nat × Nat} (h : W.heap[g]? = some (.cells (l.map (Value.int .i64) ++ rest).toArray t f)) : IntsAt W (some ⟨g, 0, none⟩) l := by
  intro hne
  refine ⟨g, 0, rfl, heap_lt h, fun i hi => ?_⟩
  rw [Nat.zero_add, cell_of_heap h i]
  have hi' : i < l.length := by simpa using hi
  simp [List.getD_eq_getElem?_getD, List.getElem?_append_left, hi']
theorem row_get {W : World} {g : Nat} {l : List Int} {rest : List Value} {t : TypeId} {f : Nat × Nat} (h : W.heap[g]? = some (.cells (l.map (Value.int .i64) ++ rest).toArray t f)) {k : Nat} (hk : k < l.length) : W.cell? ⟨g, k, none⟩ = some (.int .i64 (l.getD k 0)) := by
  rw [cell_of_heap h k]
  simp [List.getD_eq_getElem?_getD, List.getElem?_append_left, hk]
theorem row_set {l : List Int} {rest : List Value} {k : Nat} (v : Int) (h : k < l.length) : (l.map (Value.int .i64) ++ rest).toArray.setIfInBounds k (.int .i64 v) = ((l.set k v).map (Value.int .i64) ++ rest).toArray := by
  simp [List.set_append, h, List.map_set]

theorem lim_le' {K : Int} (h0 : 0 ≤ K) (h5 : K ≤ 5) : lim K ≤ 37748736000 := by have := (pow_bd K h0 h5).2; unfold lim; omega
theorem cell3 {w : World} {b c o : Nat} {u v x : Value} (h : c ≠ b) : (((w.setCell ⟨b, 0, none⟩ u).setCell ⟨b, 1, none⟩ v).setCell ⟨b, 2, none⟩ x).cell? ⟨c, o, none⟩ = w.cell? ⟨c, o, none⟩ := by
  rw [World.cell?_of_block (a := ⟨c, o, none⟩) (heap_setCell_other h _), World.cell?_of_block (a := ⟨c, o, none⟩) (heap_setCell_other h _), World.cell?_of_block (a := ⟨c, o, none⟩) (heap_setCell_other h _)]
set_option maxRecDepth 100000 in
set_option maxHeartbeats 4000000 in
theorem Sum_any (v sv tv : Value) (B : Bay) (s t : Slk) (w : World) (hv : BayAt w v B) (hs : SlkAt w sv s) (ht : SlkAt w tv t) :
    Calls Try.prog 40 #[v, sv, tv] w (Aft3 w (sumS B s t) (sumE B s t)) := by
  have HV := Lib.hid (fun W (h : Below w.heap.size w W) => hv.below (Nat.le_refl _) h)
  have HS := Lib.hid (fun W (h : Below w.heap.size w W) => hs.below (Nat.le_refl _) h)
  have HT := Lib.hid (fun W (h : Below w.heap.size w W) => ht.below (Nat.le_refl _) h)
  obtain ⟨la, lc, sa, sc, rfl, hl, hsh, hll, hsl⟩ := hv
  obtain ⟨ao, c, rfl, hi, hn⟩ := hs
  obtain ⟨bo, d, rfl, hj, hm⟩ := ht
  have HI := Lib.hid (fun W (h : Below w.heap.size w W) => hi.below (Nat.le_refl _) h)
  have HJ := Lib.hid (fun W (h : Below w.heap.size w W) => hj.below (Nat.le_refl _) h)
  clear hl hsh hi hj
  have FF := Lib.hid (four_new (w := w) #[.int .i64 B.W, .int .i64 B.H, .slice la B.Land.length lc, .slice sa B.Share.length sc] #[.int .i64 s.K, .slice ao s.Oil.length c, .int .i64 s.Away] #[.int .i64 t.K, .slice bo t.Oil.length d, .int .i64 t.Away] #[.int .i64 0, .slice none 0 0, .int .i64 0] 25 28 28 28)
  go_enter Try.func40, Try.ntmps40
  go_wp2_with fail
  generalize hW : ((((w.alloc _).alloc _).alloc _).alloc _) = W at *
  clear hW
  obtain ⟨f0, f1, f2, f3, f4, f5⟩ := FF.out
  clear FF
  obtain ⟨x0, hx0⟩ : ∃ x : Aft W, x.val = W := ⟨⟨W, Below.refl _ W⟩, rfl⟩
  have F0 : Hid (Below w.heap.size w W) := f0
  have FZ : Hid (W.heap.size = w.heap.size + 4) := f1
  have FZ0 := Lib.hid (show x0.val.heap.size = w.heap.size + 4 by rw [hx0]; exact f1)
  have G0 : Hid (W.heap[w.heap.size]? = some (.cells #[.int .i64 B.W, .int .i64 B.H, .slice la B.Land.length lc, .slice sa B.Share.length sc] 25 (0, 0))) := f2
  have d0_0 : ∀ x : Aft W, x.val.cell? ⟨w.heap.size, 0, none⟩ = some (.int .i64 B.W) := fun x => cell_of_heap (x.heapH f2) 0
  have d0_1 : ∀ x : Aft W, x.val.cell? ⟨w.heap.size, 1, none⟩ = some (.int .i64 B.H) := fun x => cell_of_heap (x.heapH f2) 1
  have d0_2 : ∀ x : Aft W, x.val.cell? ⟨w.heap.size, 2, none⟩ = some (.slice la B.Land.length lc) := fun x => cell_of_heap (x.heapH f2) 2
  have d0_3 : ∀ x : Aft W, x.val.cell? ⟨w.heap.size, 3, none⟩ = some (.slice sa B.Share.length sc) := fun x => cell_of_heap (x.heapH f2) 3
  have e0_0 : ∀ (x : Aft W) (o : Obj), (x.val.alloc o).cell? ⟨w.heap.size, 0, none⟩ = some (.int .i64 B.W) := fun x o => cell_of_heap (heap_alloc_old (x.heapH f2) o) 0
  have e0_1 : ∀ (x : Aft W) (o : Obj), (x.val.alloc o).cell? ⟨w.heap.size, 1, none⟩ = some (.int .i64 B.H) := fun x o => cell_of_heap (heap_alloc_old (x.heapH f2) o) 1
  have e0_2 : ∀ (x : Aft W) (o : Obj), (x.val.alloc o).cell? ⟨w.heap.size, 2, none⟩ = some (.slice la B.Land.length lc) := fun x o => cell_of_heap (heap_alloc_old (x.heapH f2) o) 2
  have e0_3 : ∀ (x : Aft W) (o : Obj), (x.val.alloc o).cell? ⟨w.heap.size, 3, none⟩ = some (.slice sa B.Share.length sc) := fun x o => cell_of_heap (heap_alloc_old (x.heapH f2) o) 3
  have G1 : Hid (W.heap[w.heap.size + 1]? = some (.cells #[.int .i64 s.K, .slice ao s.Oil.length c, .int .i64 s.Away] 28 (0, 0))) := f3
  have d1_0 : ∀ x : Aft W, x.val.cell? ⟨w.heap.size + 1, 0, none⟩ = some (.int .i64 s.K) := fun x => cell_of_heap (x.heapH f3) 0
  have d1_1 : ∀ x : Aft W, x.val.cell? ⟨w.heap.size + 1, 1, none⟩ = some (.slice ao s.Oil.length c) := fun x => cell_of_heap (x.heapH f3) 1
  have d1_2 : ∀ x : Aft W, x.val.cell? ⟨w.heap.size + 1, 2, none⟩ = some (.int .i64 s.Away) := fun x => cell_of_heap (x.heapH f3) 2
  have e1_0 : ∀ (x : Aft W) (o : Obj), (x.val.alloc o).cell? ⟨w.heap.size + 1, 0, none⟩ = some (.int .i64 s.K) := fun x o => cell_of_heap (heap_alloc_old (x.heapH f3) o) 0
  have e1_1 : ∀ (x : Aft W) (o : Obj), (x.val.alloc o).cell? ⟨w.heap.size + 1, 1, none⟩ = some (.slice ao s.Oil.length c) := fun x o => cell_of_heap (heap_alloc_old (x.heapH f3) o) 1
  have e1_2 : ∀ (x : Aft W) (o : Obj), (x.val.alloc o).cell? ⟨w.heap.size + 1, 2, none⟩ = some (.int .i64 s.Away) := fun x o => cell_of_heap (heap_alloc_old (x.heapH f3) o) 2
  have G2 : Hid (W.heap[w.heap.size + 1 + 1]? = some (.cells #[.int .i64 t.K, .slice bo t.Oil.length d, .int .i64 t.Away] 28 (0, 0))) := f4
  have d2_0 : ∀ x : Aft W, x.val.cell? ⟨w.heap.size + 1 + 1, 0, none⟩ = some (.int .i64 t.K) := fun x => cell_of_heap (x.heapH f4) 0
  have d2_1 : ∀ x : Aft W, x.val.cell? ⟨w.heap.size + 1 + 1, 1, none⟩ = some (.slice bo t.Oil.length d) := fun x => cell_of_heap (x.heapH f4) 1
  have d2_2 : ∀ x : Aft W, x.val.cell? ⟨w.heap.size + 1 + 1, 2, none⟩ = some (.int .i64 t.Away) := fun x => cell_of_heap (x.heapH f4) 2
  have e2_0 : ∀ (x : Aft W) (o : Obj), (x.val.alloc o).cell? ⟨w.heap.size + 1 + 1, 0, none⟩ = some (.int .i64 t.K) := fun x o => cell_of_heap (heap_alloc_old (x.heapH f4) o) 0
  have e2_1 : ∀ (x : Aft W) (o : Obj), (x.val.alloc o).cell? ⟨w.heap.size + 1 + 1, 1, none⟩ = some (.slice bo t.Oil.length d) := fun x o => cell_of_heap (heap_alloc_old (x.heapH f4) o) 1
  have e2_2 : ∀ (x : Aft W) (o : Obj), (x.val.alloc o).cell? ⟨w.heap.size + 1 + 1, 2, none⟩ = some (.int .i64 t.Away) := fun x o => cell_of_heap (heap_alloc_old (x.heapH f4) o) 2
  have G3 : Hid (W.heap[w.heap.size + 1 + 1 + 1]? = some (.cells #[.int .i64 0, .slice none 0 0, .int .i64 0] 28 (0, 0))) := f5
  have d3_0 : ∀ x : Aft W, x.val.cell? ⟨w.heap.size + 1 + 1 + 1, 0, none⟩ = some (.int .i64 0) := fun x => cell_of_heap (x.heapH f5) 0
  have d3_1 : ∀ x : Aft W, x.val.cell? ⟨w.heap.size + 1 + 1 + 1, 1, none⟩ = some (.slice none 0 0) := fun x => cell_of_heap (x.heapH f5) 1
  have d3_2 : ∀ x : Aft W, x.val.cell? ⟨w.heap.size + 1 + 1 + 1, 2, none⟩ = some (.int .i64 0) := fun x => cell_of_heap (x.heapH f5) 2
  have e3_0 : ∀ (x : Aft W) (o : Obj), (x.val.alloc o).cell? ⟨w.heap.size + 1 + 1 + 1, 0, none⟩ = some (.int .i64 0) := fun x o => cell_of_heap (heap_alloc_old (x.heapH f5) o) 0
  have e3_1 : ∀ (x : Aft W) (o : Obj), (x.val.alloc o).cell? ⟨w.heap.size + 1 + 1 + 1, 1, none⟩ = some (.slice none 0 0) := fun x o => cell_of_heap (heap_alloc_old (x.heapH f5) o) 1
  have e3_2 : ∀ (x : Aft W) (o : Obj), (x.val.alloc o).cell? ⟨w.heap.size + 1 + 1 + 1, 2, none⟩ = some (.int .i64 0) := fun x o => cell_of_heap (heap_alloc_old (x.heapH f5) o) 2
  have z3 : ∀ (x : Aft W) (o : Nat), x.val.frozen? ⟨w.heap.size + 1 + 1 + 1, o, none⟩ = false := fun x o => free_of_heap (x.heapH f5) o
  rw [← hx0]
  clear hx0 f0 f1 f2 f3 f4 f5
  have hsl2 := slks_two (w := x0.val) (c := c) (d := d) (HI.out _ (Aft.off F0.out x0)) (HJ.out _ (Aft.off F0.out x0)) hn hm
  rw [FZ0.out] at hsl2
  have HC0 := Lib.hid (asked_any _ B _ 2 [s, t] _ hsl2 (HV.out _ ((Aft.off F0.out x0).alloc (Aft.off F0.out x0).size _)) (by simp))
  clear hsl2
  refine (HC0.out).mono ?_
  rintro e w1 ⟨rfl, hb⟩
  obtain ⟨x1, rfl, lk0'⟩ := x0.step (((Below.refl _ _).alloc (Nat.le_refl _) _).trans (hb.mono (by simp)))
  have lk0 := Lib.hid lk0'
  clear hb lk0'
  clear HC0
  have hlt3 : Hid (∀ x : Aft W, w.heap.size + 1 + 1 + 1 < x.val.heap.size) := fun x => by have := x.size_le; have := FZ.out; omega
  have zeroend : Hid (∀ (x : Aft W) (E : Int), sumE B s t = E → sumS B s t = ⟨0, [], 0⟩ → Aft3 w (sumS B s t) (sumE B s t) (.returned (.tuple #[.agg #[.int .i64 0, .slice none 0 0, .int .i64 0], .int .i64 E])) (((x.val.setCell ⟨w.heap.size + 1 + 1 + 1, 0, none⟩ (.int .i64 0)).setCell ⟨w.heap.size + 1 + 1 + 1, 1, none⟩ (.slice none 0 0)).setCell ⟨w.heap.size + 1 + 1 + 1, 2, none⟩ (.int .i64 0))) := by
    intro x E hE h0
    refine ⟨_, by rw [hE], ?_, (((Aft.off F0.out x).setCell (by simp; omega) _).setCell (by simp; omega) _).setCell (by simp; omega) _⟩
    rw [h0]
    exact zero_new _ _
  rcases sumE_cases B s t with ⟨hval, hf, hg⟩ | ⟨e1, e2, e3⟩
  case inr =>
    have HZ := Lib.hid (zeroend.out x1 _ e1 e3)
    have hsz := hlt3.out x1
    generalize askE B [s, t] = E at *
    have hb : (E != 0) = true := by simpa using e2
    clear zeroend e1 e2 e3
    go_wp2
    refine bodyPost_ret (v := .tuple #[.agg #[.int .i64 0, .slice none 0 0, .int .i64 0], .int .i64 E]) (by simp [results, Try.results40, go_sem, d3_0, d3_1, d3_2, hsz]) rfl HZ.out
  have h00 : askE B [s, t] = 0 := by rw [askE_two, if_pos (validB_true hval), if_pos ⟨fitsB_true hf, fitsB_true hg⟩]
  rw [h00]
  clear h00
  have hl1 := fits_pre hval hf
  have hl2 := fits_pre hval hg
  have h36 : 1 ≤ s.Oil.length ∧ s.Oil.length ≤ 36 := by have := mul36 hval.1.1 hval.1.2 hval.2.1.1 hval.2.1.2; have := hf.2.1; omega
  have hST := Lib.hid (show s.Oil.length = t.Oil.length by omega)
  have HVAL := Lib.hid hval
  have HFS := Lib.hid hf
  have HFT := Lib.hid hg
  have hbA : 0 ≤ s.Away ∧ s.Away ≤ 37748736000 := by have := hf.2.2.2; have := lim_le' hf.1.1 hf.1.2; have := sum_bd s.Oil (amt_range hf.2.2.1); omega
  have hbB : 0 ≤ t.Away ∧ t.Away ≤ 37748736000 := by have := hg.2.2.2; have := lim_le' hg.1.1 hg.1.2; have := sum_bd t.Oil (amt_range hg.2.2.1); omega
  have hbO : ∀ k, k < s.Oil.length → 0 ≤ s.Oil.getD k 0 ∧ s.Oil.getD k 0 ≤ 37748736000 := fun k hk => by have := amt_range hf.2.2.1 k hk; have := lim_le' hf.1.1 hf.1.2; omega
  have hbT : ∀ k, k < t.Oil.length → 0 ≤ t.Oil.getD k 0 ∧ t.Oil.getD k 0 ≤ 37748736000 := fun k hk => by have := amt_range hg.2.2.1 k hk; have := lim_le' hg.1.1 hg.1.2; omega
  have HBO := Lib.hid hbO
  have HBT := Lib.hid hbT
  clear hbO hbT
  clear hval hf hg hl1 hl2
  go_wp2_with fail
  rename_i KK hKK
  have key : Hid (∀ (bx g c' : Nat) (rest : List Value) (x2 : Aft W) (u0 u1 u2 u7 u8 u10 u11 u12 u13 u14 u15 u16 u17 u18 u19 u20 u21 u22 u23 u24 u25 u26 u27 u28 u29 u30 u31 u32 u33 u34 u35 u36 u37 u38 u39 u40 u41 u42 u43 u44 u45 u46 u47 u48 u49 u50 u51 u52 u53 u54 u55 u56 u57 u58 u59 u60 u61 : Value), w.heap.size + 4 ≤ bx → w.heap.size + 4 ≤ g → g ≠ bx → x2.val.heap[bx]? = some (.cells #[.int .i64 s.K, .slice (some ⟨g, 0, none⟩) s.Oil.length c', .int .i64 (s.Away + t.Away)] 28 (0, 0)) →
      x2.val.heap[g]? = some (.cells (s.Oil.map (Value.int .i64) ++ rest).toArray 3 (0, 0)) → KK { tmps := List.toArray (u0 :: u1 :: u2 :: (.pointer (some ⟨w.heap.size, 0, none⟩)) :: (.pointer (some ⟨w.heap.size + 1, 0, none⟩)) :: (.pointer (some ⟨w.heap.size + 1 + 1, 0, none⟩)) :: (.pointer (some ⟨w.heap.size + 1 + 1 + 1, 0, none⟩)) :: u7 :: u8 :: (.pointer (some ⟨bx, 0, none⟩)) :: u10 :: u11 :: u12 :: u13 :: u14 :: u15 :: u16 :: u17 :: u18 :: u19 :: u20 :: u21 :: u22 :: u23 :: u24 :: u25 :: u26 :: u27 :: u28 :: u29 :: u30 :: u31 :: u32 :: u33 :: u34 :: u35 :: u36 :: u37 :: u38 :: u39 :: u40 :: u41 :: u42 :: u43 :: u44 :: u45 :: u46 :: u47 :: u48 :: u49 :: u50 :: u51 :: u52 :: u53 :: u54 :: u55 :: u56 :: u57 :: u58 :: u59 :: u60 :: u61 :: []), defers := [] } x2.val) := by
    intro bx g c' rest x2 u0 u1 u2 u7 u8 u10 u11 u12 u13 u14 u15 u16 u17 u18 u19 u20 u21 u22 u23 u24 u25 u26 u27 u28 u29 u30 u31 u32 u33 u34 u35 u36 u37 u38 u39 u40 u41 u42 u43 u44 u45 u46 u47 u48 u49 u50 u51 u52 u53 u54 u55 u56 u57 u58 u59 u60 u61 hbx hg hne hB hG
    apply hKK
    have c0 := cell_of_heap hB 0
    have c1 := cell_of_heap hB 1
    have c2 := cell_of_heap hB 2
    simp at c0 c1 c2
    have hlb := heap_lt hB
    have hlg := heap_lt hG
    rw [← mixL_zero s.Oil t.Oil] at hG
    have HB := Lib.hid hB
    have HG := Lib.hid hG
    clear hB hG
    have hWle : W.heap.size ≤ g := by have := FZ.out; omega
    go_wp2_with fail
    clear c0 c1 c2 hlb hlg
    go_loopw [35] (fun i wr => ∃ (k : Nat) (x : Aft W), wr = x.val ∧ k ≤ t.Oil.length ∧ i = .int .i64 k ∧ x.val.heap[bx]? = some (.cells #[.int .i64 s.K, .slice (some ⟨g, 0, none⟩) s.Oil.length c', .int .i64 (s.Away + t.Away)] 28 (0, 0)) ∧
      x.val.heap[g]? = some (.cells ((mixL s.Oil t.Oil k).map (Value.int .i64) ++ rest).toArray 3 (0, 0))) (fun i _ => t.Oil.length - (intOf i).toNat)
    case atStart => exact ⟨0, x2, rfl, Nat.zero_le _, rfl, HB.out, HG.out⟩
    case round =>
      obtain ⟨k, x3, rfl, hk, rfl, hB, hG⟩ := hrel
      have c0 := cell_of_heap hB 0
      have c1 := cell_of_heap hB 1
      have c2 := cell_of_heap hB 2
      simp at c0 c1 c2
      have hlb := heap_lt hB
      have hlg := heap_lt hG
      by_cases hlt : k < t.Oil.length
      · have hks : k < s.Oil.length := by have := hST.out; omega
        have hks' : (k : Int) < s.Oil.length := by omega
        obtain ⟨bs, os, rfl, hbs, hcs⟩ := (HJ.out _ (Aft.off F0.out x3)).get hlt
        have hcg := row_get hG (k := k) (by rw [mixL_len]; exact hks)
        rw [mixL_get s.Oil t.Oil hks, if_neg (by omega), Int.add_zero] at hcg
        have hfg := free_of_heap hG k
        have hb1 := HBO.out k hks
        have hb2 := HBT.out k hlt
        have hset := heap_setCell_same hG (i := k) (.int .i64 (s.Oil.getD k 0 + t.Oil.getD k 0))
        rw [row_set _ (by rw [mixL_len]; exact hks), mixL_set _ _ hks] at hset
        have hbo := (heap_setCell_other (W := x3.val) (b := bx) (p := ⟨g, k, none⟩) (by show bx ≠ g; omega) (.int .i64 (s.Oil.getD k 0 + t.Oil.getD k 0))).trans hB
        have hbel := x3.bel.setCell (p := ⟨g, k, none⟩) (by show _ ≤ g; exact hWle) (.int .i64 (s.Oil.getD k 0 + t.Oil.getD k 0))
        have HSET := Lib.hid hset
        have HBO2 := Lib.hid hbo
        have HBEL := Lib.hid hbel
        clear hset hbo hbel
        clear hB hG
        generalize s.Oil.getD k 0 = u at *
        generalize t.Oil.getD k 0 = y at *
        go_wp2
        go_roundw
        case rel => exact ⟨k + 1, ⟨_, HBEL.out⟩, rfl, by omega, by go_num, HBO2.out, HSET.out⟩
        case measure => simp [intOf]; omega
      · obtain rfl : k = t.Oil.length := by omega
        rw [← hST.out, mixL_all _ _ hST.out] at hG
        have hsl : SlkAt x3.val (.agg #[.int .i64 s.K, .slice (some ⟨g, 0, none⟩) s.Oil.length c', .int .i64 (s.Away + t.Away)]) (addS s t) :=
          ⟨some ⟨g, 0, none⟩, c', by show _ = Value.agg #[_, .slice _ (addL s.Oil t.Oil).length _, _]; rw [addL_len hST.out]; rfl, ints_of_row hG, by show (addL s.Oil t.Oil).length < _; rw [addL_len hST.out]; omega⟩
        have hsz := hlt3.out x3
        by_cases hK : s.K = t.K
        · have hb : (s.K != t.K) = false := by simp [hK]
          have hfc := fits_any _ _ B (addS s t) x3.val (HV.out _ (Aft.off F0.out x3)) hsl HVAL.out
          cases hfB : fitsB B (addS s t)
          · obtain ⟨e1, e2⟩ := sumE_bad (B := B) (s := s) (t := t) HVAL.out (fun h => by rw [hfB] at h; cases h.2)
            rw [hfB] at hfc
            have HZ := Lib.hid (fun x => zeroend.out x _ e1 e2)
            have HFC := Lib.hid hfc
            have HG2 := Lib.hid hG
            have HB2 := Lib.hid hB
            have HSL := Lib.hid hsl
            clear hfc hG hB hsl
            clear hK e1 e2 hfB zeroend
            go_wp2_with fail
            refine (HFC.out).mono ?_
            rintro e w1 ⟨rfl, hb⟩
            obtain ⟨x4, rfl, lk3'⟩ := x3.step (hb)
            have lk3 := Lib.hid lk3'
            clear hb lk3'
            have hsz4 := hlt3.out x4
            go_wp2
            refine bodyPost_ret (v := .tuple #[.agg #[.int .i64 0, .slice none 0 0, .int .i64 0], .int .i64 21]) (by simp [results, Try.results40, go_sem, d3_0, d3_1, d3_2, hsz4]) rfl (HZ.out x4)
          · have HI3 : Hid (IntsAt x3.val (some ⟨g, 0, none⟩) (addS s t).Oil) := ints_of_row hG
            obtain ⟨e1, e2⟩ := sumE_ok HVAL.out HFS.out HFT.out hK hfB
            rw [hfB] at hfc
            have HFC := Lib.hid hfc
            have HG2 := Lib.hid hG
            have HB2 := Lib.hid hB
            have HSL := Lib.hid hsl
            have E1 := Lib.hid e1
            have E2 := Lib.hid e2
            clear hfc hG hB hsl e1 e2
            clear hK hfB zeroend
            go_wp2_with fail
            refine (HFC.out).mono ?_
            rintro e w1 ⟨rfl, hb⟩
            obtain ⟨x4, rfl, lk3'⟩ := x3.step (hb)
            have lk3 := Lib.hid lk3'
            clear hb lk3'
            have hsz4 := hlt3.out x4
            have hB4 := (lk3.out.block _ (heap_lt HB2.out)).trans HB2.out
            have hI4 : IntsAt x4.val (some ⟨g, 0, none⟩) (addS s t).Oil := HI3.out.below (Nat.le_refl _) lk3.out
            have c0 := cell_of_heap hB4 0
            have c1 := cell_of_heap hB4 1
            have c2 := cell_of_heap hB4 2
            simp at c0 c1 c2
            have E3 := Lib.hid (res3 (x4.heapH G3.out) (.int .i64 s.K) (.slice (some ⟨g, 0, none⟩) s.Oil.length c') (.int .i64 (s.Away + t.Away)))
            have HB4 := Lib.hid hB4
            have HI4 := Lib.hid hI4
            clear hB4 hI4
            go_wp2
            obtain ⟨r0, r1, r2⟩ := res3c E3.out
            refine bodyPost_ret (v := .tuple #[.agg #[.int .i64 s.K, .slice (some ⟨g, 0, none⟩) s.Oil.length c', .int .i64 (s.Away + t.Away)], .int .i64 0]) (by simp [results, Try.results40, go_sem, r0, r1, r2]) rfl ?_
            rw [E1.out, E2.out]
            have hal : (addS s t).Oil.length = s.Oil.length := addL_len hST.out
            refine ⟨_, rfl, ⟨some ⟨g, 0, none⟩, c', by rw [hal]; rfl, ?_, by rw [hal]; omega, ?_⟩, ?_⟩
            · have h2 : ∀ a, some (⟨g, 0, none⟩ : Addr) = some a → a.block ≠ w.heap.size + 1 + 1 + 1 := fun a ha => by cases ha; show g ≠ _; omega
              exact IntsAt.setCell (IntsAt.setCell (IntsAt.setCell HI4.out h2 _) h2 _) h2 _
            · intro a ha; cases ha; show _ ≤ g; omega
            · exact (((Aft.off F0.out x4).setCell (by simp; omega) _).setCell (by simp; omega) _).setCell (by simp; omega) _
        · have hb : (s.K != t.K) = true := by simpa using hK
          obtain ⟨e1, e2⟩ := sumE_bad (B := B) (s := s) (t := t) HVAL.out (fun h => hK h.1)
          have HZ := Lib.hid (zeroend.out x3 _ e1 e2)
          have HG2 := Lib.hid hG
          have HB2 := Lib.hid hB
          have HSL := Lib.hid hsl
          clear hG hB hsl
          clear hK e1 e2 zeroend
          go_wp2
          refine bodyPost_ret (v := .tuple #[.agg #[.int .i64 0, .slice none 0 0, .int .i64 0], .int .i64 21]) (by simp [results, Try.results40, go_sem, d3_0, d3_1, d3_2, hsz]) rfl HZ.out
  clear hKK
  have hwA : IntKind.i64.wrap (s.Away + t.Away) = s.Away + t.Away := IntWalk.i64_in _ (by omega)
  have HWA := Lib.hid hwA
  clear hwA
  have q0 := d1_0 x1
  have q1 := d1_1 x1
  have q2 := d1_2 x1
  have q3 := d2_2 x1
  have hx1 := Lib.hid x1.bel
  have HN1 := Lib.hid (show w.heap.size + 1 ≠ x1.val.heap.size by have := x1.size_le; have := FZ.out; omega)
  have HN2 := Lib.hid (show w.heap.size + 1 + 1 ≠ x1.val.heap.size by have := x1.size_le; have := FZ.out; omega)
  go_region_held3 (fun w' => w'.cell? ⟨w.heap.size + 1, 0, none⟩ = some (.int .i64 s.K) ∧ w'.cell? ⟨w.heap.size + 1, 1, none⟩ = some (.slice ao s.Oil.length c) ∧ w'.cell? ⟨w.heap.size + 1, 2, none⟩ = some (.int .i64 s.Away) ∧ w'.cell? ⟨w.heap.size + 1 + 1, 2, none⟩ = some (.int .i64 t.Away)) (first | (with_reducible exact ⟨d1_0 y, d1_1 y, d1_2 y, d2_2 y⟩) | (with_reducible exact ⟨e1_0 y _, e1_1 y _, e1_2 y _, e2_2 y _⟩) | (with_reducible exact ⟨(cell3 HN1.out).trans (d1_0 y), (cell3 HN1.out).trans (d1_1 y), (cell3 HN1.out).trans (d1_2 y), (cell3 HN2.out).trans (d2_2 y)⟩) | go_keep) (first | (go_at_call 71; refine (clone_any ao c s.Oil _ (HI.out _ (by first | exact (Aft.off F0.out x1).drew | exact ((Aft.off F0.out x1).alloc (Aft.off F0.out x1).size _).drew)) (by omega)).mono ?_; rintro e w5 ⟨rv, rfl, hown, hb⟩; have hbW : Below W.heap.size W w5 := (by first | exact hx1.out.drew.trans (hb.mono hx1.out.size) | exact ((hx1.out.alloc hx1.out.size _).drew).trans (hb.mono (by have := hx1.out.size; simp; omega))); obtain ⟨y, rfl⟩ : ∃ y : Aft W, y.val = w5 := ⟨⟨w5, hbW⟩, rfl⟩; obtain ⟨g, c5, rest, rfl, hg, hG⟩ := own_open hown (by omega); have HG5 := Lib.hid hG; have HB5 := Lib.hid hb; clear hbW hown hG; first | (have k : y.val.heap[x1.val.heap.size]? = some (.cells #[.int .i64 0, .slice none 0 0, .int .i64 0] 28 (0, 0)) := (hb.block x1.val.heap.size (by simp)).trans (World.alloc_heap_new _ _); have k0 := cell_of_heap k 0; have k1 := cell_of_heap k 1; have k2 := cell_of_heap k 2; simp at k0 k1 k2; have kf : ∀ o, y.val.frozen? ⟨x1.val.heap.size, o, none⟩ = false := fun o => free_of_heap k o; have klt := heap_lt k; have KB := Lib.hid k; clear hb k) | clear hb))
  · obtain ⟨z, hz⟩ : ∃ z : Aft W, z.val = y.val.alloc (.cells #[.int .i64 s.K, .slice (some ⟨g, 0, none⟩) s.Oil.length c5, .int .i64 (IntKind.i64.wrap (s.Away + t.Away))] 28) := ⟨⟨_, y.bel.alloc y.bel.size _⟩, rfl⟩
    have hB := World.alloc_heap_new y.val (.cells #[.int .i64 s.K, .slice (some ⟨g, 0, none⟩) s.Oil.length c5, .int .i64 (IntKind.i64.wrap (s.Away + t.Away))] 28)
    have hG := heap_alloc_old HG5.out (.cells #[.int .i64 s.K, .slice (some ⟨g, 0, none⟩) s.Oil.length c5, .int .i64 (IntKind.i64.wrap (s.Away + t.Away))] 28)
    rw [← hz] at hB hG ⊢
    rw [HWA.out] at hB
    have h1 := y.size_le
    have h2 := FZ.out
    have h3 := heap_lt HG5.out
    have h4 : x1.val.heap.size ≤ g := hg
    have h5 := x1.size_le
    show KK _ _
    exact key.out y.val.heap.size g c5 rest z _ _ _ _ _ _ _ _ _ _ _ _ _ _ _ _ _ _ _ _ _ _ _ _ _ _ _ _ _ _ _ _ _ _ _ _ _ _ _ _ _ _ _ _ _ _ _ _ _ _ _ _ _ _ _ _ _ (by omega) (by omega) (by omega) hB hG
  · obtain ⟨z, hz⟩ : ∃ z : Aft W, z.val = ((y.val.setCell ⟨x1.val.heap.size, 0, none⟩ (.int .i64 s.K)).setCell ⟨x1.val.heap.size, 1, none⟩ (.slice (some ⟨g, 0, none⟩) s.Oil.length c5)).setCell ⟨x1.val.heap.size, 2, none⟩ (.int .i64 (IntKind.i64.wrap (s.Away + t.Away))) :=
      ⟨⟨_, ((y.bel.setCell (p := ⟨x1.val.heap.size, 0, none⟩) x1.size_le _).setCell (p := ⟨x1.val.heap.size, 1, none⟩) x1.size_le _).setCell (p := ⟨x1.val.heap.size, 2, none⟩) x1.size_le _⟩, rfl⟩
    have hB := res3 KB.out (.int .i64 s.K) (.slice (some ⟨g, 0, none⟩) s.Oil.length c5) (.int .i64 (IntKind.i64.wrap (s.Away + t.Away)))
    have h4 : x1.val.heap.size + 1 ≤ g := by simpa using hg
    have hne : g ≠ x1.val.heap.size := by omega
    have hG : (((y.val.setCell ⟨x1.val.heap.size, 0, none⟩ (.int .i64 s.K)).setCell ⟨x1.val.heap.size, 1, none⟩ (.slice (some ⟨g, 0, none⟩) s.Oil.length c5)).setCell ⟨x1.val.heap.size, 2, none⟩ (.int .i64 (IntKind.i64.wrap (s.Away + t.Away)))).heap[g]? = some (.cells (s.Oil.map (Value.int .i64) ++ rest).toArray 3 (0, 0)) := by
      rw [heap_setCell_other hne, heap_setCell_other hne, heap_setCell_other hne]; exact HG5.out
    rw [← hz] at hB hG ⊢
    rw [HWA.out] at hB
    have h2 := FZ.out
    have h5 := x1.size_le
    show KK _ _
    exact key.out x1.val.heap.size g c5 rest z _ _ _ _ _ _ _ _ _ _ _ _ _ _ _ _ _ _ _ _ _ _ _ _ _ _ _ _ _ _ _ _ _ _ _ _ _ _ _ _ _ _ _ _ _ _ _ _ _ _ _ _ _ _ _ _ _ (by omega) (by omega) (by omega) hB hG
end Go.Proofs.Ytnafllhgjidbkaa
