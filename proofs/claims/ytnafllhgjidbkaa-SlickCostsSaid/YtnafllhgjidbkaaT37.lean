/- One part of oil in a cell. -/
import Derived.Test.YtnafllhgjidbkaaT36
import Derived.Deep.Cut
namespace Go.Proofs.Ytnafllhgjidbkaa
open Go.RowKit Go.Shelf
set_option linter.unusedVariables false
set_option linter.unusedSimpArgs false
theorem makeWH {B : Bay} (hval : validP B) (W : World) : (Instr.makeSlice 26 (.int .i64 (B.W * B.H)) (.int .i64 (B.W * B.H))).run Try.prog W = .ok (.slice (some ⟨W.heap.size, 0, none⟩) B.Share.length B.Share.length) (W.alloc (.cells (zeros B.Share.length) 3)) := by
  have h := make26 B.Share.length (by have := mul36 hval.1.1 hval.1.2 hval.2.1.1 hval.2.1.2; have := hval.2.2.2.1; omega) W
  rw [hval.2.2.2.1] at h; exact h
theorem zeros_set (n i : Nat) (v : Int) : (zeros n).setIfInBounds i (.int .i64 v) = (((List.replicate n 0).set i v).map (Value.int .i64)).toArray := by
  apply Array.toList_inj.1; simp [zeros, List.map_set]
theorem zeros_map (n : Nat) : zeros n = ((List.replicate n (0 : Int)).map (Value.int .i64)).toArray := by simp [zeros]
set_option maxRecDepth 100000 in
set_option maxHeartbeats 1000000 in
theorem One_any (v : Value) (B : Bay) (i : Nat) (w : World) (hv : BayAt w v B) (hval : validP B) (hi : i ≤ B.Share.length) :
    Calls Try.prog 58 #[v, .int .i64 i] w fun e w' => ∃ rv, e = .returned rv ∧ SlkNew w.heap.size w' rv (oneS B i) ∧ Below w.heap.size w w' := by
  obtain ⟨la, lc, sa, sc, rfl, hl, hsh, hll, hsl⟩ := hv
  have hmk := makeWH hval
  have hWH := hval.2.2.2.1
  have h36 : 1 ≤ B.Share.length ∧ B.Share.length ≤ 36 := by have := mul36 hval.1.1 hval.1.2 hval.2.1.1 hval.2.1.2; omega
  obtain ⟨hp1, hp2⟩ := mul36 hval.1.1 hval.1.2 hval.2.1.1 hval.2.1.2
  have FF := Lib.hid (four_new (w := w) #[.int .i64 B.W, .int .i64 B.H, .slice la B.Land.length lc, .slice sa B.Share.length sc] #[.int .i64 0, .slice none 0 0, .int .i64 0] (zeros B.Share.length) #[.int .i64 0, .slice (some ⟨w.heap.size + 1 + 1, 0, none⟩) B.Share.length B.Share.length, .int .i64 0] 25 28 3 28)
  by_cases e : i = B.Share.length
  · have hb : ((i : Int) == B.W * B.H) = true := by rw [e]; simp [hWH]
    have HO : Hid (oneS B i = ⟨0, List.replicate B.Share.length 0, 1⟩) := by unfold Hid oneS; rw [if_pos e]
    clear hWH hl hsh hval
    go_enter Try.func58, Try.ntmps58
    go_upto_region 2 with (fail)
    generalize hW : ((((w.alloc _).alloc _).alloc _).alloc _) = W at *
    clear hW
    obtain ⟨f0, f1, f2, f3, f4, f5⟩ := FF.out
    clear FF
    obtain ⟨x0, hx0⟩ : ∃ x : Aft W, x.val = W := ⟨⟨W, Below.refl _ W⟩, rfl⟩
    have F0 : Hid (Below w.heap.size w W) := f0
    have FZ : Hid (W.heap.size = w.heap.size + 4) := f1
    have FZ0 := Lib.hid (show x0.val.heap.size = w.heap.size + 4 by rw [hx0]; exact f1)
    have G0 : Hid (W.heap[w.heap.size]? = some (.cells #[.int .i64 B.W, .int .i64 B.H, .slice la B.Land.length lc, .slice sa B.Share.length sc] 25 (0, 0))) := f2
    have d0_0 : ∀ x : Aft W, x.val.cell? ⟨w.heap.size, 0, none⟩ = some (.int .i64 B.W) := fun x => cell_of_heap (x.heapH f2) 0
    have d0_1 : ∀ x : Aft W, x.val.cell? ⟨w.heap.size, 1, none⟩ = some (.int .i64 B.H) := fun x => cell_of_heap (x.heapH f2) 1
    have d0_2 : ∀ x : Aft W, x.val.cell? ⟨w.heap.size, 2, none⟩ = some (.slice la B.Land.length lc) := fun x => cell_of_heap (x.heapH f2) 2
    have d0_3 : ∀ x : Aft W, x.val.cell? ⟨w.heap.size, 3, none⟩ = some (.slice sa B.Share.length sc) := fun x => cell_of_heap (x.heapH f2) 3
    have G1 : Hid (W.heap[w.heap.size + 1]? = some (.cells #[.int .i64 0, .slice none 0 0, .int .i64 0] 28 (0, 0))) := f3
    have d1_0 : ∀ x : Aft W, x.val.cell? ⟨w.heap.size + 1, 0, none⟩ = some (.int .i64 0) := fun x => cell_of_heap (x.heapH f3) 0
    have d1_1 : ∀ x : Aft W, x.val.cell? ⟨w.heap.size + 1, 1, none⟩ = some (.slice none 0 0) := fun x => cell_of_heap (x.heapH f3) 1
    have d1_2 : ∀ x : Aft W, x.val.cell? ⟨w.heap.size + 1, 2, none⟩ = some (.int .i64 0) := fun x => cell_of_heap (x.heapH f3) 2
    have z1 : ∀ (x : Aft W) (o : Nat), x.val.frozen? ⟨w.heap.size + 1, o, none⟩ = false := fun x o => free_of_heap (x.heapH f3) o
    have G2 : Hid (W.heap[w.heap.size + 1 + 1]? = some (.cells (zeros B.Share.length) 3 (0, 0))) := f4
    have z2 : ∀ (x : Aft W) (o : Nat), x.val.frozen? ⟨w.heap.size + 1 + 1, o, none⟩ = false := fun x o => free_of_heap (x.heapH f4) o
    have G3 : Hid (W.heap[w.heap.size + 1 + 1 + 1]? = some (.cells #[.int .i64 0, .slice (some ⟨w.heap.size + 1 + 1, 0, none⟩) B.Share.length B.Share.length, .int .i64 0] 28 (0, 0))) := f5
    have d3_0 : ∀ x : Aft W, x.val.cell? ⟨w.heap.size + 1 + 1 + 1, 0, none⟩ = some (.int .i64 0) := fun x => cell_of_heap (x.heapH f5) 0
    have d3_1 : ∀ x : Aft W, x.val.cell? ⟨w.heap.size + 1 + 1 + 1, 1, none⟩ = some (.slice (some ⟨w.heap.size + 1 + 1, 0, none⟩) B.Share.length B.Share.length) := fun x => cell_of_heap (x.heapH f5) 1
    have d3_2 : ∀ x : Aft W, x.val.cell? ⟨w.heap.size + 1 + 1 + 1, 2, none⟩ = some (.int .i64 0) := fun x => cell_of_heap (x.heapH f5) 2
    have z3 : ∀ (x : Aft W) (o : Nat), x.val.frozen? ⟨w.heap.size + 1 + 1 + 1, o, none⟩ = false := fun x o => free_of_heap (x.heapH f5) o
    rw [← hx0]
    clear hx0 f0 f1 f2 f3 f4 f5
    clear hmk
    have hsz : w.heap.size + 1 + 1 + 1 < x0.val.heap.size := by have := FZ0.out; omega
    go_wp2_with fail
    have hb1 : w.heap.size + 1 ≠ w.heap.size + 1 + 1 + 1 := by omega
    have hb2 : w.heap.size + 1 + 1 ≠ w.heap.size + 1 + 1 + 1 := by omega
    have hb3 : w.heap.size + 1 + 1 ≠ w.heap.size + 1 := by omega
    have e2 := (heap_setCell_other (W := x0.val) (b := w.heap.size + 1) (p := ⟨w.heap.size + 1 + 1 + 1, 2, none⟩) hb1 (.int .i64 1)).trans (x0.heapH G1.out)
    have e3 := res3 e2 (.int .i64 0) (.slice (some ⟨w.heap.size + 1 + 1, 0, none⟩) B.Share.length B.Share.length) (.int .i64 1)
    obtain ⟨r0, r1, r2⟩ := res3c e3
    refine bodyPost_ret (v := .agg #[.int .i64 0, .slice (some ⟨w.heap.size + 1 + 1, 0, none⟩) B.Share.length B.Share.length, .int .i64 1]) (by simp [results, Try.results58, go_sem, r0, r1, r2]) rfl ?_
    rw [HO.out]
    refine ⟨_, rfl, ⟨some ⟨w.heap.size + 1 + 1, 0, none⟩, B.Share.length, by simp, ?_, by simp; omega, fun a ha => by cases ha; show _ ≤ w.heap.size + 1 + 1; omega⟩, ?_⟩
    · refine ints_of_heap (t := 3) (f := (0, 0)) ?_
      rw [heap_setCell_other hb3, heap_setCell_other hb3, heap_setCell_other hb3, heap_setCell_other hb2, x0.heapH G2.out, zeros_map]
    · exact ((((Aft.off F0.out x0).setCell (by simp <;> omega) _).setCell (by simp <;> omega) _).setCell (by simp <;> omega) _).setCell (by simp <;> omega) _
  · have hb : ((i : Int) == B.W * B.H) = false := by simp; omega
    have HO : Hid (oneS B i = ⟨0, (List.replicate B.Share.length 0).set i 1, 0⟩) := by unfold Hid oneS; rw [if_neg e]
    have hi' : (i : Int) < B.Share.length := by omega
    have hiN : i < B.Share.length := by omega
    clear hWH hl hsh hval e
    go_enter Try.func58, Try.ntmps58
    go_upto_region 2 with (fail)
    generalize hW : ((((w.alloc _).alloc _).alloc _).alloc _) = W at *
    clear hW
    obtain ⟨f0, f1, f2, f3, f4, f5⟩ := FF.out
    clear FF
    obtain ⟨x0, hx0⟩ : ∃ x : Aft W, x.val = W := ⟨⟨W, Below.refl _ W⟩, rfl⟩
    have F0 : Hid (Below w.heap.size w W) := f0
    have FZ : Hid (W.heap.size = w.heap.size + 4) := f1
    have FZ0 := Lib.hid (show x0.val.heap.size = w.heap.size + 4 by rw [hx0]; exact f1)
    have G0 : Hid (W.heap[w.heap.size]? = some (.cells #[.int .i64 B.W, .int .i64 B.H, .slice la B.Land.length lc, .slice sa B.Share.length sc] 25 (0, 0))) := f2
    have d0_0 : ∀ x : Aft W, x.val.cell? ⟨w.heap.size, 0, none⟩ = some (.int .i64 B.W) := fun x => cell_of_heap (x.heapH f2) 0
    have d0_1 : ∀ x : Aft W, x.val.cell? ⟨w.heap.size, 1, none⟩ = some (.int .i64 B.H) := fun x => cell_of_heap (x.heapH f2) 1
    have d0_2 : ∀ x : Aft W, x.val.cell? ⟨w.heap.size, 2, none⟩ = some (.slice la B.Land.length lc) := fun x => cell_of_heap (x.heapH f2) 2
    have d0_3 : ∀ x : Aft W, x.val.cell? ⟨w.heap.size, 3, none⟩ = some (.slice sa B.Share.length sc) := fun x => cell_of_heap (x.heapH f2) 3
    have G1 : Hid (W.heap[w.heap.size + 1]? = some (.cells #[.int .i64 0, .slice none 0 0, .int .i64 0] 28 (0, 0))) := f3
    have d1_0 : ∀ x : Aft W, x.val.cell? ⟨w.heap.size + 1, 0, none⟩ = some (.int .i64 0) := fun x => cell_of_heap (x.heapH f3) 0
    have d1_1 : ∀ x : Aft W, x.val.cell? ⟨w.heap.size + 1, 1, none⟩ = some (.slice none 0 0) := fun x => cell_of_heap (x.heapH f3) 1
    have d1_2 : ∀ x : Aft W, x.val.cell? ⟨w.heap.size + 1, 2, none⟩ = some (.int .i64 0) := fun x => cell_of_heap (x.heapH f3) 2
    have z1 : ∀ (x : Aft W) (o : Nat), x.val.frozen? ⟨w.heap.size + 1, o, none⟩ = false := fun x o => free_of_heap (x.heapH f3) o
    have G2 : Hid (W.heap[w.heap.size + 1 + 1]? = some (.cells (zeros B.Share.length) 3 (0, 0))) := f4
    have z2 : ∀ (x : Aft W) (o : Nat), x.val.frozen? ⟨w.heap.size + 1 + 1, o, none⟩ = false := fun x o => free_of_heap (x.heapH f4) o
    have G3 : Hid (W.heap[w.heap.size + 1 + 1 + 1]? = some (.cells #[.int .i64 0, .slice (some ⟨w.heap.size + 1 + 1, 0, none⟩) B.Share.length B.Share.length, .int .i64 0] 28 (0, 0))) := f5
    have d3_0 : ∀ x : Aft W, x.val.cell? ⟨w.heap.size + 1 + 1 + 1, 0, none⟩ = some (.int .i64 0) := fun x => cell_of_heap (x.heapH f5) 0
    have d3_1 : ∀ x : Aft W, x.val.cell? ⟨w.heap.size + 1 + 1 + 1, 1, none⟩ = some (.slice (some ⟨w.heap.size + 1 + 1, 0, none⟩) B.Share.length B.Share.length) := fun x => cell_of_heap (x.heapH f5) 1
    have d3_2 : ∀ x : Aft W, x.val.cell? ⟨w.heap.size + 1 + 1 + 1, 2, none⟩ = some (.int .i64 0) := fun x => cell_of_heap (x.heapH f5) 2
    have z3 : ∀ (x : Aft W) (o : Nat), x.val.frozen? ⟨w.heap.size + 1 + 1 + 1, o, none⟩ = false := fun x o => free_of_heap (x.heapH f5) o
    rw [← hx0]
    clear hx0 f0 f1 f2 f3 f4 f5
    clear hmk
    have hsz : w.heap.size + 1 + 1 + 1 < x0.val.heap.size := by have := FZ0.out; omega
    have hc : x0.val.cell? ⟨w.heap.size + 1 + 1, i, none⟩ = some (.int .i64 0) := by rw [cell_of_heap (x0.heapH G2.out) i]; simp [zeros, hiN]
    go_wp2_with fail
    have hb1 : w.heap.size + 1 ≠ w.heap.size + 1 + 1 + 1 := by omega
    have hb2 : w.heap.size + 1 + 1 ≠ w.heap.size + 1 + 1 + 1 := by omega
    have hb3 : w.heap.size + 1 + 1 ≠ w.heap.size + 1 := by omega
    have e2 := (heap_setCell_other (W := x0.val) (b := w.heap.size + 1) (p := ⟨w.heap.size + 1 + 1, i, none⟩) hb3.symm (.int .i64 1)).trans (x0.heapH G1.out)
    have e3 := res3 e2 (.int .i64 0) (.slice (some ⟨w.heap.size + 1 + 1, 0, none⟩) B.Share.length B.Share.length) (.int .i64 0)
    obtain ⟨r0, r1, r2⟩ := res3c e3
    refine bodyPost_ret (v := .agg #[.int .i64 0, .slice (some ⟨w.heap.size + 1 + 1, 0, none⟩) B.Share.length B.Share.length, .int .i64 0]) (by simp [results, Try.results58, go_sem, r0, r1, r2]) rfl ?_
    rw [HO.out]
    refine ⟨_, rfl, ⟨some ⟨w.heap.size + 1 + 1, 0, none⟩, B.Share.length, by simp, ?_, by simp; omega, fun a ha => by cases ha; show _ ≤ w.heap.size + 1 + 1; omega⟩, ?_⟩
    · refine ints_of_heap (t := 3) (f := (0, 0)) ?_
      rw [heap_setCell_other hb3, heap_setCell_other hb3, heap_setCell_other hb3, heap_setCell_same (x0.heapH G2.out), zeros_set]
    · exact ((((Aft.off F0.out x0).setCell (by simp <;> omega) _).setCell (by simp <;> omega) _).setCell (by simp <;> omega) _).setCell (by simp <;> omega) _
set_option maxRecDepth 100000 in
set_option maxHeartbeats 1000000 in
theorem one_any (v : Value) (B : Bay) (i : Nat) (w : World) (hv : BayAt w v B) (hval : validP B) (hi : i < B.Share.length) :
    Calls Try.prog 82 #[v, .int .i64 i] w fun e w' => ∃ rv, e = .returned rv ∧ SlkNew w.heap.size w' rv (oneS B i) ∧ Below w.heap.size w w' := by
  obtain ⟨la, lc, sa, sc, rfl, hl, hsh, hll, hsl⟩ := hv
  have hWH := hval.2.2.2.1
  have hLS : B.Land.length = B.Share.length := by have := hval.2.2.1; omega
  have h36 : 1 ≤ B.Share.length ∧ B.Share.length ≤ 36 := by have := mul36 hval.1.1 hval.1.2 hval.2.1.1 hval.2.1.2; omega
  have hmk := fun W => make26 B.Share.length (by omega) W
  rw [hLS]
  have FF := Lib.hid (four_new (w := w) #[.int .i64 B.W, .int .i64 B.H, .slice la B.Share.length lc, .slice sa B.Share.length sc] #[.int .i64 0, .slice none 0 0, .int .i64 0] (zeros B.Share.length) #[.int .i64 0, .slice (some ⟨w.heap.size + 1 + 1, 0, none⟩) B.Share.length B.Share.length, .int .i64 0] 25 28 3 28)
  have HO : Hid (oneS B i = ⟨0, (List.replicate B.Share.length 0).set i 1, 0⟩) := by unfold Hid oneS; rw [if_neg (by omega)]
  have hi' : (i : Int) < B.Share.length := by omega
  have hiN := hi
  clear hWH hl hsh hval hLS
  go_enter Try.func82, Try.ntmps82
  go_upto_region 2 with (fail)
  generalize hW : ((((w.alloc _).alloc _).alloc _).alloc _) = W at *
  clear hW
  obtain ⟨f0, f1, f2, f3, f4, f5⟩ := FF.out
  clear FF
  obtain ⟨x0, hx0⟩ : ∃ x : Aft W, x.val = W := ⟨⟨W, Below.refl _ W⟩, rfl⟩
  have F0 : Hid (Below w.heap.size w W) := f0
  have FZ : Hid (W.heap.size = w.heap.size + 4) := f1
  have FZ0 := Lib.hid (show x0.val.heap.size = w.heap.size + 4 by rw [hx0]; exact f1)
  have G0 : Hid (W.heap[w.heap.size]? = some (.cells #[.int .i64 B.W, .int .i64 B.H, .slice la B.Share.length lc, .slice sa B.Share.length sc] 25 (0, 0))) := f2
  have d0_0 : ∀ x : Aft W, x.val.cell? ⟨w.heap.size, 0, none⟩ = some (.int .i64 B.W) := fun x => cell_of_heap (x.heapH f2) 0
  have d0_1 : ∀ x : Aft W, x.val.cell? ⟨w.heap.size, 1, none⟩ = some (.int .i64 B.H) := fun x => cell_of_heap (x.heapH f2) 1
  have d0_2 : ∀ x : Aft W, x.val.cell? ⟨w.heap.size, 2, none⟩ = some (.slice la B.Share.length lc) := fun x => cell_of_heap (x.heapH f2) 2
  have d0_3 : ∀ x : Aft W, x.val.cell? ⟨w.heap.size, 3, none⟩ = some (.slice sa B.Share.length sc) := fun x => cell_of_heap (x.heapH f2) 3
  have G1 : Hid (W.heap[w.heap.size + 1]? = some (.cells #[.int .i64 0, .slice none 0 0, .int .i64 0] 28 (0, 0))) := f3
  have d1_0 : ∀ x : Aft W, x.val.cell? ⟨w.heap.size + 1, 0, none⟩ = some (.int .i64 0) := fun x => cell_of_heap (x.heapH f3) 0
  have d1_1 : ∀ x : Aft W, x.val.cell? ⟨w.heap.size + 1, 1, none⟩ = some (.slice none 0 0) := fun x => cell_of_heap (x.heapH f3) 1
  have d1_2 : ∀ x : Aft W, x.val.cell? ⟨w.heap.size + 1, 2, none⟩ = some (.int .i64 0) := fun x => cell_of_heap (x.heapH f3) 2
  have z1 : ∀ (x : Aft W) (o : Nat), x.val.frozen? ⟨w.heap.size + 1, o, none⟩ = false := fun x o => free_of_heap (x.heapH f3) o
  have G2 : Hid (W.heap[w.heap.size + 1 + 1]? = some (.cells (zeros B.Share.length) 3 (0, 0))) := f4
  have z2 : ∀ (x : Aft W) (o : Nat), x.val.frozen? ⟨w.heap.size + 1 + 1, o, none⟩ = false := fun x o => free_of_heap (x.heapH f4) o
  have G3 : Hid (W.heap[w.heap.size + 1 + 1 + 1]? = some (.cells #[.int .i64 0, .slice (some ⟨w.heap.size + 1 + 1, 0, none⟩) B.Share.length B.Share.length, .int .i64 0] 28 (0, 0))) := f5
  have d3_0 : ∀ x : Aft W, x.val.cell? ⟨w.heap.size + 1 + 1 + 1, 0, none⟩ = some (.int .i64 0) := fun x => cell_of_heap (x.heapH f5) 0
  have d3_1 : ∀ x : Aft W, x.val.cell? ⟨w.heap.size + 1 + 1 + 1, 1, none⟩ = some (.slice (some ⟨w.heap.size + 1 + 1, 0, none⟩) B.Share.length B.Share.length) := fun x => cell_of_heap (x.heapH f5) 1
  have d3_2 : ∀ x : Aft W, x.val.cell? ⟨w.heap.size + 1 + 1 + 1, 2, none⟩ = some (.int .i64 0) := fun x => cell_of_heap (x.heapH f5) 2
  have z3 : ∀ (x : Aft W) (o : Nat), x.val.frozen? ⟨w.heap.size + 1 + 1 + 1, o, none⟩ = false := fun x o => free_of_heap (x.heapH f5) o
  rw [← hx0]
  clear hx0 f0 f1 f2 f3 f4 f5
  clear hmk
  have hsz : w.heap.size + 1 + 1 + 1 < x0.val.heap.size := by have := FZ0.out; omega
  have hc : x0.val.cell? ⟨w.heap.size + 1 + 1, i, none⟩ = some (.int .i64 0) := by rw [cell_of_heap (x0.heapH G2.out) i]; simp [zeros, hiN]
  go_wp2_with fail
  have hb1 : w.heap.size + 1 ≠ w.heap.size + 1 + 1 + 1 := by omega
  have hb2 : w.heap.size + 1 + 1 ≠ w.heap.size + 1 + 1 + 1 := by omega
  have hb3 : w.heap.size + 1 + 1 ≠ w.heap.size + 1 := by omega
  have e2 := (heap_setCell_other (W := x0.val) (b := w.heap.size + 1) (p := ⟨w.heap.size + 1 + 1, i, none⟩) hb3.symm (.int .i64 1)).trans (x0.heapH G1.out)
  have e3 := res3 e2 (.int .i64 0) (.slice (some ⟨w.heap.size + 1 + 1, 0, none⟩) B.Share.length B.Share.length) (.int .i64 0)
  obtain ⟨r0, r1, r2⟩ := res3c e3
  refine bodyPost_ret (v := .agg #[.int .i64 0, .slice (some ⟨w.heap.size + 1 + 1, 0, none⟩) B.Share.length B.Share.length, .int .i64 0]) (by simp [results, Try.results82, go_sem, r0, r1, r2]) rfl ?_
  rw [HO.out]
  refine ⟨_, rfl, ⟨some ⟨w.heap.size + 1 + 1, 0, none⟩, B.Share.length, by simp, ?_, by simp; omega, fun a ha => by cases ha; show _ ≤ w.heap.size + 1 + 1; omega⟩, ?_⟩
  · refine ints_of_heap (t := 3) (f := (0, 0)) ?_
    rw [heap_setCell_other hb3, heap_setCell_other hb3, heap_setCell_other hb3, heap_setCell_same (x0.heapH G2.out), zeros_set]
  · exact ((((Aft.off F0.out x0).setCell (by simp <;> omega) _).setCell (by simp <;> omega) _).setCell (by simp <;> omega) _).setCell (by simp <;> omega) _
end Go.Proofs.Ytnafllhgjidbkaa
