/- The reference's Move; the law of moves. -/
import Derived.Test.YtnafllhgjidbkaaT27
import Derived.Test.YtnafllhgjidbkaaT25
namespace Go.Proofs.Ytnafllhgjidbkaa
open Go.RowKit Go.Shelf
set_option linter.unusedVariables false
set_option linter.unusedSimpArgs false
set_option maxRecDepth 100000 in
set_option maxHeartbeats 1000000 in
theorem rMove_any (v sv : Value) (B : Bay) (s : Slk) (w : World) (hv : BayAt w v B) (hs : SlkAt w sv s) :
    Calls Try.prog 19 #[v, sv] w (Aft3 w (aftS B s 1) (aftE B s 1)) := by
  have HV := Lib.hid (fun W (h : Below w.heap.size w W) => hv.below (Nat.le_refl _) h)
  have HS := Lib.hid (fun W (h : Below w.heap.size w W) => hs.below (Nat.le_refl _) h)
  obtain ⟨la, lc, sa, sc, rfl, hl, hsh, hll, hsl⟩ := hv
  obtain ⟨ao, c, rfl, hi, hn⟩ := hs
  clear hl hsh hi
  have FF := Lib.hid (three_new (w := w) #[.int .i64 B.W, .int .i64 B.H, .slice la B.Land.length lc, .slice sa B.Share.length sc] #[.int .i64 s.K, .slice ao s.Oil.length c, .int .i64 s.Away] #[.int .i64 0, .slice none 0 0, .int .i64 0] 25 28 28)
  go_enter Try.func19, Try.ntmps19
  go_wp2_with fail
  generalize hW : (((w.alloc _).alloc _).alloc _) = W at *
  clear hW
  obtain ⟨f0, f1, f2, f3, f4⟩ := FF.out
  clear FF
  obtain ⟨x0, hx0⟩ : ∃ x : Aft W, x.val = W := ⟨⟨W, Below.refl _ W⟩, rfl⟩
  have F0 : Hid (Below w.heap.size w W) := f0
  have FZ : Hid (W.heap.size = w.heap.size + 3) := f1
  have FZ0 := Lib.hid (show x0.val.heap.size = w.heap.size + 3 by rw [hx0]; exact f1)
  have G0 : Hid (W.heap[w.heap.size]? = some (.cells #[.int .i64 B.W, .int .i64 B.H, .slice la B.Land.length lc, .slice sa B.Share.length sc] 25 (0, 0))) := f2
  have d0_0 : ∀ x : Aft W, x.val.cell? ⟨w.heap.size, 0, none⟩ = some (.int .i64 B.W) := fun x => cell_of_heap (x.heapH f2) 0
  have d0_1 : ∀ x : Aft W, x.val.cell? ⟨w.heap.size, 1, none⟩ = some (.int .i64 B.H) := fun x => cell_of_heap (x.heapH f2) 1
  have d0_2 : ∀ x : Aft W, x.val.cell? ⟨w.heap.size, 2, none⟩ = some (.slice la B.Land.length lc) := fun x => cell_of_heap (x.heapH f2) 2
  have d0_3 : ∀ x : Aft W, x.val.cell? ⟨w.heap.size, 3, none⟩ = some (.slice sa B.Share.length sc) := fun x => cell_of_heap (x.heapH f2) 3
  have G1 : Hid (W.heap[w.heap.size + 1]? = some (.cells #[.int .i64 s.K, .slice ao s.Oil.length c, .int .i64 s.Away] 28 (0, 0))) := f3
  have d1_0 : ∀ x : Aft W, x.val.cell? ⟨w.heap.size + 1, 0, none⟩ = some (.int .i64 s.K) := fun x => cell_of_heap (x.heapH f3) 0
  have d1_1 : ∀ x : Aft W, x.val.cell? ⟨w.heap.size + 1, 1, none⟩ = some (.slice ao s.Oil.length c) := fun x => cell_of_heap (x.heapH f3) 1
  have d1_2 : ∀ x : Aft W, x.val.cell? ⟨w.heap.size + 1, 2, none⟩ = some (.int .i64 s.Away) := fun x => cell_of_heap (x.heapH f3) 2
  have G2 : Hid (W.heap[w.heap.size + 1 + 1]? = some (.cells #[.int .i64 0, .slice none 0 0, .int .i64 0] 28 (0, 0))) := f4
  have d2_0 : ∀ x : Aft W, x.val.cell? ⟨w.heap.size + 1 + 1, 0, none⟩ = some (.int .i64 0) := fun x => cell_of_heap (x.heapH f4) 0
  have d2_1 : ∀ x : Aft W, x.val.cell? ⟨w.heap.size + 1 + 1, 1, none⟩ = some (.slice none 0 0) := fun x => cell_of_heap (x.heapH f4) 1
  have d2_2 : ∀ x : Aft W, x.val.cell? ⟨w.heap.size + 1 + 1, 2, none⟩ = some (.int .i64 0) := fun x => cell_of_heap (x.heapH f4) 2
  have z2 : ∀ (x : Aft W) (o : Nat), x.val.frozen? ⟨w.heap.size + 1 + 1, o, none⟩ = false := fun x o => free_of_heap (x.heapH f4) o
  rw [← hx0]
  clear hx0 f0 f1 f2 f3 f4
  refine (rAfter_any _ _ B s 1 _ (HV.out _ (Aft.off F0.out x0)) (HS.out _ (Aft.off F0.out x0)) (by omega)).mono ?_
  rintro e w1 ⟨rv, rfl, ⟨a1, c1, rfl, hi1, hn1, hf1⟩, hb⟩
  obtain ⟨x1, rfl, lk0'⟩ := x0.step (hb)
  have lk0 := Lib.hid lk0'
  clear hb lk0'
  generalize aftS B s 1 = S at *
  generalize aftE B s 1 = E at *
  have hsz : w.heap.size + 1 + 1 < x1.val.heap.size := by have := x1.size_le; have := FZ.out; omega
  have HWz := Lib.hid (show w.heap.size + 1 + 1 < x0.val.heap.size by have := x0.size_le; have := FZ.out; omega)
  have E3 := Lib.hid (res3 (x1.heapH G2.out) (.int .i64 S.K) (.slice a1 S.Oil.length c1) (.int .i64 S.Away))
  have I1 := Lib.hid hi1
  have HF1 := Lib.hid hf1
  clear hi1 hf1
  go_wp2
  obtain ⟨r0, r1, r2⟩ := res3c E3.out
  refine bodyPost_ret (v := .tuple #[.agg #[.int .i64 S.K, .slice a1 S.Oil.length c1, .int .i64 S.Away], .int .i64 E]) (by simp [results, Try.results19, go_sem, r0, r1, r2]) rfl ?_
  refine ⟨_, rfl, ⟨a1, c1, rfl, ?_, hn1, ?_⟩, ?_⟩
  · have h2 : ∀ a, a1 = some a → a.block ≠ w.heap.size + 1 + 1 := fun a ha => by have := HF1.out a ha; have := HWz.out; omega
    exact IntsAt.setCell (IntsAt.setCell (IntsAt.setCell I1.out h2 _) h2 _) h2 _
  · intro a ha; have := HF1.out a ha; have := HWz.out; omega
  · exact (((Aft.off F0.out x1).setCell (by simp; omega) _).setCell (by simp; omega) _).setCell (by simp; omega) _

theorem aftS_len {B : Bay} {s : Slk} (h : s.Oil.length ≤ 100) (n : Int) : (aftS B s n).Oil.length ≤ 100 := by
  unfold aftS; split
  · rw [mvN_len]; exact h
  · simp
set_option maxRecDepth 100000 in
set_option maxHeartbeats 4000000 in
theorem moves_any (B : Bay) (s : Slk) (n : Int) (la sa ao : Option Addr) (lc sc c : Nat) (w : World) (hl : BoolsAt w la B.Land) (hsh : FivesAt w sa B.Share) (hi : IntsAt w ao s.Oil) (hnn : -9223372036854775808 ≤ n ∧ n ≤ 9223372036854775807) :
    Calls Try.prog 3 #[.agg #[.int .i64 B.W, .int .i64 B.H, .slice la B.Land.length lc, .slice sa B.Share.length sc], .agg #[.int .i64 s.K, .slice ao s.Oil.length c, .int .i64 s.Away], .int .i64 n] w fun e w' => e = .returned (.bool true) ∧ Below w.heap.size w w' := by
  have HLo := fun W => Long_any B W la sa lc sc
  have Hlo := fun W => long_any s W ao c
  have FF := Lib.hid (two_new (w := w) #[.int .i64 B.W, .int .i64 B.H, .slice la B.Land.length lc, .slice sa B.Share.length sc] #[.int .i64 s.K, .slice ao s.Oil.length c, .int .i64 s.Away] 25 28)
  by_cases hL : 100 < B.Land.length ∨ 100 < B.Share.length
  · rw [decide_eq_true hL] at HLo
    clear Hlo hL
    have HL := Lib.hid HLo
    clear HLo
    go_enter Try.func3, Try.ntmps3
    go_wp2_with fail
    generalize hW : ((w.alloc _).alloc _) = W at *
    clear hW
    obtain ⟨f0, f1, f2, f3⟩ := FF.out
    clear FF
    obtain ⟨x0, hx0⟩ : ∃ x : Aft W, x.val = W := ⟨⟨W, Below.refl _ W⟩, rfl⟩
    have F0 : Hid (Below w.heap.size w W) := f0
    have FZ : Hid (W.heap.size = w.heap.size + 2) := f1
    have FZ0 := Lib.hid (show x0.val.heap.size = w.heap.size + 2 by rw [hx0]; exact f1)
    have G0 : Hid (W.heap[w.heap.size]? = some (.cells #[.int .i64 B.W, .int .i64 B.H, .slice la B.Land.length lc, .slice sa B.Share.length sc] 25 (0, 0))) := f2
    have d0_0 : ∀ x : Aft W, x.val.cell? ⟨w.heap.size, 0, none⟩ = some (.int .i64 B.W) := fun x => cell_of_heap (x.heapH f2) 0
    have d0_1 : ∀ x : Aft W, x.val.cell? ⟨w.heap.size, 1, none⟩ = some (.int .i64 B.H) := fun x => cell_of_heap (x.heapH f2) 1
    have d0_2 : ∀ x : Aft W, x.val.cell? ⟨w.heap.size, 2, none⟩ = some (.slice la B.Land.length lc) := fun x => cell_of_heap (x.heapH f2) 2
    have d0_3 : ∀ x : Aft W, x.val.cell? ⟨w.heap.size, 3, none⟩ = some (.slice sa B.Share.length sc) := fun x => cell_of_heap (x.heapH f2) 3
    have G1 : Hid (W.heap[w.heap.size + 1]? = some (.cells #[.int .i64 s.K, .slice ao s.Oil.length c, .int .i64 s.Away] 28 (0, 0))) := f3
    have d1_0 : ∀ x : Aft W, x.val.cell? ⟨w.heap.size + 1, 0, none⟩ = some (.int .i64 s.K) := fun x => cell_of_heap (x.heapH f3) 0
    have d1_1 : ∀ x : Aft W, x.val.cell? ⟨w.heap.size + 1, 1, none⟩ = some (.slice ao s.Oil.length c) := fun x => cell_of_heap (x.heapH f3) 1
    have d1_2 : ∀ x : Aft W, x.val.cell? ⟨w.heap.size + 1, 2, none⟩ = some (.int .i64 s.Away) := fun x => cell_of_heap (x.heapH f3) 2
    rw [← hx0]
    clear hx0 f0 f1 f2 f3
    refine (HL.out _).mono ?_
    rintro e w1 ⟨rfl, hb⟩
    obtain ⟨x1, rfl, lk0'⟩ := x0.step (hb)
    have lk0 := Lib.hid lk0'
    clear hb lk0'
    go_wp2_with fail
    refine (Sane_any _).mono ?_
    rintro e w1 ⟨rfl, hb⟩
    obtain ⟨x2, rfl, lk1'⟩ := x1.step (hb)
    have lk1 := Lib.hid lk1'
    clear hb lk1'
    go_wp2
    go_ret
    exact ⟨rfl, Aft.off F0.out x2⟩
  rw [decide_eq_false hL] at HLo
  by_cases hS : 100 < s.Oil.length
  · rw [decide_eq_true hS] at Hlo
    clear hL hS
    have HL := Lib.hid HLo
    have Hl := Lib.hid Hlo
    clear HLo Hlo
    go_enter Try.func3, Try.ntmps3
    go_wp2_with fail
    generalize hW : ((w.alloc _).alloc _) = W at *
    clear hW
    obtain ⟨f0, f1, f2, f3⟩ := FF.out
    clear FF
    obtain ⟨x0, hx0⟩ : ∃ x : Aft W, x.val = W := ⟨⟨W, Below.refl _ W⟩, rfl⟩
    have F0 : Hid (Below w.heap.size w W) := f0
    have FZ : Hid (W.heap.size = w.heap.size + 2) := f1
    have FZ0 := Lib.hid (show x0.val.heap.size = w.heap.size + 2 by rw [hx0]; exact f1)
    have G0 : Hid (W.heap[w.heap.size]? = some (.cells #[.int .i64 B.W, .int .i64 B.H, .slice la B.Land.length lc, .slice sa B.Share.length sc] 25 (0, 0))) := f2
    have d0_0 : ∀ x : Aft W, x.val.cell? ⟨w.heap.size, 0, none⟩ = some (.int .i64 B.W) := fun x => cell_of_heap (x.heapH f2) 0
    have d0_1 : ∀ x : Aft W, x.val.cell? ⟨w.heap.size, 1, none⟩ = some (.int .i64 B.H) := fun x => cell_of_heap (x.heapH f2) 1
    have d0_2 : ∀ x : Aft W, x.val.cell? ⟨w.heap.size, 2, none⟩ = some (.slice la B.Land.length lc) := fun x => cell_of_heap (x.heapH f2) 2
    have d0_3 : ∀ x : Aft W, x.val.cell? ⟨w.heap.size, 3, none⟩ = some (.slice sa B.Share.length sc) := fun x => cell_of_heap (x.heapH f2) 3
    have G1 : Hid (W.heap[w.heap.size + 1]? = some (.cells #[.int .i64 s.K, .slice ao s.Oil.length c, .int .i64 s.Away] 28 (0, 0))) := f3
    have d1_0 : ∀ x : Aft W, x.val.cell? ⟨w.heap.size + 1, 0, none⟩ = some (.int .i64 s.K) := fun x => cell_of_heap (x.heapH f3) 0
    have d1_1 : ∀ x : Aft W, x.val.cell? ⟨w.heap.size + 1, 1, none⟩ = some (.slice ao s.Oil.length c) := fun x => cell_of_heap (x.heapH f3) 1
    have d1_2 : ∀ x : Aft W, x.val.cell? ⟨w.heap.size + 1, 2, none⟩ = some (.int .i64 s.Away) := fun x => cell_of_heap (x.heapH f3) 2
    rw [← hx0]
    clear hx0 f0 f1 f2 f3
    refine (HL.out _).mono ?_
    rintro e w1 ⟨rfl, hb⟩
    obtain ⟨x1, rfl, lk0'⟩ := x0.step (hb)
    have lk0 := Lib.hid lk0'
    clear hb lk0'
    go_wp2_with fail
    refine (Hl.out _).mono ?_
    rintro e w1 ⟨rfl, hb⟩
    obtain ⟨x2, rfl, lk1'⟩ := x1.step (hb)
    have lk1 := Lib.hid lk1'
    clear hb lk1'
    go_wp2_with fail
    refine (Sane_any _).mono ?_
    rintro e w1 ⟨rfl, hb⟩
    obtain ⟨x3, rfl, lk2'⟩ := x2.step (hb)
    have lk2 := Lib.hid lk2'
    clear hb lk2'
    go_wp2
    go_ret
    exact ⟨rfl, Aft.off F0.out x3⟩
  rw [decide_eq_false hS] at Hlo
  have hB : BayAt w (.agg #[.int .i64 B.W, .int .i64 B.H, .slice la B.Land.length lc, .slice sa B.Share.length sc]) B := ⟨la, lc, sa, sc, rfl, hl, hsh, by omega, by omega⟩
  have hK : SlkAt w (.agg #[.int .i64 s.K, .slice ao s.Oil.length c, .int .i64 s.Away]) s := ⟨ao, c, rfl, hi, by omega⟩
  have HB := Lib.hid (fun W (h : Below w.heap.size w W) => hB.below (Nat.le_refl _) h)
  have HK := Lib.hid (fun W (h : Below w.heap.size w W) => hK.below (Nat.le_refl _) h)
  have q1 := aftS_len (B := B) (s := s) (by omega) 1
  have q2 := aftS_len (B := B) (s := s) (by omega) n
  have F1 := Lib.hid (fun W h => Move_any _ _ B s W (HB.out W h) (HK.out W h))
  have F2 := Lib.hid (fun W h => rMove_any _ _ B s W (HB.out W h) (HK.out W h))
  have F3 := Lib.hid (fun W h => After_any _ _ B s n W (HB.out W h) (HK.out W h) hnn)
  have F4 := Lib.hid (fun W h => rAfter_any _ _ B s n W (HB.out W h) (HK.out W h) hnn)
  have HL := Lib.hid HLo
  have Hl := Lib.hid Hlo
  clear HLo Hlo
  clear HB HK hB hK hl hsh hi hL hS
  generalize aftS B s 1 = S1 at *
  generalize aftE B s 1 = E1 at *
  generalize aftS B s n = S2 at *
  generalize aftE B s n = E2 at *
  go_enter Try.func3, Try.ntmps3
  go_wp2_with fail
  generalize hW : ((w.alloc _).alloc _) = W at *
  clear hW
  obtain ⟨f0, f1, f2, f3⟩ := FF.out
  clear FF
  obtain ⟨x0, hx0⟩ : ∃ x : Aft W, x.val = W := ⟨⟨W, Below.refl _ W⟩, rfl⟩
  have F0 : Hid (Below w.heap.size w W) := f0
  have FZ : Hid (W.heap.size = w.heap.size + 2) := f1
  have FZ0 := Lib.hid (show x0.val.heap.size = w.heap.size + 2 by rw [hx0]; exact f1)
  have G0 : Hid (W.heap[w.heap.size]? = some (.cells #[.int .i64 B.W, .int .i64 B.H, .slice la B.Land.length lc, .slice sa B.Share.length sc] 25 (0, 0))) := f2
  have d0_0 : ∀ x : Aft W, x.val.cell? ⟨w.heap.size, 0, none⟩ = some (.int .i64 B.W) := fun x => cell_of_heap (x.heapH f2) 0
  have d0_1 : ∀ x : Aft W, x.val.cell? ⟨w.heap.size, 1, none⟩ = some (.int .i64 B.H) := fun x => cell_of_heap (x.heapH f2) 1
  have d0_2 : ∀ x : Aft W, x.val.cell? ⟨w.heap.size, 2, none⟩ = some (.slice la B.Land.length lc) := fun x => cell_of_heap (x.heapH f2) 2
  have d0_3 : ∀ x : Aft W, x.val.cell? ⟨w.heap.size, 3, none⟩ = some (.slice sa B.Share.length sc) := fun x => cell_of_heap (x.heapH f2) 3
  have e0_0 : ∀ (x : Aft W) (o : Obj), (x.val.alloc o).cell? ⟨w.heap.size, 0, none⟩ = some (.int .i64 B.W) := fun x o => cell_of_heap (heap_alloc_old (x.heapH f2) o) 0
  have e0_1 : ∀ (x : Aft W) (o : Obj), (x.val.alloc o).cell? ⟨w.heap.size, 1, none⟩ = some (.int .i64 B.H) := fun x o => cell_of_heap (heap_alloc_old (x.heapH f2) o) 1
  have e0_2 : ∀ (x : Aft W) (o : Obj), (x.val.alloc o).cell? ⟨w.heap.size, 2, none⟩ = some (.slice la B.Land.length lc) := fun x o => cell_of_heap (heap_alloc_old (x.heapH f2) o) 2
  have e0_3 : ∀ (x : Aft W) (o : Obj), (x.val.alloc o).cell? ⟨w.heap.size, 3, none⟩ = some (.slice sa B.Share.length sc) := fun x o => cell_of_heap (heap_alloc_old (x.heapH f2) o) 3
  have G1 : Hid (W.heap[w.heap.size + 1]? = some (.cells #[.int .i64 s.K, .slice ao s.Oil.length c, .int .i64 s.Away] 28 (0, 0))) := f3
  have d1_0 : ∀ x : Aft W, x.val.cell? ⟨w.heap.size + 1, 0, none⟩ = some (.int .i64 s.K) := fun x => cell_of_heap (x.heapH f3) 0
  have d1_1 : ∀ x : Aft W, x.val.cell? ⟨w.heap.size + 1, 1, none⟩ = some (.slice ao s.Oil.length c) := fun x => cell_of_heap (x.heapH f3) 1
  have d1_2 : ∀ x : Aft W, x.val.cell? ⟨w.heap.size + 1, 2, none⟩ = some (.int .i64 s.Away) := fun x => cell_of_heap (x.heapH f3) 2
  have e1_0 : ∀ (x : Aft W) (o : Obj), (x.val.alloc o).cell? ⟨w.heap.size + 1, 0, none⟩ = some (.int .i64 s.K) := fun x o => cell_of_heap (heap_alloc_old (x.heapH f3) o) 0
  have e1_1 : ∀ (x : Aft W) (o : Obj), (x.val.alloc o).cell? ⟨w.heap.size + 1, 1, none⟩ = some (.slice ao s.Oil.length c) := fun x o => cell_of_heap (heap_alloc_old (x.heapH f3) o) 1
  have e1_2 : ∀ (x : Aft W) (o : Obj), (x.val.alloc o).cell? ⟨w.heap.size + 1, 2, none⟩ = some (.int .i64 s.Away) := fun x o => cell_of_heap (heap_alloc_old (x.heapH f3) o) 2
  rw [← hx0]
  clear hx0 f0 f1 f2 f3
  refine (HL.out _).mono ?_
  rintro e w1 ⟨rfl, hb⟩
  obtain ⟨x1, rfl, lk0'⟩ := x0.step (hb)
  have lk0 := Lib.hid lk0'
  clear hb lk0'
  go_wp2_with fail
  refine (Hl.out _).mono ?_
  rintro e w1 ⟨rfl, hb⟩
  obtain ⟨x2, rfl, lk1'⟩ := x1.step (hb)
  have lk1 := Lib.hid lk1'
  clear hb lk1'
  go_wp2_with fail
  refine (F1.out _ (Aft.off F0.out x2)).mono ?_
  rintro e w1 ⟨rv, rfl, ⟨a1, c1, rfl, hi1, hn1, hf1⟩, hb⟩
  obtain ⟨x3, rfl, lk2'⟩ := x2.step (hb)
  have lk2 := Lib.hid lk2'
  clear hb lk2'
  have I1 := Lib.hid hi1
  clear hi1 hf1
  go_wp2_with fail
  have hb := (Below.refl x3.val.heap.size x3.val).alloc (Nat.le_refl _) (.cells #[.int .i64 S1.K, .slice a1 S1.Oil.length c1, .int .i64 S1.Away] 28)
  have hg := World.alloc_heap_new x3.val (.cells #[.int .i64 S1.K, .slice a1 S1.Oil.length c1, .int .i64 S1.Away] 28)
  generalize x3.val.alloc (.cells #[.int .i64 S1.K, .slice a1 S1.Oil.length c1, .int .i64 S1.Away] 28) = WB at *
  obtain ⟨x4, rfl, lk3'⟩ := x3.step hb
  have lk3 := Lib.hid lk3'
  have X1 := Lib.hid hg
  clear hb hg lk3'
  refine (F2.out _ (Aft.off F0.out x4)).mono ?_
  rintro e w1 ⟨rv, rfl, ⟨a2, c2, rfl, hi2, hn2, hf2⟩, hb⟩
  obtain ⟨x5, rfl, lk4'⟩ := x4.step (hb)
  have lk4 := Lib.hid lk4'
  clear hb lk4'
  have I2 := Lib.hid hi2
  clear hi2 hf2
  go_wp2_with fail
  have hb := (Below.refl x5.val.heap.size x5.val).alloc (Nat.le_refl _) (.cells #[.int .i64 S1.K, .slice a2 S1.Oil.length c2, .int .i64 S1.Away] 28)
  have hg := World.alloc_heap_new x5.val (.cells #[.int .i64 S1.K, .slice a2 S1.Oil.length c2, .int .i64 S1.Away] 28)
  generalize x5.val.alloc (.cells #[.int .i64 S1.K, .slice a2 S1.Oil.length c2, .int .i64 S1.Away] 28) = WB at *
  obtain ⟨x6, rfl, lk5'⟩ := x5.step hb
  have lk5 := Lib.hid lk5'
  have X2 := Lib.hid hg
  clear hb hg lk5'
  refine (F3.out _ (Aft.off F0.out x6)).mono ?_
  rintro e w1 ⟨rv, rfl, ⟨a3, c3, rfl, hi3, hn3, hf3⟩, hb⟩
  obtain ⟨x7, rfl, lk6'⟩ := x6.step (hb)
  have lk6 := Lib.hid lk6'
  clear hb lk6'
  have I3 := Lib.hid hi3
  clear hi3 hf3
  go_wp2_with fail
  have hb := (Below.refl x7.val.heap.size x7.val).alloc (Nat.le_refl _) (.cells #[.int .i64 S2.K, .slice a3 S2.Oil.length c3, .int .i64 S2.Away] 28)
  have hg := World.alloc_heap_new x7.val (.cells #[.int .i64 S2.K, .slice a3 S2.Oil.length c3, .int .i64 S2.Away] 28)
  generalize x7.val.alloc (.cells #[.int .i64 S2.K, .slice a3 S2.Oil.length c3, .int .i64 S2.Away] 28) = WB at *
  obtain ⟨x8, rfl, lk7'⟩ := x7.step hb
  have lk7 := Lib.hid lk7'
  have X3 := Lib.hid hg
  clear hb hg lk7'
  refine (F4.out _ (Aft.off F0.out x8)).mono ?_
  rintro e w1 ⟨rv, rfl, ⟨a4, c4, rfl, hi4, hn4, hf4⟩, hb⟩
  obtain ⟨x9, rfl, lk8'⟩ := x8.step (hb)
  have lk8 := Lib.hid lk8'
  clear hb lk8'
  have I4 := Lib.hid hi4
  have hbx := Lib.hid ((Below.refl x9.val.heap.size x9.val).alloc (Nat.le_refl _) (.cells #[.int .i64 S2.K, .slice a4 S2.Oil.length c4, .int .i64 S2.Away] 28))
  clear hi4 hf4
  have HQ : Hid (∀ W', Below x9.val.heap.size x9.val W' → W'.cell? ⟨x3.val.heap.size, 0, none⟩ = some (.int .i64 S1.K) ∧ W'.cell? ⟨x3.val.heap.size, 1, none⟩ = some (.slice a1 S1.Oil.length c1) ∧ W'.cell? ⟨x3.val.heap.size, 2, none⟩ = some (.int .i64 S1.Away) ∧
      W'.cell? ⟨x5.val.heap.size, 0, none⟩ = some (.int .i64 S1.K) ∧ W'.cell? ⟨x5.val.heap.size, 1, none⟩ = some (.slice a2 S1.Oil.length c2) ∧ W'.cell? ⟨x5.val.heap.size, 2, none⟩ = some (.int .i64 S1.Away)) := fun W' hW' => by
    have g1 := ((Below.link (Below.link (Below.link (Below.link (Below.link lk4.out lk5.out) lk6.out) lk7.out) lk8.out) hW').block _ (heap_lt X1.out)).trans X1.out
    have g2 := ((Below.link (Below.link (Below.link lk6.out lk7.out) lk8.out) hW').block _ (heap_lt X2.out)).trans X2.out
    exact ⟨cell_of_heap g1 0, cell_of_heap g1 1, cell_of_heap g1 2, cell_of_heap g2 0, cell_of_heap g2 1, cell_of_heap g2 2⟩
  obtain ⟨k0, k1, k2, k3, k4, k5⟩ := HQ.out _ hbx.out
  go_wp2_with fail
  clear k0 k1 k2 k3 k4 k5
  have hb := (Below.refl x9.val.heap.size x9.val).alloc (Nat.le_refl _) (.cells #[.int .i64 S2.K, .slice a4 S2.Oil.length c4, .int .i64 S2.Away] 28)
  have hg := World.alloc_heap_new x9.val (.cells #[.int .i64 S2.K, .slice a4 S2.Oil.length c4, .int .i64 S2.Away] 28)
  generalize x9.val.alloc (.cells #[.int .i64 S2.K, .slice a4 S2.Oil.length c4, .int .i64 S2.Away] 28) = WB at *
  obtain ⟨x10, rfl, lk9'⟩ := x9.step hb
  have lk9 := Lib.hid lk9'
  have X4 := Lib.hid hg
  clear hb hg lk9'
  have hE := equal_any a1 a2 c1 c2 S1 S1 x10.val (I1.out.below (Nat.le_refl _) ((Below.link (Below.link (Below.link (Below.link (Below.link (Below.link lk3.out lk4.out) lk5.out) lk6.out) lk7.out) lk8.out) lk9.out))) (I2.out.below (Nat.le_refl _) ((Below.link (Below.link (Below.link (Below.link lk5.out lk6.out) lk7.out) lk8.out) lk9.out))) (by omega) (by omega)
  rw [eqSlk_refl] at hE
  have HE := Lib.hid hE
  clear hE
  refine (HE.out).mono ?_
  rintro e w1 ⟨rfl, hb⟩
  obtain ⟨x11, rfl, lk10'⟩ := x10.step (hb)
  have lk10 := Lib.hid lk10'
  clear hb lk10'
  have hq := (((Below.link (Below.link lk8.out lk9.out) lk10.out)).block _ (heap_lt X3.out)).trans X3.out
  have X3c0 := cell_of_heap hq 0
  have X3c1 := cell_of_heap hq 1
  have X3c2 := cell_of_heap hq 2
  simp at X3c0 X3c1 X3c2
  clear hq
  have hq := ((lk10.out).block _ (heap_lt X4.out)).trans X4.out
  have X4c0 := cell_of_heap hq 0
  have X4c1 := cell_of_heap hq 1
  have X4c2 := cell_of_heap hq 2
  simp at X4c0 X4c1 X4c2
  clear hq
  go_wp2_with fail
  have hE := equal_any a3 a4 c3 c4 S2 S2 x11.val (I3.out.below (Nat.le_refl _) ((Below.link (Below.link (Below.link lk7.out lk8.out) lk9.out) lk10.out))) (I4.out.below (Nat.le_refl _) ((Below.link lk9.out lk10.out))) (by omega) (by omega)
  rw [eqSlk_refl] at hE
  have HE2 := Lib.hid hE
  clear hE X3c0 X3c1 X3c2 X4c0 X4c1 X4c2
  refine (HE2.out).mono ?_
  rintro e w1 ⟨rfl, hb⟩
  obtain ⟨x12, rfl, lk11'⟩ := x11.step (hb)
  have lk11 := Lib.hid lk11'
  clear hb lk11'
  go_wp2_with fail
  refine (Sane_any _).mono ?_
  rintro e w1 ⟨rfl, hb⟩
  obtain ⟨x13, rfl, lk12'⟩ := x12.step (hb)
  have lk12 := Lib.hid lk12'
  clear hb lk12'
  go_wp2
  go_ret
  exact ⟨rfl, Aft.off F0.out x13⟩
end Go.Proofs.Ytnafllhgjidbkaa
