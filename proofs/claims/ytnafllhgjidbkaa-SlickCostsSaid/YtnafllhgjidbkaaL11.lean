/- The law of costs. -/
import Derived.Test.YtnafllhgjidbkaaT38
import Derived.Test.YtnafllhgjidbkaaT25
namespace Go.Proofs.Ytnafllhgjidbkaa
open Go.RowKit Go.Shelf
set_option linter.unusedVariables false
set_option linter.unusedSimpArgs false
theorem befL_len {B : Bay} {l : List Int} (h : l.length ≤ 100) (n : Int) : (befL B l n).length ≤ 100 := by
  unfold befL; split
  · rw [bN_len]; exact h
  · simp
set_option maxRecDepth 100000 in
set_option maxHeartbeats 4000000 in
theorem costs_any (B : Bay) (s : Slk) (l : List Int) (N : Int) (la sa ao po : Option Addr) (lc sc c pc : Nat) (w : World) (hl : BoolsAt w la B.Land) (hsh : FivesAt w sa B.Share) (hi : IntsAt w ao s.Oil) (hp : IntsAt w po l) (hnn : -9223372036854775808 ≤ N ∧ N ≤ 9223372036854775807) :
    Calls Try.prog 11 #[.agg #[.int .i64 B.W, .int .i64 B.H, .slice la B.Land.length lc, .slice sa B.Share.length sc], .agg #[.int .i64 s.K, .slice ao s.Oil.length c, .int .i64 s.Away], .agg #[.slice po l.length pc, .int .i64 N]] w fun e w' => e = .returned (.bool true) ∧ Below w.heap.size w w' := by
  have HLo := fun W => Long_any B W la sa lc sc
  have Hlo := fun W => long_any s W ao c
  have FF := Lib.hid (three_new (w := w) #[.int .i64 B.W, .int .i64 B.H, .slice la B.Land.length lc, .slice sa B.Share.length sc] #[.int .i64 s.K, .slice ao s.Oil.length c, .int .i64 s.Away] #[.slice po l.length pc, .int .i64 N] 25 28 64)
  by_cases hL : 100 < B.Land.length ∨ 100 < B.Share.length
  · rw [decide_eq_true hL] at HLo
    clear Hlo hL
    have HL := Lib.hid HLo
    clear HLo
    go_enter Try.func11, Try.ntmps11
    go_wp2_with fail
    generalize hW : (((w.alloc _).alloc _).alloc _) = W at *
    clear hW
    obtain ⟨f0, f1, f2, f3, f4⟩ := FF.out
    clear FF
    obtain ⟨x0, hx0⟩ : ∃ x : Aft W, x.val = W := ⟨⟨W, Below.refl _ W⟩, rfl⟩
    have F0 : Hid (Below w.heap.size w W) := f0
    have FZ : Hid (W.heap.size = w.heap.size + 3) := f1
    have FZ0 := Lib.hid (show x0.val.heap.size = w.heap.size + 3 by rw [hx0]; exact f1)
    have G0 : Hid (W.heap[w.heap.size]? = some (.cells #[.int .i64 B.W, .int .i64 B.H, .slice la B.Land.length lc, .slice sa B.Share.length sc] 25 (0, 0))) := f2
    have d0_0 : ∀ x : Aft W, x.val.cell? ⟨w.heap.size, 0, none⟩ = some (.int .i64 B.W) := fun x => cell_of_heap (x.heapH f2) 0
    have d0_1 : ∀ x : Aft W, x.val.cell? ⟨w.heap.size, 1, none⟩ = some (.int .i64 B.H) := fun x => cell_of_heap (x.heapH f2) 1
    have d0_2 : ∀ x : Aft W, x.val.cell? ⟨w.heap.size, 2, none⟩ = some (.slice la B.Land.length lc) := fun x => cell_of_heap (x.heapH f2) 2
    have d0_3 : ∀ x : Aft W, x.val.cell? ⟨w.heap.size, 3, none⟩ = some (.slice sa B.Share.length sc) := fun x => cell_of_heap (x.heapH f2) 3
    have G1 : Hid (W.heap[w.heap.size + 1]? = some (.cells #[.int .i64 s.K, .slice ao s.Oil.length c, .int .i64 s.Away] 28 (0, 0))) := f3
    have d1_0 : ∀ x : Aft W, x.val.cell? ⟨w.heap.size + 1, 0, none⟩ = some (.int .i64 s.K) := fun x => cell_of_heap (x.heapH f3) 0
    have d1_1 : ∀ x : Aft W, x.val.cell? ⟨w.heap.size + 1, 1, none⟩ = some (.slice ao s.Oil.length c) := fun x => cell_of_heap (x.heapH f3) 1
    have d1_2 : ∀ x : Aft W, x.val.cell? ⟨w.heap.size + 1, 2, none⟩ = some (.int .i64 s.Away) := fun x => cell_of_heap (x.heapH f3) 2
    have G2 : Hid (W.heap[w.heap.size + 1 + 1]? = some (.cells #[.slice po l.length pc, .int .i64 N] 64 (0, 0))) := f4
    have d2_0 : ∀ x : Aft W, x.val.cell? ⟨w.heap.size + 1 + 1, 0, none⟩ = some (.slice po l.length pc) := fun x => cell_of_heap (x.heapH f4) 0
    have d2_1 : ∀ x : Aft W, x.val.cell? ⟨w.heap.size + 1 + 1, 1, none⟩ = some (.int .i64 N) := fun x => cell_of_heap (x.heapH f4) 1
    rw [← hx0]
    clear hx0 f0 f1 f2 f3 f4
    refine wp_region_aftW x0 (by kernel_rfl) (by kernel_rfl) ?_
    repeat (go_big_quiet_step (fail))
    refine wpQuiet_nil ?_
    rintro _ ⟨x1, rfl⟩
    go_wp2_with fail
    refine (HL.out _).mono ?_
    rintro e w1 ⟨rfl, hb⟩
    obtain ⟨x2, rfl, lk1'⟩ := x1.step (hb)
    have lk1 := Lib.hid lk1'
    clear hb lk1'
    go_wp2_with fail
    refine (Sane_any _).mono ?_
    rintro e w1 ⟨rfl, hb⟩
    obtain ⟨x3, rfl, lk2'⟩ := x2.step (hb)
    have lk2 := Lib.hid lk2'
    clear hb lk2'
    go_wp2
    go_ret
    exact ⟨rfl, Aft.off F0.out x3⟩
  rw [decide_eq_false hL] at HLo
  by_cases hS : 100 < s.Oil.length
  · rw [decide_eq_true hS] at Hlo
    clear hL hS
    have HL := Lib.hid HLo
    have Hl := Lib.hid Hlo
    clear HLo Hlo
    go_enter Try.func11, Try.ntmps11
    go_wp2_with fail
    generalize hW : (((w.alloc _).alloc _).alloc _) = W at *
    clear hW
    obtain ⟨f0, f1, f2, f3, f4⟩ := FF.out
    clear FF
    obtain ⟨x0, hx0⟩ : ∃ x : Aft W, x.val = W := ⟨⟨W, Below.refl _ W⟩, rfl⟩
    have F0 : Hid (Below w.heap.size w W) := f0
    have FZ : Hid (W.heap.size = w.heap.size + 3) := f1
    have FZ0 := Lib.hid (show x0.val.heap.size = w.heap.size + 3 by rw [hx0]; exact f1)
    have G0 : Hid (W.heap[w.heap.size]? = some (.cells #[.int .i64 B.W, .int .i64 B.H, .slice la B.Land.length lc, .slice sa B.Share.length sc] 25 (0, 0))) := f2
    have d0_0 : ∀ x : Aft W, x.val.cell? ⟨w.heap.size, 0, none⟩ = some (.int .i64 B.W) := fun x => cell_of_heap (x.heapH f2) 0
    have d0_1 : ∀ x : Aft W, x.val.cell? ⟨w.heap.size, 1, none⟩ = some (.int .i64 B.H) := fun x => cell_of_heap (x.heapH f2) 1
    have d0_2 : ∀ x : Aft W, x.val.cell? ⟨w.heap.size, 2, none⟩ = some (.slice la B.Land.length lc) := fun x => cell_of_heap (x.heapH f2) 2
    have d0_3 : ∀ x : Aft W, x.val.cell? ⟨w.heap.size, 3, none⟩ = some (.slice sa B.Share.length sc) := fun x => cell_of_heap (x.heapH f2) 3
    have G1 : Hid (W.heap[w.heap.size + 1]? = some (.cells #[.int .i64 s.K, .slice ao s.Oil.length c, .int .i64 s.Away] 28 (0, 0))) := f3
    have d1_0 : ∀ x : Aft W, x.val.cell? ⟨w.heap.size + 1, 0, none⟩ = some (.int .i64 s.K) := fun x => cell_of_heap (x.heapH f3) 0
    have d1_1 : ∀ x : Aft W, x.val.cell? ⟨w.heap.size + 1, 1, none⟩ = some (.slice ao s.Oil.length c) := fun x => cell_of_heap (x.heapH f3) 1
    have d1_2 : ∀ x : Aft W, x.val.cell? ⟨w.heap.size + 1, 2, none⟩ = some (.int .i64 s.Away) := fun x => cell_of_heap (x.heapH f3) 2
    have G2 : Hid (W.heap[w.heap.size + 1 + 1]? = some (.cells #[.slice po l.length pc, .int .i64 N] 64 (0, 0))) := f4
    have d2_0 : ∀ x : Aft W, x.val.cell? ⟨w.heap.size + 1 + 1, 0, none⟩ = some (.slice po l.length pc) := fun x => cell_of_heap (x.heapH f4) 0
    have d2_1 : ∀ x : Aft W, x.val.cell? ⟨w.heap.size + 1 + 1, 1, none⟩ = some (.int .i64 N) := fun x => cell_of_heap (x.heapH f4) 1
    rw [← hx0]
    clear hx0 f0 f1 f2 f3 f4
    refine wp_region_aftW x0 (by kernel_rfl) (by kernel_rfl) ?_
    repeat (go_big_quiet_step (fail))
    refine wpQuiet_nil ?_
    rintro _ ⟨x1, rfl⟩
    go_wp2_with fail
    refine (HL.out _).mono ?_
    rintro e w1 ⟨rfl, hb⟩
    obtain ⟨x2, rfl, lk1'⟩ := x1.step (hb)
    have lk1 := Lib.hid lk1'
    clear hb lk1'
    go_wp2_with fail
    refine (Hl.out _).mono ?_
    rintro e w1 ⟨rfl, hb⟩
    obtain ⟨x3, rfl, lk2'⟩ := x2.step (hb)
    have lk2 := Lib.hid lk2'
    clear hb lk2'
    go_wp2_with fail
    refine (Sane_any _).mono ?_
    rintro e w1 ⟨rfl, hb⟩
    obtain ⟨x4, rfl, lk3'⟩ := x3.step (hb)
    have lk3 := Lib.hid lk3'
    clear hb lk3'
    go_wp2
    go_ret
    exact ⟨rfl, Aft.off F0.out x4⟩
  rw [decide_eq_false hS] at Hlo
  by_cases hP : 100 < l.length
  · clear hL hS
    have hP' : (100 : Int) < l.length := by omega
    have HL := Lib.hid HLo
    have Hl := Lib.hid Hlo
    clear HLo Hlo
    go_enter Try.func11, Try.ntmps11
    go_wp2_with fail
    generalize hW : (((w.alloc _).alloc _).alloc _) = W at *
    clear hW
    obtain ⟨f0, f1, f2, f3, f4⟩ := FF.out
    clear FF
    obtain ⟨x0, hx0⟩ : ∃ x : Aft W, x.val = W := ⟨⟨W, Below.refl _ W⟩, rfl⟩
    have F0 : Hid (Below w.heap.size w W) := f0
    have FZ : Hid (W.heap.size = w.heap.size + 3) := f1
    have FZ0 := Lib.hid (show x0.val.heap.size = w.heap.size + 3 by rw [hx0]; exact f1)
    have G0 : Hid (W.heap[w.heap.size]? = some (.cells #[.int .i64 B.W, .int .i64 B.H, .slice la B.Land.length lc, .slice sa B.Share.length sc] 25 (0, 0))) := f2
    have d0_0 : ∀ x : Aft W, x.val.cell? ⟨w.heap.size, 0, none⟩ = some (.int .i64 B.W) := fun x => cell_of_heap (x.heapH f2) 0
    have d0_1 : ∀ x : Aft W, x.val.cell? ⟨w.heap.size, 1, none⟩ = some (.int .i64 B.H) := fun x => cell_of_heap (x.heapH f2) 1
    have d0_2 : ∀ x : Aft W, x.val.cell? ⟨w.heap.size, 2, none⟩ = some (.slice la B.Land.length lc) := fun x => cell_of_heap (x.heapH f2) 2
    have d0_3 : ∀ x : Aft W, x.val.cell? ⟨w.heap.size, 3, none⟩ = some (.slice sa B.Share.length sc) := fun x => cell_of_heap (x.heapH f2) 3
    have G1 : Hid (W.heap[w.heap.size + 1]? = some (.cells #[.int .i64 s.K, .slice ao s.Oil.length c, .int .i64 s.Away] 28 (0, 0))) := f3
    have d1_0 : ∀ x : Aft W, x.val.cell? ⟨w.heap.size + 1, 0, none⟩ = some (.int .i64 s.K) := fun x => cell_of_heap (x.heapH f3) 0
    have d1_1 : ∀ x : Aft W, x.val.cell? ⟨w.heap.size + 1, 1, none⟩ = some (.slice ao s.Oil.length c) := fun x => cell_of_heap (x.heapH f3) 1
    have d1_2 : ∀ x : Aft W, x.val.cell? ⟨w.heap.size + 1, 2, none⟩ = some (.int .i64 s.Away) := fun x => cell_of_heap (x.heapH f3) 2
    have G2 : Hid (W.heap[w.heap.size + 1 + 1]? = some (.cells #[.slice po l.length pc, .int .i64 N] 64 (0, 0))) := f4
    have d2_0 : ∀ x : Aft W, x.val.cell? ⟨w.heap.size + 1 + 1, 0, none⟩ = some (.slice po l.length pc) := fun x => cell_of_heap (x.heapH f4) 0
    have d2_1 : ∀ x : Aft W, x.val.cell? ⟨w.heap.size + 1 + 1, 1, none⟩ = some (.int .i64 N) := fun x => cell_of_heap (x.heapH f4) 1
    rw [← hx0]
    clear hx0 f0 f1 f2 f3 f4
    refine wp_region_aftW x0 (by kernel_rfl) (by kernel_rfl) ?_
    repeat (go_big_quiet_step (fail))
    refine wpQuiet_nil ?_
    rintro _ ⟨x1, rfl⟩
    go_wp2_with fail
    refine (HL.out _).mono ?_
    rintro e w1 ⟨rfl, hb⟩
    obtain ⟨x2, rfl, lk1'⟩ := x1.step (hb)
    have lk1 := Lib.hid lk1'
    clear hb lk1'
    go_wp2_with fail
    refine (Hl.out _).mono ?_
    rintro e w1 ⟨rfl, hb⟩
    obtain ⟨x3, rfl, lk2'⟩ := x2.step (hb)
    have lk2 := Lib.hid lk2'
    clear hb lk2'
    go_wp2_with fail
    refine (Sane_any _).mono ?_
    rintro e w1 ⟨rfl, hb⟩
    obtain ⟨x4, rfl, lk3'⟩ := x3.step (hb)
    have lk3 := Lib.hid lk3'
    clear hb lk3'
    go_wp2
    go_ret
    exact ⟨rfl, Aft.off F0.out x4⟩
  have hP' : ¬ (100 : Int) < l.length := by omega
  have hB : BayAt w (.agg #[.int .i64 B.W, .int .i64 B.H, .slice la B.Land.length lc, .slice sa B.Share.length sc]) B := ⟨la, lc, sa, sc, rfl, hl, hsh, by omega, by omega⟩
  have hK : SlkAt w (.agg #[.int .i64 s.K, .slice ao s.Oil.length c, .int .i64 s.Away]) s := ⟨ao, c, rfl, hi, by omega⟩
  have HB := Lib.hid (fun W (h : Below w.heap.size w W) => hB.below (Nat.le_refl _) h)
  have HK := Lib.hid (fun W (h : Below w.heap.size w W) => hK.below (Nat.le_refl _) h)
  have HP := Lib.hid (fun W (h : Below w.heap.size w W) => hp.below (Nat.le_refl _) h)
  have q1 := befL_len (B := B) (l := l) (by omega) N
  have F1 := Lib.hid (fun W h => Cost_any _ _ B s po pc l W (HB.out W h) (HK.out W h) (HP.out W h) (by omega))
  have F2 := Lib.hid (fun W h => rCost_any _ _ B s po pc l W (HB.out W h) (HK.out W h) (HP.out W h) (by omega))
  have F3 := Lib.hid (fun W h => Before_any _ B po pc l N W (HB.out W h) (HP.out W h) (by omega) hnn)
  have F4 := Lib.hid (fun W h => rBefore_any _ B po pc l N W (HB.out W h) (HP.out W h) (by omega) hnn)
  have HL := Lib.hid HLo
  have Hl := Lib.hid Hlo
  clear HLo Hlo
  clear HB HK HP hB hK hl hsh hi hp hL hS hP
  generalize costV B s l = V at *
  generalize costE B s l = E1 at *
  generalize befL B l N = L at *
  generalize befE B l N = E2 at *
  go_enter Try.func11, Try.ntmps11
  go_wp2_with fail
  generalize hW : (((w.alloc _).alloc _).alloc _) = W at *
  clear hW
  obtain ⟨f0, f1, f2, f3, f4⟩ := FF.out
  clear FF
  obtain ⟨x0, hx0⟩ : ∃ x : Aft W, x.val = W := ⟨⟨W, Below.refl _ W⟩, rfl⟩
  have F0 : Hid (Below w.heap.size w W) := f0
  have FZ : Hid (W.heap.size = w.heap.size + 3) := f1
  have FZ0 := Lib.hid (show x0.val.heap.size = w.heap.size + 3 by rw [hx0]; exact f1)
  have G0 : Hid (W.heap[w.heap.size]? = some (.cells #[.int .i64 B.W, .int .i64 B.H, .slice la B.Land.length lc, .slice sa B.Share.length sc] 25 (0, 0))) := f2
  have d0_0 : ∀ x : Aft W, x.val.cell? ⟨w.heap.size, 0, none⟩ = some (.int .i64 B.W) := fun x => cell_of_heap (x.heapH f2) 0
  have d0_1 : ∀ x : Aft W, x.val.cell? ⟨w.heap.size, 1, none⟩ = some (.int .i64 B.H) := fun x => cell_of_heap (x.heapH f2) 1
  have d0_2 : ∀ x : Aft W, x.val.cell? ⟨w.heap.size, 2, none⟩ = some (.slice la B.Land.length lc) := fun x => cell_of_heap (x.heapH f2) 2
  have d0_3 : ∀ x : Aft W, x.val.cell? ⟨w.heap.size, 3, none⟩ = some (.slice sa B.Share.length sc) := fun x => cell_of_heap (x.heapH f2) 3
  have G1 : Hid (W.heap[w.heap.size + 1]? = some (.cells #[.int .i64 s.K, .slice ao s.Oil.length c, .int .i64 s.Away] 28 (0, 0))) := f3
  have d1_0 : ∀ x : Aft W, x.val.cell? ⟨w.heap.size + 1, 0, none⟩ = some (.int .i64 s.K) := fun x => cell_of_heap (x.heapH f3) 0
  have d1_1 : ∀ x : Aft W, x.val.cell? ⟨w.heap.size + 1, 1, none⟩ = some (.slice ao s.Oil.length c) := fun x => cell_of_heap (x.heapH f3) 1
  have d1_2 : ∀ x : Aft W, x.val.cell? ⟨w.heap.size + 1, 2, none⟩ = some (.int .i64 s.Away) := fun x => cell_of_heap (x.heapH f3) 2
  have G2 : Hid (W.heap[w.heap.size + 1 + 1]? = some (.cells #[.slice po l.length pc, .int .i64 N] 64 (0, 0))) := f4
  have d2_0 : ∀ x : Aft W, x.val.cell? ⟨w.heap.size + 1 + 1, 0, none⟩ = some (.slice po l.length pc) := fun x => cell_of_heap (x.heapH f4) 0
  have d2_1 : ∀ x : Aft W, x.val.cell? ⟨w.heap.size + 1 + 1, 1, none⟩ = some (.int .i64 N) := fun x => cell_of_heap (x.heapH f4) 1
  rw [← hx0]
  clear hx0 f0 f1 f2 f3 f4
  refine wp_region_aftW x0 (by kernel_rfl) (by kernel_rfl) ?_
  repeat (go_big_quiet_step (fail))
  refine wpQuiet_nil ?_
  rintro _ ⟨x1, rfl⟩
  go_wp2_with fail
  refine (HL.out _).mono ?_
  rintro e w1 ⟨rfl, hb⟩
  obtain ⟨x2, rfl, lk1'⟩ := x1.step (hb)
  have lk1 := Lib.hid lk1'
  clear hb lk1'
  go_wp2_with fail
  refine (Hl.out _).mono ?_
  rintro e w1 ⟨rfl, hb⟩
  obtain ⟨x3, rfl, lk2'⟩ := x2.step (hb)
  have lk2 := Lib.hid lk2'
  clear hb lk2'
  go_wp2_with fail
  refine (F1.out _ (Aft.off F0.out x3)).mono ?_
  rintro e w1 ⟨rfl, hb⟩
  obtain ⟨x4, rfl, lk3'⟩ := x3.step (hb)
  have lk3 := Lib.hid lk3'
  clear hb lk3'
  go_wp2_with fail
  refine (F2.out _ (Aft.off F0.out x4)).mono ?_
  rintro e w1 ⟨rfl, hb⟩
  obtain ⟨x5, rfl, lk4'⟩ := x4.step (hb)
  have lk4 := Lib.hid lk4'
  clear hb lk4'
  go_wp2_with fail
  refine (F3.out _ (Aft.off F0.out x5)).mono ?_
  rintro e w1 ⟨a1, c1, rfl, hi1, hf1, hb⟩
  obtain ⟨x6, rfl, lk5'⟩ := x5.step (hb)
  have lk5 := Lib.hid lk5'
  clear hb lk5'
  have I1 := Lib.hid hi1
  clear hi1 hf1
  go_wp2_with fail
  refine (F4.out _ (Aft.off F0.out x6)).mono ?_
  rintro e w1 ⟨a2, c2, rfl, hi2, hf2, hb⟩
  obtain ⟨x7, rfl, lk6'⟩ := x6.step (hb)
  have lk6 := Lib.hid lk6'
  clear hb lk6'
  have hE := sameInts_any a1 a2 c1 c2 L L x7.val (I1.out.below (Nat.le_refl _) (lk6.out)) hi2 (by omega) (by omega)
  rw [show sameB L L = true from by simp [sameB]] at hE
  have HE := Lib.hid hE
  clear hi2 hf2 hE
  go_wp2_with fail
  refine (HE.out).mono ?_
  rintro e w1 ⟨rfl, hb⟩
  obtain ⟨x8, rfl, lk7'⟩ := x7.step (hb)
  have lk7 := Lib.hid lk7'
  clear hb lk7'
  go_wp2_with fail
  refine (Sane_any _).mono ?_
  rintro e w1 ⟨rfl, hb⟩
  obtain ⟨x9, rfl, lk8'⟩ := x8.step (hb)
  have lk8 := Lib.hid lk8'
  clear hb lk8'
  go_wp2
  go_ret
  exact ⟨rfl, Aft.off F0.out x9⟩
end Go.Proofs.Ytnafllhgjidbkaa
