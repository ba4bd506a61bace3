/- The law that the cost of what comes about is that of what was there by the prices before. -/
import Derived.Test.YtnafllhgjidbkaaT39
import Derived.Test.YtnafllhgjidbkaaT25
import Derived.Test.YtnafllhgjidbkaaL6
namespace Go.Proofs.Ytnafllhgjidbkaa
open Go.RowKit Go.Shelf
set_option linter.unusedVariables false
set_option linter.unusedSimpArgs false
theorem arePrices_any2 (v : Value) (B : Bay) (po : Option Addr) (pc : Nat) (l : List Int) (w : World) (hv : BayAt w v B) (hp : IntsAt w po l) (hval : validP B) :
    Calls Try.prog 44 #[v, .slice po l.length pc] w fun e w' => e = .returned (.bool (priceB B l)) ∧ Below w.heap.size w w' := by
  by_cases hn : l.length ≤ 1000
  · exact arePrices_any v B po pc l w hv hp hn hval
  · obtain ⟨la, lc, sa, sc, rfl, hl, hsh, hll, hsl⟩ := hv
    obtain ⟨hp1, hp2⟩ := mul36 hval.1.1 hval.1.2 hval.2.1.1 hval.2.1.2
    have hlen : ¬ (l.length : Int) = B.W * B.H + 1 := by omega
    clear hl hsh hp hval
    have FF := Lib.hid (one_new (w := w) #[.int .i64 B.W, .int .i64 B.H, .slice la B.Land.length lc, .slice sa B.Share.length sc] 25)
    have hb : ((l.length : Int) != B.W * B.H + 1) = true := by simpa using hlen
    have HA := Lib.hid (priceB_false (B := B) (l := l) (fun hh => hlen hh.1))
    clear hlen hn
    go_enter Try.func44, Try.ntmps44
    go_wp2_with fail
    generalize hW : (w.alloc _) = W at *
    clear hW
    obtain ⟨f0, f1, f2⟩ := FF.out
    clear FF
    obtain ⟨x0, hx0⟩ : ∃ x : Aft W, x.val = W := ⟨⟨W, Below.refl _ W⟩, rfl⟩
    have F0 : Hid (Below w.heap.size w W) := f0
    have FZ : Hid (W.heap.size = w.heap.size + 1) := f1
    have FZ0 := Lib.hid (show x0.val.heap.size = w.heap.size + 1 by rw [hx0]; exact f1)
    have G0 : Hid (W.heap[w.heap.size]? = some (.cells #[.int .i64 B.W, .int .i64 B.H, .slice la B.Land.length lc, .slice sa B.Share.length sc] 25 (0, 0))) := f2
    have d0_0 : ∀ x : Aft W, x.val.cell? ⟨w.heap.size, 0, none⟩ = some (.int .i64 B.W) := fun x => cell_of_heap (x.heapH f2) 0
    have d0_1 : ∀ x : Aft W, x.val.cell? ⟨w.heap.size, 1, none⟩ = some (.int .i64 B.H) := fun x => cell_of_heap (x.heapH f2) 1
    have d0_2 : ∀ x : Aft W, x.val.cell? ⟨w.heap.size, 2, none⟩ = some (.slice la B.Land.length lc) := fun x => cell_of_heap (x.heapH f2) 2
    have d0_3 : ∀ x : Aft W, x.val.cell? ⟨w.heap.size, 3, none⟩ = some (.slice sa B.Share.length sc) := fun x => cell_of_heap (x.heapH f2) 3
    rw [← hx0]
    clear hx0 f0 f1 f2
    go_wp2
    go_ret
    exact ⟨ret_bool HA.out.symm, Aft.off F0.out x0⟩

theorem bN_last {B : Bay} {l : List Int} (hlen : l.length = B.Share.length + 1) (i : Nat) : (bN B l (i + 1)).getD B.Share.length 0 = 16 * (bN B l i).getD B.Share.length 0 := by
  have h := bN_len B l i
  show (bUp B (bN B l i) ((bN B l i).length - 1)).getD _ 0 = _
  rw [bUp_get B _ _ _ (Nat.le_refl _) (by omega), if_pos (by omega), show (bN B l i).length - 1 = B.Share.length by omega]
theorem bN_cell {B : Bay} {l : List Int} (hlen : l.length = B.Share.length + 1) (i : Nat) {j : Nat} (hj : j < B.Share.length) : (bN B l (i + 1)).getD j 0 = fsum (bN B l i) (flowsL B j) := by
  have h := bN_len B l i
  show (bUp B (bN B l i) ((bN B l i).length - 1)).getD _ 0 = _
  rw [bUp_get B _ _ _ (Nat.le_refl _) (by omega), if_neg (by omega), if_pos (by omega)]
theorem dotR_term {a l : List Int} : ∀ (n : Nat), (∀ k, k < n → 0 ≤ a.getD k 0 * l.getD k 0) → 0 ≤ dotR a l n ∧ ∀ k, k < n → a.getD k 0 * l.getD k 0 ≤ dotR a l n
  | 0, _ => ⟨by simp [dotR, sumR_zero], by intro k hk; omega⟩
  | n + 1, h => by
    obtain ⟨h0, h1⟩ := dotR_term n (fun k hk => h k (by omega))
    have hn := h n (by omega)
    rw [dotR_succ]
    refine ⟨by omega, fun k hk => ?_⟩
    by_cases e : k = n
    · subst e; omega
    · have := h1 k (by omega); omega
theorem dotR_le {a l : List Int} {M : Int} : ∀ (n : Nat), (∀ k, k < n → a.getD k 0 * l.getD k 0 ≤ M) → dotR a l n ≤ n * M
  | 0, _ => by simp [dotR, sumR_zero]
  | n + 1, h => by
    have h0 := dotR_le n (fun k hk => h k (by omega))
    have hn := h n (by omega)
    have e : ((n + 1 : Nat) : Int) * M = n * M + M := by rw [Int.natCast_add]; simp [Int.add_mul]
    rw [dotR_succ, e]; omega
theorem both_bd {B : Bay} {s : Slk} {l : List Int} {i : Nat} (hval : validP B) (hfit : fitsP B s) (hpr : priceP B l) (hK : s.K + i ≤ 5) (hlen : l.length = B.Share.length + 1) :
    costZ s (bN B l i) = costZ (mvN B s i) l ∧ (0 ≤ s.Away * (bN B l i).getD s.Oil.length 0 ∧ s.Away * (bN B l i).getD s.Oil.length 0 ≤ 10000000000000000) ∧ ∀ k, k < s.Oil.length → 0 ≤ s.Oil.getD k 0 * (bN B l i).getD k 0 ∧ s.Oil.getD k 0 * (bN B l i).getD k 0 ≤ 10000000000000000 := by
  have hls := fits_pre hval hfit
  have hadj := adjN hval hls i l (by omega)
  obtain ⟨q1, q2, q3⟩ := cost_bd (mvN_fits hval hfit i hK) hpr
  have hb := bN_bd hval hlen (price_bd hpr) i
  have hA : 0 ≤ s.Away * (bN B l i).getD s.Oil.length 0 := Int.mul_nonneg hfit.2.2.2.1 (hb _).1
  have hO : ∀ k, k < s.Oil.length → 0 ≤ s.Oil.getD k 0 * (bN B l i).getD k 0 := fun k hk => Int.mul_nonneg (amt_range hfit.2.2.1 k hk).1 (hb k).1
  obtain ⟨h0, h1⟩ := dotR_term (a := s.Oil) (l := bN B l i) s.Oil.length hO
  have h36 : s.Oil.length ≤ 36 := by have := mul36 hval.1.1 hval.1.2 hval.2.1.1 hval.2.1.2; have := hfit.2.1; omega
  have hd := dotR_le (a := (mvN B s i).Oil) (l := l) (mvN B s i).Oil.length (fun k hk => (q3 k hk).2)
  have hml : (mvN B s i).Oil.length = s.Oil.length := mvN_len B s i
  have hd2 : ((mvN B s i).Oil.length : Int) * 37748736000000 ≤ 36 * 37748736000000 := by rw [hml]; omega
  have hc : costZ (mvN B s i) l ≤ 10000000000000000 := by unfold costZ; omega
  have hs : costZ s (bN B l i) = s.Away * (bN B l i).getD s.Oil.length 0 + dotR s.Oil (bN B l i) s.Oil.length := rfl
  refine ⟨hadj.symm, ⟨hA, by omega⟩, fun k hk => ⟨hO k hk, by have := h1 k hk; omega⟩⟩
theorem u64_nn (N : Int) : 0 ≤ IntKind.u64.wrap N := by
  unfold IntKind.wrap
  simp [IntKind.signed, IntKind.bits]
  omega

set_option maxRecDepth 100000 in
set_option maxHeartbeats 8000000 in
theorem both_any (B : Bay) (s : Slk) (l : List Int) (N : Int) (la sa ao po : Option Addr) (lc sc c pc : Nat) (w : World) (hl : BoolsAt w la B.Land) (hsh : FivesAt w sa B.Share) (hi : IntsAt w ao s.Oil) (hp : IntsAt w po l) (hnn : -9223372036854775808 ≤ N ∧ N ≤ 9223372036854775807) :
    Calls Try.prog 12 #[.agg #[.int .i64 B.W, .int .i64 B.H, .slice la B.Land.length lc, .slice sa B.Share.length sc], .agg #[.int .i64 s.K, .slice ao s.Oil.length c, .int .i64 s.Away], .agg #[.slice po l.length pc, .int .i64 N]] w fun e w' => e = .returned (.bool true) ∧ Below w.heap.size w w' := by
  have HLo := fun W => Long_any B W la sa lc sc
  have FF := Lib.hid (three_new (w := w) #[.int .i64 B.W, .int .i64 B.H, .slice la B.Land.length lc, .slice sa B.Share.length sc] #[.int .i64 s.K, .slice ao s.Oil.length c, .int .i64 s.Away] #[.slice po l.length pc, .int .i64 N] 25 28 64)
  have HI := Lib.hid (fun W (h : Below w.heap.size w W) => hi.below (Nat.le_refl _) h)
  have HP := Lib.hid (fun W (h : Below w.heap.size w W) => hp.below (Nat.le_refl _) h)
  have HLD := Lib.hid (fun W (h : Below w.heap.size w W) => hl.below (Nat.le_refl _) h)
  by_cases hL : 100 < B.Land.length ∨ 100 < B.Share.length
  · rw [decide_eq_true hL] at HLo
    clear hL
    have HL := Lib.hid HLo
    clear HLo
    go_enter Try.func12, Try.ntmps12
    go_wp2_with fail
    generalize hW : (((w.alloc _).alloc _).alloc _) = W at *
    clear hW
    obtain ⟨f0, f1, f2, f3, f4⟩ := FF.out
    clear FF
    obtain ⟨x0, hx0⟩ : ∃ x : Aft W, x.val = W := ⟨⟨W, Below.refl _ W⟩, rfl⟩
    have F0 : Hid (Below w.heap.size w W) := f0
    have FZ : Hid (W.heap.size = w.heap.size + 3) := f1
    have FZ0 := Lib.hid (show x0.val.heap.size = w.heap.size + 3 by rw [hx0]; exact f1)
    have G0 : Hid (W.heap[w.heap.size]? = some (.cells #[.int .i64 B.W, .int .i64 B.H, .slice la B.Land.length lc, .slice sa B.Share.length sc] 25 (0, 0))) := f2
    have d0_0 : ∀ x : Aft W, x.val.cell? ⟨w.heap.size, 0, none⟩ = some (.int .i64 B.W) := fun x => cell_of_heap (x.heapH f2) 0
    have d0_1 : ∀ x : Aft W, x.val.cell? ⟨w.heap.size, 1, none⟩ = some (.int .i64 B.H) := fun x => cell_of_heap (x.heapH f2) 1
    have d0_2 : ∀ x : Aft W, x.val.cell? ⟨w.heap.size, 2, none⟩ = some (.slice la B.Land.length lc) := fun x => cell_of_heap (x.heapH f2) 2
    have d0_3 : ∀ x : Aft W, x.val.cell? ⟨w.heap.size, 3, none⟩ = some (.slice sa B.Share.length sc) := fun x => cell_of_heap (x.heapH f2) 3
    have G1 : Hid (W.heap[w.heap.size + 1]? = some (.cells #[.int .i64 s.K, .slice ao s.Oil.length c, .int .i64 s.Away] 28 (0, 0))) := f3
    have d1_0 : ∀ x : Aft W, x.val.cell? ⟨w.heap.size + 1, 0, none⟩ = some (.int .i64 s.K) := fun x => cell_of_heap (x.heapH f3) 0
    have d1_1 : ∀ x : Aft W, x.val.cell? ⟨w.heap.size + 1, 1, none⟩ = some (.slice ao s.Oil.length c) := fun x => cell_of_heap (x.heapH f3) 1
    have d1_2 : ∀ x : Aft W, x.val.cell? ⟨w.heap.size + 1, 2, none⟩ = some (.int .i64 s.Away) := fun x => cell_of_heap (x.heapH f3) 2
    have G2 : Hid (W.heap[w.heap.size + 1 + 1]? = some (.cells #[.slice po l.length pc, .int .i64 N] 64 (0, 0))) := f4
    have d2_0 : ∀ x : Aft W, x.val.cell? ⟨w.heap.size + 1 + 1, 0, none⟩ = some (.slice po l.length pc) := fun x => cell_of_heap (x.heapH f4) 0
    have d2_1 : ∀ x : Aft W, x.val.cell? ⟨w.heap.size + 1 + 1, 1, none⟩ = some (.int .i64 N) := fun x => cell_of_heap (x.heapH f4) 1
    rw [← hx0]
    clear hx0 f0 f1 f2 f3 f4
    refine (HL.out _).mono ?_
    rintro e w1 ⟨rfl, hb⟩
    obtain ⟨x1, rfl, lk0'⟩ := x0.step (hb)
    have lk0 := Lib.hid lk0'
    clear hb lk0'
    go_wp2_with fail
    refine (Sane_any _).mono ?_
    rintro e w1 ⟨rfl, hb⟩
    obtain ⟨x2, rfl, lk1'⟩ := x1.step (hb)
    have lk1 := Lib.hid lk1'
    clear hb lk1'
    go_wp2
    go_ret
    exact ⟨rfl, Aft.off F0.out x2⟩
  rw [decide_eq_false hL] at HLo
  have hB : BayAt w (.agg #[.int .i64 B.W, .int .i64 B.H, .slice la B.Land.length lc, .slice sa B.Share.length sc]) B := ⟨la, lc, sa, sc, rfl, hl, hsh, by omega, by omega⟩
  have HB := Lib.hid (fun W (h : Below w.heap.size w W) => hB.below (Nat.le_refl _) h)
  have HL := Lib.hid HLo
  clear HLo
  clear hl hsh hi hp hL
  have F2 := fun W h => rvalid_any _ B W (HB.out W h)
  by_cases hval : validP B
  case neg =>
    rw [validB_false hval] at F2
    have H2 := Lib.hid F2
    clear F2
    clear hval hB
    go_enter Try.func12, Try.ntmps12
    go_wp2_with fail
    generalize hW : (((w.alloc _).alloc _).alloc _) = W at *
    clear hW
    obtain ⟨f0, f1, f2, f3, f4⟩ := FF.out
    clear FF
    obtain ⟨x0, hx0⟩ : ∃ x : Aft W, x.val = W := ⟨⟨W, Below.refl _ W⟩, rfl⟩
    have F0 : Hid (Below w.heap.size w W) := f0
    have FZ : Hid (W.heap.size = w.heap.size + 3) := f1
    have FZ0 := Lib.hid (show x0.val.heap.size = w.heap.size + 3 by rw [hx0]; exact f1)
    have G0 : Hid (W.heap[w.heap.size]? = some (.cells #[.int .i64 B.W, .int .i64 B.H, .slice la B.Land.length lc, .slice sa B.Share.length sc] 25 (0, 0))) := f2
    have d0_0 : ∀ x : Aft W, x.val.cell? ⟨w.heap.size, 0, none⟩ = some (.int .i64 B.W) := fun x => cell_of_heap (x.heapH f2) 0
    have d0_1 : ∀ x : Aft W, x.val.cell? ⟨w.heap.size, 1, none⟩ = some (.int .i64 B.H) := fun x => cell_of_heap (x.heapH f2) 1
    have d0_2 : ∀ x : Aft W, x.val.cell? ⟨w.heap.size, 2, none⟩ = some (.slice la B.Land.length lc) := fun x => cell_of_heap (x.heapH f2) 2
    have d0_3 : ∀ x : Aft W, x.val.cell? ⟨w.heap.size, 3, none⟩ = some (.slice sa B.Share.length sc) := fun x => cell_of_heap (x.heapH f2) 3
    have G1 : Hid (W.heap[w.heap.size + 1]? = some (.cells #[.int .i64 s.K, .slice ao s.Oil.length c, .int .i64 s.Away] 28 (0, 0))) := f3
    have d1_0 : ∀ x : Aft W, x.val.cell? ⟨w.heap.size + 1, 0, none⟩ = some (.int .i64 s.K) := fun x => cell_of_heap (x.heapH f3) 0
    have d1_1 : ∀ x : Aft W, x.val.cell? ⟨w.heap.size + 1, 1, none⟩ = some (.slice ao s.Oil.length c) := fun x => cell_of_heap (x.heapH f3) 1
    have d1_2 : ∀ x : Aft W, x.val.cell? ⟨w.heap.size + 1, 2, none⟩ = some (.int .i64 s.Away) := fun x => cell_of_heap (x.heapH f3) 2
    have G2 : Hid (W.heap[w.heap.size + 1 + 1]? = some (.cells #[.slice po l.length pc, .int .i64 N] 64 (0, 0))) := f4
    have d2_0 : ∀ x : Aft W, x.val.cell? ⟨w.heap.size + 1 + 1, 0, none⟩ = some (.slice po l.length pc) := fun x => cell_of_heap (x.heapH f4) 0
    have d2_1 : ∀ x : Aft W, x.val.cell? ⟨w.heap.size + 1 + 1, 1, none⟩ = some (.int .i64 N) := fun x => cell_of_heap (x.heapH f4) 1
    rw [← hx0]
    clear hx0 f0 f1 f2 f3 f4
    refine (HL.out _).mono ?_
    rintro e w1 ⟨rfl, hb⟩
    obtain ⟨x1, rfl, lk0'⟩ := x0.step (hb)
    have lk0 := Lib.hid lk0'
    clear hb lk0'
    go_wp2_with fail
    refine (H2.out _ (Aft.off F0.out x1)).mono ?_
    rintro e w1 ⟨rfl, hb⟩
    obtain ⟨x2, rfl, lk1'⟩ := x1.step (hb)
    have lk1 := Lib.hid lk1'
    clear hb lk1'
    go_wp2_with fail
    refine (Sane_any _).mono ?_
    rintro e w1 ⟨rfl, hb⟩
    obtain ⟨x3, rfl, lk2'⟩ := x2.step (hb)
    have lk2 := Lib.hid lk2'
    clear hb lk2'
    go_wp2
    go_ret
    exact ⟨rfl, Aft.off F0.out x3⟩
  rw [validB_true hval] at F2
  have F3 := fun W h => is_any2 B s la sa ao lc sc c W (HB.out W h) (HI.out W h) hval
  by_cases hfit : fitsP B s
  case neg =>
    rw [fitsB_false hfit] at F3
    have H2 := Lib.hid F2
    have H3 := Lib.hid F3
    clear F2 F3
    clear hval hB hfit
    go_enter Try.func12, Try.ntmps12
    go_wp2_with fail
    generalize hW : (((w.alloc _).alloc _).alloc _) = W at *
    clear hW
    obtain ⟨f0, f1, f2, f3, f4⟩ := FF.out
    clear FF
    obtain ⟨x0, hx0⟩ : ∃ x : Aft W, x.val = W := ⟨⟨W, Below.refl _ W⟩, rfl⟩
    have F0 : Hid (Below w.heap.size w W) := f0
    have FZ : Hid (W.heap.size = w.heap.size + 3) := f1
    have FZ0 := Lib.hid (show x0.val.heap.size = w.heap.size + 3 by rw [hx0]; exact f1)
    have G0 : Hid (W.heap[w.heap.size]? = some (.cells #[.int .i64 B.W, .int .i64 B.H, .slice la B.Land.length lc, .slice sa B.Share.length sc] 25 (0, 0))) := f2
    have d0_0 : ∀ x : Aft W, x.val.cell? ⟨w.heap.size, 0, none⟩ = some (.int .i64 B.W) := fun x => cell_of_heap (x.heapH f2) 0
    have d0_1 : ∀ x : Aft W, x.val.cell? ⟨w.heap.size, 1, none⟩ = some (.int .i64 B.H) := fun x => cell_of_heap (x.heapH f2) 1
    have d0_2 : ∀ x : Aft W, x.val.cell? ⟨w.heap.size, 2, none⟩ = some (.slice la B.Land.length lc) := fun x => cell_of_heap (x.heapH f2) 2
    have d0_3 : ∀ x : Aft W, x.val.cell? ⟨w.heap.size, 3, none⟩ = some (.slice sa B.Share.length sc) := fun x => cell_of_heap (x.heapH f2) 3
    have G1 : Hid (W.heap[w.heap.size + 1]? = some (.cells #[.int .i64 s.K, .slice ao s.Oil.length c, .int .i64 s.Away] 28 (0, 0))) := f3
    have d1_0 : ∀ x : Aft W, x.val.cell? ⟨w.heap.size + 1, 0, none⟩ = some (.int .i64 s.K) := fun x => cell_of_heap (x.heapH f3) 0
    have d1_1 : ∀ x : Aft W, x.val.cell? ⟨w.heap.size + 1, 1, none⟩ = some (.slice ao s.Oil.length c) := fun x => cell_of_heap (x.heapH f3) 1
    have d1_2 : ∀ x : Aft W, x.val.cell? ⟨w.heap.size + 1, 2, none⟩ = some (.int .i64 s.Away) := fun x => cell_of_heap (x.heapH f3) 2
    have G2 : Hid (W.heap[w.heap.size + 1 + 1]? = some (.cells #[.slice po l.length pc, .int .i64 N] 64 (0, 0))) := f4
    have d2_0 : ∀ x : Aft W, x.val.cell? ⟨w.heap.size + 1 + 1, 0, none⟩ = some (.slice po l.length pc) := fun x => cell_of_heap (x.heapH f4) 0
    have d2_1 : ∀ x : Aft W, x.val.cell? ⟨w.heap.size + 1 + 1, 1, none⟩ = some (.int .i64 N) := fun x => cell_of_heap (x.heapH f4) 1
    rw [← hx0]
    clear hx0 f0 f1 f2 f3 f4
    refine (HL.out _).mono ?_
    rintro e w1 ⟨rfl, hb⟩
    obtain ⟨x1, rfl, lk0'⟩ := x0.step (hb)
    have lk0 := Lib.hid lk0'
    clear hb lk0'
    go_wp2_with fail
    refine (H2.out _ (Aft.off F0.out x1)).mono ?_
    rintro e w1 ⟨rfl, hb⟩
    obtain ⟨x2, rfl, lk1'⟩ := x1.step (hb)
    have lk1 := Lib.hid lk1'
    clear hb lk1'
    go_wp2_with fail
    refine (H3.out _ (Aft.off F0.out x2)).mono ?_
    rintro e w1 ⟨rfl, hb⟩
    obtain ⟨x3, rfl, lk2'⟩ := x2.step (hb)
    have lk2 := Lib.hid lk2'
    clear hb lk2'
    go_wp2_with fail
    refine (Sane_any _).mono ?_
    rintro e w1 ⟨rfl, hb⟩
    obtain ⟨x4, rfl, lk3'⟩ := x3.step (hb)
    have lk3 := Lib.hid lk3'
    clear hb lk3'
    go_wp2
    go_ret
    exact ⟨rfl, Aft.off F0.out x4⟩
  rw [fitsB_true hfit] at F3
  have F4 := fun W h => arePrices_any2 _ B po pc l W (HB.out W h) (HP.out W h) hval
  by_cases hpr : priceP B l
  case neg =>
    rw [priceB_false hpr] at F4
    have H2 := Lib.hid F2
    have H3 := Lib.hid F3
    have H4 := Lib.hid F4
    clear F2 F3 F4
    clear hval hB hfit hpr
    go_enter Try.func12, Try.ntmps12
    go_wp2_with fail
    generalize hW : (((w.alloc _).alloc _).alloc _) = W at *
    clear hW
    obtain ⟨f0, f1, f2, f3, f4⟩ := FF.out
    clear FF
    obtain ⟨x0, hx0⟩ : ∃ x : Aft W, x.val = W := ⟨⟨W, Below.refl _ W⟩, rfl⟩
    have F0 : Hid (Below w.heap.size w W) := f0
    have FZ : Hid (W.heap.size = w.heap.size + 3) := f1
    have FZ0 := Lib.hid (show x0.val.heap.size = w.heap.size + 3 by rw [hx0]; exact f1)
    have G0 : Hid (W.heap[w.heap.size]? = some (.cells #[.int .i64 B.W, .int .i64 B.H, .slice la B.Land.length lc, .slice sa B.Share.length sc] 25 (0, 0))) := f2
    have d0_0 : ∀ x : Aft W, x.val.cell? ⟨w.heap.size, 0, none⟩ = some (.int .i64 B.W) := fun x => cell_of_heap (x.heapH f2) 0
    have d0_1 : ∀ x : Aft W, x.val.cell? ⟨w.heap.size, 1, none⟩ = some (.int .i64 B.H) := fun x => cell_of_heap (x.heapH f2) 1
    have d0_2 : ∀ x : Aft W, x.val.cell? ⟨w.heap.size, 2, none⟩ = some (.slice la B.Land.length lc) := fun x => cell_of_heap (x.heapH f2) 2
    have d0_3 : ∀ x : Aft W, x.val.cell? ⟨w.heap.size, 3, none⟩ = some (.slice sa B.Share.length sc) := fun x => cell_of_heap (x.heapH f2) 3
    have G1 : Hid (W.heap[w.heap.size + 1]? = some (.cells #[.int .i64 s.K, .slice ao s.Oil.length c, .int .i64 s.Away] 28 (0, 0))) := f3
    have d1_0 : ∀ x : Aft W, x.val.cell? ⟨w.heap.size + 1, 0, none⟩ = some (.int .i64 s.K) := fun x => cell_of_heap (x.heapH f3) 0
    have d1_1 : ∀ x : Aft W, x.val.cell? ⟨w.heap.size + 1, 1, none⟩ = some (.slice ao s.Oil.length c) := fun x => cell_of_heap (x.heapH f3) 1
    have d1_2 : ∀ x : Aft W, x.val.cell? ⟨w.heap.size + 1, 2, none⟩ = some (.int .i64 s.Away) := fun x => cell_of_heap (x.heapH f3) 2
    have G2 : Hid (W.heap[w.heap.size + 1 + 1]? = some (.cells #[.slice po l.length pc, .int .i64 N] 64 (0, 0))) := f4
    have d2_0 : ∀ x : Aft W, x.val.cell? ⟨w.heap.size + 1 + 1, 0, none⟩ = some (.slice po l.length pc) := fun x => cell_of_heap (x.heapH f4) 0
    have d2_1 : ∀ x : Aft W, x.val.cell? ⟨w.heap.size + 1 + 1, 1, none⟩ = some (.int .i64 N) := fun x => cell_of_heap (x.heapH f4) 1
    rw [← hx0]
    clear hx0 f0 f1 f2 f3 f4
    refine (HL.out _).mono ?_
    rintro e w1 ⟨rfl, hb⟩
    obtain ⟨x1, rfl, lk0'⟩ := x0.step (hb)
    have lk0 := Lib.hid lk0'
    clear hb lk0'
    go_wp2_with fail
    refine (H2.out _ (Aft.off F0.out x1)).mono ?_
    rintro e w1 ⟨rfl, hb⟩
    obtain ⟨x2, rfl, lk1'⟩ := x1.step (hb)
    have lk1 := Lib.hid lk1'
    clear hb lk1'
    go_wp2_with fail
    refine (H3.out _ (Aft.off F0.out x2)).mono ?_
    rintro e w1 ⟨rfl, hb⟩
    obtain ⟨x3, rfl, lk2'⟩ := x2.step (hb)
    have lk2 := Lib.hid lk2'
    clear hb lk2'
    go_wp2_with fail
    refine (H4.out _ (Aft.off F0.out x3)).mono ?_
    rintro e w1 ⟨rfl, hb⟩
    obtain ⟨x4, rfl, lk3'⟩ := x3.step (hb)
    have lk3 := Lib.hid lk3'
    clear hb lk3'
    go_wp2_with fail
    refine (Sane_any _).mono ?_
    rintro e w1 ⟨rfl, hb⟩
    obtain ⟨x5, rfl, lk4'⟩ := x4.step (hb)
    have lk4 := Lib.hid lk4'
    clear hb lk4'
    go_wp2
    go_ret
    exact ⟨rfl, Aft.off F0.out x5⟩
  rw [priceB_true hpr] at F4
  have hK := hfit.1
  have HK := Lib.hid hK
  obtain ⟨i, hi', hKi⟩ := tmod_bd (u64_nn N) hK
  have hmod : wrap64 ((IntKind.u64.wrap N).tmod (5 - s.K + 1)) = (i : Int) := by rw [hi']; exact IntWalk.wrap64_in _ ⟨by omega, by omega⟩
  have HMOD := Lib.hid hmod
  have hlen : l.length = B.Share.length + 1 := by have := hpr.1; have := hval.2.2.2.1; omega
  have h36 : 1 ≤ B.Share.length ∧ B.Share.length ≤ 36 := by have := mul36 hval.1.1 hval.1.2 hval.2.1.1 hval.2.1.2; have := hval.2.2.2.1; omega
  have hls := fits_pre hval hfit
  have hsn : s.Oil.length < 1152921504606846976 := by omega
  have F5 := fun W h => After_any _ _ B s i W (HB.out W h) (⟨ao, c, rfl, HI.out W h, hsn⟩ : SlkAt W (.agg #[.int .i64 s.K, .slice ao s.Oil.length c, .int .i64 s.Away]) s) (by omega)
  rw [(aft_ok hval hfit hKi).1, (aft_ok hval hfit hKi).2] at F5
  have hSfit := mvN_fits hval hfit i hKi
  obtain ⟨ce, cv⟩ := costE_ok (l := l) (okE_ok hval hSfit) hpr
  obtain ⟨hadj, hpA, hpO⟩ := both_bd hval hfit hpr hKi hlen
  obtain ⟨be, bl⟩ := befE_0 (n := i) hval hpr (by omega)
  have F7 := fun W h => Before_any _ B po pc l i W (HB.out W h) (HP.out W h) (by omega) (by omega)
  rw [be, bl] at F7
  have F6 := fun W h a1 c1 (hI : IntsAt W a1 (mvN B s i).Oil) => Cost_any _ (.agg #[.int .i64 (mvN B s i).K, .slice a1 (mvN B s i).Oil.length c1, .int .i64 (mvN B s i).Away]) B (mvN B s i) po pc l W (HB.out W h) ⟨a1, c1, rfl, hI, by rw [mvN_len]; omega⟩ (HP.out W h) (by omega)
  rw [ce, cv, ← hadj] at F6
  have F8 := fun W h a2 c2 (hI : IntsAt W a2 (bN B l i)) => Priced_any ao a2 c c2 s (bN B l i) W (HI.out W h) hI (by rw [bN_len]; omega) (by omega) hpA hpO
  have hLl := bN_len B l i
  have hLl2 := bN_len B l (i + 1)
  simp only [hLl] at F8
  have F9 := fun W h => Before_any _ B po pc l (i + 1 : Nat) W (HB.out W h) (HP.out W h) (by omega) (by omega)
  have F10 := fun W h a2 c2 j (hj : j < B.Share.length) (hI : IntsAt W a2 (bN B l i)) => lshare_any _ B a2 c2 (bN B l i) j W (HB.out W h) hI hval (by rw [hLl]; exact hlen) hj (fun q => by have := bN_bd hval hlen (price_bd hpr) i q; have := pow80 (n := i) (by omega); omega)
  simp only [hLl] at F10
  have HLAST := Lib.hid (bN_last hlen i)
  have HCELL := Lib.hid (fun j hj => bN_cell hlen i (j := j) hj)
  have HB5 := Lib.hid (fun q => show 0 ≤ (bN B l i).getD q 0 ∧ (bN B l i).getD q 0 ≤ 3276800000000 by have := bN_bd hval hlen (price_bd hpr) i q; have := pow80 (n := i) (by omega); omega)
  have HBE := Lib.hid (fun (h : i + 1 ≤ 5) => befE_0 (n := i + 1) hval hpr h)
  have hbI : 1 ≤ i ∨ i = 0 := by omega
  clear hadj hpA hpO ce cv be bl
  generalize hSS : mvN B s i = S at *
  generalize hLL : bN B l i = L at *
  generalize costZ s L = CZ at *
  clear hSS hLL
  have H2 := Lib.hid F2
  have H3 := Lib.hid F3
  have H4 := Lib.hid F4
  have H5 := Lib.hid F5
  have H6 := Lib.hid F6
  have H7 := Lib.hid F7
  have H8 := Lib.hid F8
  have H9 := Lib.hid F9
  have H10 := Lib.hid F10
  have HVAL := Lib.hid hval
  have HFIT := Lib.hid hfit
  have HPR := Lib.hid hpr
  have HB0 := Lib.hid hB
  have HLS := Lib.hid hls
  have HLEN := Lib.hid hlen
  have HLL := Lib.hid hLl
  have HLL2 := Lib.hid hLl2
  have HSFIT := Lib.hid hSfit
  clear F2 F3 F4 F5 F6 F7 F8 F9 F10 hval hfit hpr hB hls hlen hLl hLl2 hSfit
  clear hi' hmod
  go_enter Try.func12, Try.ntmps12
  go_wp2_with fail
  generalize hW : (((w.alloc _).alloc _).alloc _) = W at *
  clear hW
  obtain ⟨f0, f1, f2, f3, f4⟩ := FF.out
  clear FF
  obtain ⟨x0, hx0⟩ : ∃ x : Aft W, x.val = W := ⟨⟨W, Below.refl _ W⟩, rfl⟩
  have F0 : Hid (Below w.heap.size w W) := f0
  have FZ : Hid (W.heap.size = w.heap.size + 3) := f1
  have FZ0 := Lib.hid (show x0.val.heap.size = w.heap.size + 3 by rw [hx0]; exact f1)
  have G0 : Hid (W.heap[w.heap.size]? = some (.cells #[.int .i64 B.W, .int .i64 B.H, .slice la B.Land.length lc, .slice sa B.Share.length sc] 25 (0, 0))) := f2
  have d0_0 : ∀ x : Aft W, x.val.cell? ⟨w.heap.size, 0, none⟩ = some (.int .i64 B.W) := fun x => cell_of_heap (x.heapH f2) 0
  have d0_1 : ∀ x : Aft W, x.val.cell? ⟨w.heap.size, 1, none⟩ = some (.int .i64 B.H) := fun x => cell_of_heap (x.heapH f2) 1
  have d0_2 : ∀ x : Aft W, x.val.cell? ⟨w.heap.size, 2, none⟩ = some (.slice la B.Land.length lc) := fun x => cell_of_heap (x.heapH f2) 2
  have d0_3 : ∀ x : Aft W, x.val.cell? ⟨w.heap.size, 3, none⟩ = some (.slice sa B.Share.length sc) := fun x => cell_of_heap (x.heapH f2) 3
  have e0_0 : ∀ (x : Aft W) (o : Obj), (x.val.alloc o).cell? ⟨w.heap.size, 0, none⟩ = some (.int .i64 B.W) := fun x o => cell_of_heap (heap_alloc_old (x.heapH f2) o) 0
  have e0_1 : ∀ (x : Aft W) (o : Obj), (x.val.alloc o).cell? ⟨w.heap.size, 1, none⟩ = some (.int .i64 B.H) := fun x o => cell_of_heap (heap_alloc_old (x.heapH f2) o) 1
  have e0_2 : ∀ (x : Aft W) (o : Obj), (x.val.alloc o).cell? ⟨w.heap.size, 2, none⟩ = some (.slice la B.Land.length lc) := fun x o => cell_of_heap (heap_alloc_old (x.heapH f2) o) 2
  have e0_3 : ∀ (x : Aft W) (o : Obj), (x.val.alloc o).cell? ⟨w.heap.size, 3, none⟩ = some (.slice sa B.Share.length sc) := fun x o => cell_of_heap (heap_alloc_old (x.heapH f2) o) 3
  have G1 : Hid (W.heap[w.heap.size + 1]? = some (.cells #[.int .i64 s.K, .slice ao s.Oil.length c, .int .i64 s.Away] 28 (0, 0))) := f3
  have d1_0 : ∀ x : Aft W, x.val.cell? ⟨w.heap.size + 1, 0, none⟩ = some (.int .i64 s.K) := fun x => cell_of_heap (x.heapH f3) 0
  have d1_1 : ∀ x : Aft W, x.val.cell? ⟨w.heap.size + 1, 1, none⟩ = some (.slice ao s.Oil.length c) := fun x => cell_of_heap (x.heapH f3) 1
  have d1_2 : ∀ x : Aft W, x.val.cell? ⟨w.heap.size + 1, 2, none⟩ = some (.int .i64 s.Away) := fun x => cell_of_heap (x.heapH f3) 2
  have e1_0 : ∀ (x : Aft W) (o : Obj), (x.val.alloc o).cell? ⟨w.heap.size + 1, 0, none⟩ = some (.int .i64 s.K) := fun x o => cell_of_heap (heap_alloc_old (x.heapH f3) o) 0
  have e1_1 : ∀ (x : Aft W) (o : Obj), (x.val.alloc o).cell? ⟨w.heap.size + 1, 1, none⟩ = some (.slice ao s.Oil.length c) := fun x o => cell_of_heap (heap_alloc_old (x.heapH f3) o) 1
  have e1_2 : ∀ (x : Aft W) (o : Obj), (x.val.alloc o).cell? ⟨w.heap.size + 1, 2, none⟩ = some (.int .i64 s.Away) := fun x o => cell_of_heap (heap_alloc_old (x.heapH f3) o) 2
  have G2 : Hid (W.heap[w.heap.size + 1 + 1]? = some (.cells #[.slice po l.length pc, .int .i64 N] 64 (0, 0))) := f4
  have d2_0 : ∀ x : Aft W, x.val.cell? ⟨w.heap.size + 1 + 1, 0, none⟩ = some (.slice po l.length pc) := fun x => cell_of_heap (x.heapH f4) 0
  have d2_1 : ∀ x : Aft W, x.val.cell? ⟨w.heap.size + 1 + 1, 1, none⟩ = some (.int .i64 N) := fun x => cell_of_heap (x.heapH f4) 1
  have e2_0 : ∀ (x : Aft W) (o : Obj), (x.val.alloc o).cell? ⟨w.heap.size + 1 + 1, 0, none⟩ = some (.slice po l.length pc) := fun x o => cell_of_heap (heap_alloc_old (x.heapH f4) o) 0
  have e2_1 : ∀ (x : Aft W) (o : Obj), (x.val.alloc o).cell? ⟨w.heap.size + 1 + 1, 1, none⟩ = some (.int .i64 N) := fun x o => cell_of_heap (heap_alloc_old (x.heapH f4) o) 1
  rw [← hx0]
  clear hx0 f0 f1 f2 f3 f4
  refine (HL.out _).mono ?_
  rintro e w1 ⟨rfl, hb⟩
  obtain ⟨x1, rfl, lk0'⟩ := x0.step (hb)
  have lk0 := Lib.hid lk0'
  clear hb lk0'
  go_wp2_with fail
  refine (H2.out _ (Aft.off F0.out x1)).mono ?_
  rintro e w1 ⟨rfl, hb⟩
  obtain ⟨x2, rfl, lk1'⟩ := x1.step (hb)
  have lk1 := Lib.hid lk1'
  clear hb lk1'
  go_wp2_with fail
  refine (H3.out _ (Aft.off F0.out x2)).mono ?_
  rintro e w1 ⟨rfl, hb⟩
  obtain ⟨x3, rfl, lk2'⟩ := x2.step (hb)
  have lk2 := Lib.hid lk2'
  clear hb lk2'
  go_wp2_with fail
  refine (H4.out _ (Aft.off F0.out x3)).mono ?_
  rintro e w1 ⟨rfl, hb⟩
  obtain ⟨x4, rfl, lk3'⟩ := x3.step (hb)
  have lk3 := Lib.hid lk3'
  clear hb lk3'
  go_wp2_with fail
  rw [HMOD.out]
  refine (H5.out _ (Aft.off F0.out x4)).mono ?_
  rintro e w1 ⟨rv, rfl, ⟨a1, c1, rfl, hi1, hn1, hf1⟩, hb⟩
  obtain ⟨x5, rfl, lk4'⟩ := x4.step (hb)
  have lk4 := Lib.hid lk4'
  clear hb lk4'
  have I1 := Lib.hid hi1
  clear hi1 hf1
  have hbx := Lib.hid (World.alloc_heap_new x5.val (.cells #[.int .i64 S.K, .slice a1 S.Oil.length c1, .int .i64 S.Away] 28))
  go_wp2_with fail
  have hb := (Below.refl x5.val.heap.size x5.val).alloc (Nat.le_refl _) (.cells #[.int .i64 S.K, .slice a1 S.Oil.length c1, .int .i64 S.Away] 28)
  have hg := World.alloc_heap_new x5.val (.cells #[.int .i64 S.K, .slice a1 S.Oil.length c1, .int .i64 S.Away] 28)
  generalize x5.val.alloc (.cells #[.int .i64 S.K, .slice a1 S.Oil.length c1, .int .i64 S.Away] 28) = WB at *
  obtain ⟨x6, rfl, lk5'⟩ := x5.step hb
  have lk5 := Lib.hid lk5'
  have X1 := Lib.hid hg
  clear hb hg lk5'
  refine (H6.out _ (Aft.off F0.out x6) a1 c1 (I1.out.below (Nat.le_refl _) (lk5.out))).mono ?_
  rintro e w1 ⟨rfl, hb⟩
  obtain ⟨x7, rfl, lk6'⟩ := x6.step (hb)
  have lk6 := Lib.hid lk6'
  clear hb lk6'
  go_wp2_with fail
  refine (H7.out _ (Aft.off F0.out x7)).mono ?_
  rintro e w1 ⟨a2, c2, rfl, hi2, hf2, hb⟩
  obtain ⟨x8, rfl, lk7'⟩ := x7.step (hb)
  have lk7 := Lib.hid lk7'
  clear hb lk7'
  rw [HLL.out]
  have I2 := Lib.hid hi2
  clear hi2 hf2
  go_wp2_with fail
  refine (H8.out _ (Aft.off F0.out x8) a2 c2 I2.out).mono ?_
  rintro e w1 ⟨rfl, hb⟩
  obtain ⟨x9, rfl, lk8'⟩ := x8.step (hb)
  have lk8 := Lib.hid lk8'
  clear hb lk8'
  by_cases hi5 : i = 5
  · have hb5 : ((i : Int) == 5) = true := by simp [hi5]
    clear hi5 hbI
    go_wp2_with fail
    refine (Sane_any _).mono ?_
    rintro e w1 ⟨rfl, hb⟩
    obtain ⟨x10, rfl, lk9'⟩ := x9.step (hb)
    have lk9 := Lib.hid lk9'
    clear hb lk9'
    go_wp2
    go_ret
    exact ⟨rfl, Aft.off F0.out x10⟩
  have hb5 : ((i : Int) == 5) = false := by simp; omega
  have hc9 := H9.out _ (Aft.off F0.out x9)
  rw [(HBE.out (by omega)).1, (HBE.out (by omega)).2] at hc9
  rw [show (((i + 1 : Nat)) : Int) = (i : Int) + 1 from rfl] at hc9
  generalize hM : bN B l (i + 1) = M at *
  have HC9 := Lib.hid hc9
  clear hc9 hM
  go_wp2_with fail
  refine (HC9.out).mono ?_
  rintro e w1 ⟨a3, c3, rfl, hi3, hf3, hb⟩
  obtain ⟨x10, rfl, lk9'⟩ := x9.step (hb)
  have lk9 := Lib.hid lk9'
  clear hb lk9'
  rw [HLL2.out]
  obtain ⟨b2, o2, rfl, hb2', hc2'⟩ := I2.out.get (k := 0) (by have := HLL.out; have := HLEN.out; omega)
  obtain ⟨b3, o3, rfl, hb3', hc3'⟩ := hi3.get (k := 0) (by have := HLL2.out; have := HLEN.out; omega)
  have I3 := Lib.hid hi3
  have C2 : Hid (∀ W', Below x8.val.heap.size x8.val W' → ∀ k, k < l.length → W'.cell? ⟨b2, o2 + k, none⟩ = some (.int .i64 (L.getD k 0))) := fun W' h k hk => by
    obtain ⟨b', o', e, _, hc⟩ := (I2.out.below (Nat.le_refl _) h).get (k := k) (by rw [HLL.out]; exact hk); cases e; exact hc
  have C3 : Hid (∀ W', Below x10.val.heap.size x10.val W' → ∀ k, k < l.length → W'.cell? ⟨b3, o3 + k, none⟩ = some (.int .i64 (M.getD k 0))) := fun W' h k hk => by
    obtain ⟨b', o', e, _, hc⟩ := (I3.out.below (Nat.le_refl _) h).get (k := k) (by rw [HLL2.out]; exact hk); cases e; exact hc
  clear hb2' hc2' hb3' hc3' hi3 hf3
  obtain ⟨V, hV⟩ : ∃ V, V = x10.val := ⟨_, rfl⟩
  have F1 : Hid (Below w.heap.size w V) := by rw [hV]; exact Aft.off F0.out x10
  have hg0 : V.heap[w.heap.size]? = some (.cells #[.int .i64 B.W, .int .i64 B.H, .slice la B.Land.length lc, .slice sa B.Share.length sc] 25 (0, 0)) := by rw [hV]; exact x10.heapH G0.out
  have hg1 : V.heap[w.heap.size + 1]? = some (.cells #[.int .i64 s.K, .slice ao s.Oil.length c, .int .i64 s.Away] 28 (0, 0)) := by rw [hV]; exact x10.heapH G1.out
  have D2 : Hid (∀ x : Aft V, ∀ k, k < l.length → x.val.cell? ⟨b2, o2 + k, none⟩ = some (.int .i64 (L.getD k 0))) := fun x k hk => C2.out _ (Below.link (Below.link lk8.out lk9.out) (by rw [← hV]; exact x.bel)) k hk
  have D3 : Hid (∀ x : Aft V, ∀ k, k < l.length → x.val.cell? ⟨b3, o3 + k, none⟩ = some (.int .i64 (M.getD k 0))) := fun x k hk => C3.out _ (by rw [← hV]; exact x.bel) k hk
  have J2 : Hid (∀ x : Aft V, IntsAt x.val (some ⟨b2, o2, none⟩) L) := fun x => I2.out.below (Nat.le_refl _) (Below.link (Below.link lk8.out lk9.out) (by rw [← hV]; exact x.bel))
  have b0 : ∀ x : Aft V, x.val.cell? ⟨w.heap.size, 0, none⟩ = some (.int .i64 B.W) := fun x => cell_of_heap (x.heapH hg0) 0
  have b1 : ∀ x : Aft V, x.val.cell? ⟨w.heap.size, 1, none⟩ = some (.int .i64 B.H) := fun x => cell_of_heap (x.heapH hg0) 1
  have b2_ : ∀ x : Aft V, x.val.cell? ⟨w.heap.size, 2, none⟩ = some (.slice la B.Land.length lc) := fun x => cell_of_heap (x.heapH hg0) 2
  have b3_ : ∀ x : Aft V, x.val.cell? ⟨w.heap.size, 3, none⟩ = some (.slice sa B.Share.length sc) := fun x => cell_of_heap (x.heapH hg0) 3
  have b4_ : ∀ x : Aft V, x.val.cell? ⟨w.heap.size + 1, 1, none⟩ = some (.slice ao s.Oil.length c) := fun x => cell_of_heap (x.heapH hg1) 1
  rw [← hV]
  obtain ⟨y0, hy0⟩ : ∃ y : Aft V, y.val = V := ⟨⟨V, Below.refl _ V⟩, rfl⟩
  rw [← hy0]
  clear hV hy0 hg0 hg1 C2 C3 I2 I3 d0_0 d0_1 d0_2 d0_3 d1_0 d1_1 d1_2 d2_0 d2_1 e0_0 e0_1 e0_2 e0_3 e1_0 e1_1 e1_2 e2_0 e2_1 H2 H3 H4 H5 H6 H7 H8 H9 lk0 lk1 lk2 lk3 lk4 lk5 lk6 lk7 lk8 lk9 X1 hbx HC9 I1
  have hNl : (s.Oil.length : Int) < l.length := by have := HLS.out; have := HLEN.out; omega
  have k2 : ∀ x : Aft V, x.val.cell? ⟨b2, o2 + s.Oil.length, none⟩ = some (.int .i64 (L.getD s.Oil.length 0)) := fun x => D2.out x _ (by omega)
  have k3 : ∀ x : Aft V, x.val.cell? ⟨b3, o3 + s.Oil.length, none⟩ = some (.int .i64 (M.getD s.Oil.length 0)) := fun x => D3.out x _ (by omega)
  have hlast : M.getD s.Oil.length 0 = 16 * L.getD s.Oil.length 0 := by rw [HLS.out]; exact HLAST.out
  rw [hlast] at k3
  have hbl := HB5.out s.Oil.length
  clear hlast
  generalize L.getD s.Oil.length 0 = pl at k2 k3 hbl
  have hw : IntKind.i64.wrap (16 * pl) = 16 * pl := IntWalk.i64_in _ (by omega)
  have HW := Lib.hid hw
  clear hw
  go_wp2_with fail
  refine wp_region_aftW y0 (by kernel_rfl) (by kernel_rfl) ?_
  repeat (go_big_quiet_step (fail))
  refine wpQuiet_nil ?_
  rintro _ ⟨y1, rfl⟩
  try rw [HW.out]
  clear k2 k3
  go_wp2_with fail
  go_loopw [16] (fun i wr => ∃ (k : Nat) (x : Aft V), wr = x.val ∧ k ≤ s.Oil.length ∧ i = .int .i64 k) (fun i _ => s.Oil.length - (intOf i).toNat)
  case atStart => exact ⟨0, y1, rfl, Nat.zero_le _, rfl⟩
  case round =>
    obtain ⟨k, x3, rfl, hk, rfl⟩ := hrel
    by_cases hlt : k < s.Oil.length
    · have hks : k < B.Share.length := by have := HLS.out; omega
      have hkl : (k : Int) < l.length := by omega
      have hLS : B.Land.length = B.Share.length := by have := HVAL.out.2.2.1; have := HVAL.out.2.2.2.1; omega
      have hkL : (k : Int) < B.Land.length := by omega
      obtain ⟨bd, od, rfl, hbd, hcd⟩ := (HLD.out _ (Aft.off F1.out x3)).get (k := k) (by omega)
      clear hLS
      have kk2 : ∀ x : Aft V, x.val.cell? ⟨b2, o2 + k, none⟩ = some (.int .i64 (L.getD k 0)) := fun x => D2.out x k (by omega)
      have kk3 : ∀ x : Aft V, x.val.cell? ⟨b3, o3 + k, none⟩ = some (.int .i64 (M.getD k 0)) := fun x => D3.out x k (by omega)
      rw [HCELL.out k hks] at kk3
      have hbp := HB5.out k
      cases hland : B.Land.getD k false
      · rw [hland] at hcd
        rw [fsum_share HVAL.out hks hland] at kk3
        have hc := H10.out x3.val (Aft.off F1.out x3) _ c2 k hks (J2.out x3)
        have HC := Lib.hid hc
        clear hc
        clear hland
        generalize shUp B L k 5 = sh at *
        generalize L.getD k 0 = p at *
        go_wp2_with fail
        refine HC.out.mono ?_
        rintro e w1 ⟨rfl, hb⟩
        obtain ⟨x4, rfl, lk⟩ := x3.step hb
        clear hb lk HC
        go_wp2
        go_roundw
        case rel => exact ⟨k + 1, x4, rfl, by omega, by go_num⟩
        case measure => simp [intOf]; omega
      · rw [hland] at hcd
        rw [fsum_land (by omega) hland] at kk3
        clear hland
        generalize L.getD k 0 = p at *
        go_wp2
        go_roundw
        case rel => exact ⟨k + 1, x3, rfl, by omega, by go_num⟩
        case measure => simp [intOf]; omega
    · obtain rfl : k = s.Oil.length := by omega
      go_wp2_with fail
      refine (Sane_any _).mono ?_
      rintro e w1 ⟨rfl, hb⟩
      obtain ⟨x4, rfl, lk⟩ := x3.step hb
      clear hb lk
      go_wp2
      go_ret
      exact ⟨rfl, Aft.off F1.out x4⟩
end Go.Proofs.Ytnafllhgjidbkaa
