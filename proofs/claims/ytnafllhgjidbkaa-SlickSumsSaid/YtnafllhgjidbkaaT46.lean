/- The reference's Same. -/
import Derived.Test.YtnafllhgjidbkaaT45
namespace Go.Proofs.Ytnafllhgjidbkaa
open Go.RowKit Go.Shelf
set_option linter.unusedVariables false
set_option linter.unusedSimpArgs false
def samP (s t : Slk) : Prop := rngP s ∧ rngP t ∧ eqfP s.Oil t.Oil (16 ^ t.K.toNat) (16 ^ s.K.toNat) ∧ prB s.Away t.Away (16 ^ t.K.toNat) (16 ^ s.K.toNat) = true
open Classical in
noncomputable def samB (s t : Slk) : Bool := decide (samP s t)
theorem samB_true {s t : Slk} (h : samP s t) : samB s t = true := by simp [samB, h]
theorem samB_false {s t : Slk} (h : ¬ samP s t) : samB s t = false := by simp [samB, h]
theorem sixteen_int (K : Int) (w : World) (h0 : 0 ≤ K) (h5 : K ≤ 5) : Calls Try.prog 32 #[.int .i64 K] w fun e w' => e = .returned (.int .i64 (16 ^ K.toNat)) ∧ w = w' := by
  obtain ⟨n, rfl⟩ : ∃ n : Nat, K = n := ⟨K.toNat, by omega⟩
  rw [Int.toNat_natCast]
  exact sixteen_any n w (by omega)
theorem rng_bd {s : Slk} (h : rngP s) : (∀ k, k < s.Oil.length → 0 ≤ s.Oil.getD k 0 ∧ s.Oil.getD k 0 ≤ 37748736000) ∧ 0 ≤ s.Away ∧ s.Away ≤ 37748736000 := by
  have hl : lim s.K ≤ 37748736000 := by have := (pow_bd s.K h.1.1 h.1.2).2; unfold lim; omega
  exact ⟨fun k hk => by have := amt_range h.2.1 k hk; omega, h.2.2.1, by have := h.2.2.2; omega⟩

set_option maxRecDepth 100000 in
set_option maxHeartbeats 4000000 in
theorem rSame_any (sv tv : Value) (s t : Slk) (w : World) (hs : SlkAt w sv s) (ht : SlkAt w tv t) :
    Calls Try.prog 43 #[sv, tv] w fun e w' => e = .returned (.bool (samB s t)) ∧ Below w.heap.size w w' := by
  have HS := Lib.hid (fun W (h : Below w.heap.size w W) => hs.below (Nat.le_refl _) h)
  have HT := Lib.hid (fun W (h : Below w.heap.size w W) => ht.below (Nat.le_refl _) h)
  obtain ⟨ao, c, rfl, hi, hn⟩ := hs
  obtain ⟨bo, d, rfl, hj, hm⟩ := ht
  have HI := Lib.hid (fun W (h : Below w.heap.size w W) => hi.below (Nat.le_refl _) h)
  have HJ := Lib.hid (fun W (h : Below w.heap.size w W) => hj.below (Nat.le_refl _) h)
  clear hi hj
  have F1 := fun W h => inRange_any _ s W (HS.out W h)
  have F2 := fun W h => inRange_any _ t W (HT.out W h)
  have FF := Lib.hid (two_new (w := w) #[.int .i64 s.K, .slice ao s.Oil.length c, .int .i64 s.Away] #[.int .i64 t.K, .slice bo t.Oil.length d, .int .i64 t.Away] 28 28)
  by_cases hlen : s.Oil.length = t.Oil.length
  case neg =>
    have hb : ((s.Oil.length : Int) != t.Oil.length) = true := by simp; omega
    have HR := Lib.hid (samB_false (s := s) (t := t) (fun h => hlen h.2.2.1.1))
    clear hlen F1 F2
    go_enter Try.func43, Try.ntmps43
    go_wp2_with fail
    generalize hW : ((w.alloc _).alloc _) = W at *
    clear hW
    obtain ⟨f0, f1, f2, f3⟩ := FF.out
    clear FF
    obtain ⟨x0, hx0⟩ : ∃ x : Aft W, x.val = W := ⟨⟨W, Below.refl _ W⟩, rfl⟩
    have F0 : Hid (Below w.heap.size w W) := f0
    have FZ : Hid (W.heap.size = w.heap.size + 2) := f1
    have FZ0 := Lib.hid (show x0.val.heap.size = w.heap.size + 2 by rw [hx0]; exact f1)
    have G0 : Hid (W.heap[w.heap.size]? = some (.cells #[.int .i64 s.K, .slice ao s.Oil.length c, .int .i64 s.Away] 28 (0, 0))) := f2
    have d0_0 : ∀ x : Aft W, x.val.cell? ⟨w.heap.size, 0, none⟩ = some (.int .i64 s.K) := fun x => cell_of_heap (x.heapH f2) 0
    have d0_1 : ∀ x : Aft W, x.val.cell? ⟨w.heap.size, 1, none⟩ = some (.slice ao s.Oil.length c) := fun x => cell_of_heap (x.heapH f2) 1
    have d0_2 : ∀ x : Aft W, x.val.cell? ⟨w.heap.size, 2, none⟩ = some (.int .i64 s.Away) := fun x => cell_of_heap (x.heapH f2) 2
    have G1 : Hid (W.heap[w.heap.size + 1]? = some (.cells #[.int .i64 t.K, .slice bo t.Oil.length d, .int .i64 t.Away] 28 (0, 0))) := f3
    have d1_0 : ∀ x : Aft W, x.val.cell? ⟨w.heap.size + 1, 0, none⟩ = some (.int .i64 t.K) := fun x => cell_of_heap (x.heapH f3) 0
    have d1_1 : ∀ x : Aft W, x.val.cell? ⟨w.heap.size + 1, 1, none⟩ = some (.slice bo t.Oil.length d) := fun x => cell_of_heap (x.heapH f3) 1
    have d1_2 : ∀ x : Aft W, x.val.cell? ⟨w.heap.size + 1, 2, none⟩ = some (.int .i64 t.Away) := fun x => cell_of_heap (x.heapH f3) 2
    rw [← hx0]
    clear hx0 f0 f1 f2 f3
    go_wp2
    go_ret
    exact ⟨ret_bool HR.out.symm, Aft.off F0.out x0⟩
  have hb : ((s.Oil.length : Int) != t.Oil.length) = false := by simp [hlen]
  by_cases hrs : rngP s
  case neg =>
    have HR := Lib.hid (samB_false (s := s) (t := t) (fun h => hrs h.1))
    rw [rngB_false hrs] at F1
    have H1 := Lib.hid F1
    have HLEN := Lib.hid hlen
    clear F1 hlen
    clear hrs F2
    go_enter Try.func43, Try.ntmps43
    go_wp2_with fail
    generalize hW : ((w.alloc _).alloc _) = W at *
    clear hW
    obtain ⟨f0, f1, f2, f3⟩ := FF.out
    clear FF
    obtain ⟨x0, hx0⟩ : ∃ x : Aft W, x.val = W := ⟨⟨W, Below.refl _ W⟩, rfl⟩
    have F0 : Hid (Below w.heap.size w W) := f0
    have FZ : Hid (W.heap.size = w.heap.size + 2) := f1
    have FZ0 := Lib.hid (show x0.val.heap.size = w.heap.size + 2 by rw [hx0]; exact f1)
    have G0 : Hid (W.heap[w.heap.size]? = some (.cells #[.int .i64 s.K, .slice ao s.Oil.length c, .int .i64 s.Away] 28 (0, 0))) := f2
    have d0_0 : ∀ x : Aft W, x.val.cell? ⟨w.heap.size, 0, none⟩ = some (.int .i64 s.K) := fun x => cell_of_heap (x.heapH f2) 0
    have d0_1 : ∀ x : Aft W, x.val.cell? ⟨w.heap.size, 1, none⟩ = some (.slice ao s.Oil.length c) := fun x => cell_of_heap (x.heapH f2) 1
    have d0_2 : ∀ x : Aft W, x.val.cell? ⟨w.heap.size, 2, none⟩ = some (.int .i64 s.Away) := fun x => cell_of_heap (x.heapH f2) 2
    have G1 : Hid (W.heap[w.heap.size + 1]? = some (.cells #[.int .i64 t.K, .slice bo t.Oil.length d, .int .i64 t.Away] 28 (0, 0))) := f3
    have d1_0 : ∀ x : Aft W, x.val.cell? ⟨w.heap.size + 1, 0, none⟩ = some (.int .i64 t.K) := fun x => cell_of_heap (x.heapH f3) 0
    have d1_1 : ∀ x : Aft W, x.val.cell? ⟨w.heap.size + 1, 1, none⟩ = some (.slice bo t.Oil.length d) := fun x => cell_of_heap (x.heapH f3) 1
    have d1_2 : ∀ x : Aft W, x.val.cell? ⟨w.heap.size + 1, 2, none⟩ = some (.int .i64 t.Away) := fun x => cell_of_heap (x.heapH f3) 2
    rw [← hx0]
    clear hx0 f0 f1 f2 f3
    refine (H1.out _ (Aft.off F0.out x0)).mono ?_
    rintro e w1 ⟨rfl, hb⟩
    obtain ⟨x1, rfl, lk0'⟩ := x0.step (hb)
    have lk0 := Lib.hid lk0'
    clear hb lk0'
    go_wp2
    go_ret
    exact ⟨ret_bool HR.out.symm, Aft.off F0.out x1⟩
  rw [rngB_true hrs] at F1
  by_cases hrt : rngP t
  case neg =>
    have HR := Lib.hid (samB_false (s := s) (t := t) (fun h => hrt h.2.1))
    rw [rngB_false hrt] at F2
    have H1 := Lib.hid F1
    have H2 := Lib.hid F2
    have HLEN := Lib.hid hlen
    clear F1 F2 hlen
    clear hrs hrt
    go_enter Try.func43, Try.ntmps43
    go_wp2_with fail
    generalize hW : ((w.alloc _).alloc _) = W at *
    clear hW
    obtain ⟨f0, f1, f2, f3⟩ := FF.out
    clear FF
    obtain ⟨x0, hx0⟩ : ∃ x : Aft W, x.val = W := ⟨⟨W, Below.refl _ W⟩, rfl⟩
    have F0 : Hid (Below w.heap.size w W) := f0
    have FZ : Hid (W.heap.size = w.heap.size + 2) := f1
    have FZ0 := Lib.hid (show x0.val.heap.size = w.heap.size + 2 by rw [hx0]; exact f1)
    have G0 : Hid (W.heap[w.heap.size]? = some (.cells #[.int .i64 s.K, .slice ao s.Oil.length c, .int .i64 s.Away] 28 (0, 0))) := f2
    have d0_0 : ∀ x : Aft W, x.val.cell? ⟨w.heap.size, 0, none⟩ = some (.int .i64 s.K) := fun x => cell_of_heap (x.heapH f2) 0
    have d0_1 : ∀ x : Aft W, x.val.cell? ⟨w.heap.size, 1, none⟩ = some (.slice ao s.Oil.length c) := fun x => cell_of_heap (x.heapH f2) 1
    have d0_2 : ∀ x : Aft W, x.val.cell? ⟨w.heap.size, 2, none⟩ = some (.int .i64 s.Away) := fun x => cell_of_heap (x.heapH f2) 2
    have G1 : Hid (W.heap[w.heap.size + 1]? = some (.cells #[.int .i64 t.K, .slice bo t.Oil.length d, .int .i64 t.Away] 28 (0, 0))) := f3
    have d1_0 : ∀ x : Aft W, x.val.cell? ⟨w.heap.size + 1, 0, none⟩ = some (.int .i64 t.K) := fun x => cell_of_heap (x.heapH f3) 0
    have d1_1 : ∀ x : Aft W, x.val.cell? ⟨w.heap.size + 1, 1, none⟩ = some (.slice bo t.Oil.length d) := fun x => cell_of_heap (x.heapH f3) 1
    have d1_2 : ∀ x : Aft W, x.val.cell? ⟨w.heap.size + 1, 2, none⟩ = some (.int .i64 t.Away) := fun x => cell_of_heap (x.heapH f3) 2
    rw [← hx0]
    clear hx0 f0 f1 f2 f3
    refine (H1.out _ (Aft.off F0.out x0)).mono ?_
    rintro e w1 ⟨rfl, hb⟩
    obtain ⟨x1, rfl, lk0'⟩ := x0.step (hb)
    have lk0 := Lib.hid lk0'
    clear hb lk0'
    go_wp2_with fail
    refine (H2.out _ (Aft.off F0.out x1)).mono ?_
    rintro e w1 ⟨rfl, hb⟩
    obtain ⟨x2, rfl, lk1'⟩ := x1.step (hb)
    have lk1 := Lib.hid lk1'
    clear hb lk1'
    go_wp2
    go_ret
    exact ⟨ret_bool HR.out.symm, Aft.off F0.out x2⟩
  rw [rngB_true hrt] at F2
  obtain ⟨bs, bsa⟩ := rng_bd hrs
  obtain ⟨bt, bta⟩ := rng_bd hrt
  have hK := hrs.1
  have hJ := hrt.1
  obtain ⟨p1, p2⟩ := pow_bd t.K hJ.1 hJ.2
  obtain ⟨q1, q2⟩ := pow_bd s.K hK.1 hK.2
  have hpK := fun W => sixteen_int t.K W hJ.1 hJ.2
  have hpJ := fun W => sixteen_int s.K W hK.1 hK.2
  have HSAM : Hid (∀ b1 b2 : Bool, (b1 = true ↔ ∀ k, k < s.Oil.length → prB (s.Oil.getD k 0) (t.Oil.getD k 0) (16 ^ t.K.toNat) (16 ^ s.K.toNat) = true) → b2 = prB s.Away t.Away (16 ^ t.K.toNat) (16 ^ s.K.toNat) → samB s t = (b1 && b2)) := by
    intro b1 b2 h1 h2
    cases b1
    · rw [samB_false (fun h => by have := h1.2 h.2.2.1.2; cases this)]; rfl
    · cases b2
      · rw [samB_false (fun h => by have := h.2.2.2; rw [← h2] at this; cases this)]; rfl
      · rw [samB_true ⟨hrs, hrt, ⟨hlen, h1.1 rfl⟩, h2.symm⟩]; rfl
  have H1 := Lib.hid F1
  have H2 := Lib.hid F2
  have HLEN := Lib.hid hlen
  have HBS := Lib.hid bs
  have HBT := Lib.hid bt
  have HPK := Lib.hid hpK
  have HPJ := Lib.hid hpJ
  clear F1 F2 hlen bs bt hpK hpJ
  clear hrs hrt
  generalize (16 : Int) ^ t.K.toNat = p at *
  generalize (16 : Int) ^ s.K.toNat = q at *
  go_enter Try.func43, Try.ntmps43
  go_wp2_with fail
  generalize hW : ((w.alloc _).alloc _) = W at *
  clear hW
  obtain ⟨f0, f1, f2, f3⟩ := FF.out
  clear FF
  obtain ⟨x0, hx0⟩ : ∃ x : Aft W, x.val = W := ⟨⟨W, Below.refl _ W⟩, rfl⟩
  have F0 : Hid (Below w.heap.size w W) := f0
  have FZ : Hid (W.heap.size = w.heap.size + 2) := f1
  have FZ0 := Lib.hid (show x0.val.heap.size = w.heap.size + 2 by rw [hx0]; exact f1)
  have G0 : Hid (W.heap[w.heap.size]? = some (.cells #[.int .i64 s.K, .slice ao s.Oil.length c, .int .i64 s.Away] 28 (0, 0))) := f2
  have d0_0 : ∀ x : Aft W, x.val.cell? ⟨w.heap.size, 0, none⟩ = some (.int .i64 s.K) := fun x => cell_of_heap (x.heapH f2) 0
  have d0_1 : ∀ x : Aft W, x.val.cell? ⟨w.heap.size, 1, none⟩ = some (.slice ao s.Oil.length c) := fun x => cell_of_heap (x.heapH f2) 1
  have d0_2 : ∀ x : Aft W, x.val.cell? ⟨w.heap.size, 2, none⟩ = some (.int .i64 s.Away) := fun x => cell_of_heap (x.heapH f2) 2
  have G1 : Hid (W.heap[w.heap.size + 1]? = some (.cells #[.int .i64 t.K, .slice bo t.Oil.length d, .int .i64 t.Away] 28 (0, 0))) := f3
  have d1_0 : ∀ x : Aft W, x.val.cell? ⟨w.heap.size + 1, 0, none⟩ = some (.int .i64 t.K) := fun x => cell_of_heap (x.heapH f3) 0
  have d1_1 : ∀ x : Aft W, x.val.cell? ⟨w.heap.size + 1, 1, none⟩ = some (.slice bo t.Oil.length d) := fun x => cell_of_heap (x.heapH f3) 1
  have d1_2 : ∀ x : Aft W, x.val.cell? ⟨w.heap.size + 1, 2, none⟩ = some (.int .i64 t.Away) := fun x => cell_of_heap (x.heapH f3) 2
  rw [← hx0]
  clear hx0 f0 f1 f2 f3
  refine (H1.out _ (Aft.off F0.out x0)).mono ?_
  rintro e w1 ⟨rfl, hb⟩
  obtain ⟨x1, rfl, lk0'⟩ := x0.step (hb)
  have lk0 := Lib.hid lk0'
  clear hb lk0'
  go_wp2_with fail
  refine (H2.out _ (Aft.off F0.out x1)).mono ?_
  rintro e w1 ⟨rfl, hb⟩
  obtain ⟨x2, rfl, lk1'⟩ := x1.step (hb)
  have lk1 := Lib.hid lk1'
  clear hb lk1'
  go_wp2_with fail
  go_loopw [5] (fun i wr => ∃ (k : Nat) (x : Aft W), wr = x.val ∧ k ≤ s.Oil.length ∧ i = .int .i64 k ∧ ∀ j, j < k → prB (s.Oil.getD j 0) (t.Oil.getD j 0) p q = true) (fun i _ => s.Oil.length - (intOf i).toNat)
  case atStart => exact ⟨0, x2, rfl, Nat.zero_le _, rfl, by intro j hj; omega⟩
  case round =>
    obtain ⟨k, x1, rfl, hk, rfl, hall⟩ := hrel
    have HALL := Lib.hid hall
    clear hall
    by_cases hlt : k < s.Oil.length
    · have hks : (k : Int) < s.Oil.length := by omega
      have hkt : (k : Int) < t.Oil.length := by have := HLEN.out; omega
      obtain ⟨bi, oi, rfl, -, -⟩ := (HI.out _ (Aft.off F0.out x1)).get hlt
      obtain ⟨bj, oj, rfl, -, -⟩ := (HJ.out _ (Aft.off F0.out x1)).get (k := k) (by omega)
      have ci : ∀ x : Aft W, x.val.cell? ⟨bi, oi + k, none⟩ = some (.int .i64 (s.Oil.getD k 0)) := fun x => by
        obtain ⟨b', o', e, _, hc⟩ := (HI.out _ (Aft.off F0.out x)).get hlt; cases e; exact hc
      have cj : ∀ x : Aft W, x.val.cell? ⟨bj, oj + k, none⟩ = some (.int .i64 (t.Oil.getD k 0)) := fun x => by
        obtain ⟨b', o', e, _, hc⟩ := (HJ.out _ (Aft.off F0.out x)).get (k := k) (by omega); cases e; exact hc
      have hbx := HBS.out k hlt
      have hby := HBT.out k (by omega)
      generalize hx : s.Oil.getD k 0 = x at *
      generalize hy : t.Oil.getD k 0 = y at *
      have HX := Lib.hid hx
      have HY := Lib.hid hy
      clear hx hy
      obtain ⟨m0, m1⟩ := big_mul hbx.1 hbx.2 p1 p2
      obtain ⟨m2, m3⟩ := big_mul hby.1 hby.2 q1 q2
      have w1 : Hid (IntKind.i64.wrap (x * p) = x * p) := IntWalk.i64_in _ (by omega)
      have w2 : Hid (IntKind.i64.wrap (y * q) = y * q) := IntWalk.i64_in _ (by omega)
      go_wp2_with fail
      refine wp_region_aftW x1 (by kernel_rfl) (by kernel_rfl) ?_
      repeat (go_big_quiet_step (first | (go_at_call 32; rename_i x; (with_reducible exact Calls.aft_same (HPK.out x.val))) | (go_at_call 32; rename_i x; (with_reducible exact Calls.aft_same (HPJ.out x.val)))))
      refine wpQuiet_nil ?_
      rintro _ ⟨x2, rfl⟩
      try simp only [w1.out, w2.out]
      by_cases he : x * p = y * q
      · have hbe : (x * p != y * q) = false := by simp [he]
        have HEQ := Lib.hid he
        clear he
        go_wp2
        go_roundw
        case rel =>
          refine ⟨k + 1, x2, rfl, by omega, by go_num, fun j hj => ?_⟩
          by_cases e : j = k
          · subst e; rw [HX.out, HY.out]; simp [prB, HEQ.out]
          · exact HALL.out j (by omega)
        case measure => simp [intOf]; omega
      · have hbe : (x * p != y * q) = true := by simpa using he
        have HR := Lib.hid (HSAM.out false _ ⟨fun h => (by cases h), fun h => (by have := h k hlt; rw [HX.out, HY.out] at this; simp [prB] at this; exact absurd this he)⟩ rfl)
        clear he
        go_wp2
        go_ret
        exact ⟨ret_bool (by rw [HR.out]; rfl), Aft.off F0.out x2⟩
    · have hke : ¬ ((k : Int) < s.Oil.length) := by omega
      have HR := Lib.hid (HSAM.out true _ ⟨fun _ j hj => HALL.out j (by omega), fun _ => rfl⟩ rfl)
      obtain ⟨m0, m1⟩ := big_mul bsa.1 bsa.2 p1 p2
      obtain ⟨m2, m3⟩ := big_mul bta.1 bta.2 q1 q2
      have w1 : Hid (IntKind.i64.wrap (s.Away * p) = s.Away * p) := IntWalk.i64_in _ (by omega)
      have w2 : Hid (IntKind.i64.wrap (t.Away * q) = t.Away * q) := IntWalk.i64_in _ (by omega)
      go_wp2_with fail
      refine wp_region_aftW x1 (by kernel_rfl) (by kernel_rfl) ?_
      repeat (go_big_quiet_step (first | (go_at_call 32; rename_i x; (with_reducible exact Calls.aft_same (HPK.out x.val))) | (go_at_call 32; rename_i x; (with_reducible exact Calls.aft_same (HPJ.out x.val)))))
      refine wpQuiet_nil ?_
      rintro _ ⟨x2, rfl⟩
      try simp only [w1.out, w2.out]
      go_wp2
      go_ret
      exact ⟨ret_bool (by rw [HR.out]; simp [prB]; first | rfl | exact Bool.beq_eq_decide_eq _ _), Aft.off F0.out x2⟩
end Go.Proofs.Ytnafllhgjidbkaa
