/- Whether two slicks stand for the same amounts: the closure, EqualFunc, inRange. -/
import Derived.Test.YtnafllhgjidbkaaA2
import Derived.Test.YtnafllhgjidbkaaT30
namespace Go.Proofs.Ytnafllhgjidbkaa
open Go.RowKit Go.Shelf
set_option linter.unusedVariables false
set_option linter.unusedSimpArgs false
def prB (a b p q : Int) : Bool := decide (a * p = b * q)
theorem big_mul {a p : Int} (h0 : 0 ≤ a) (h1 : a ≤ 37748736000) (h2 : 1 ≤ p) (h3 : p ≤ 1048576) : 0 ≤ a * p ∧ a * p ≤ 39582418599936000 := by
  refine ⟨Int.mul_nonneg h0 (by omega), ?_⟩
  have h4 : a * p ≤ 37748736000 * p := Int.mul_le_mul_of_nonneg_right h1 (by omega)
  have h5 : (37748736000 : Int) * p ≤ 37748736000 * 1048576 := Int.mul_le_mul_of_nonneg_left h3 (by omega)
  omega
set_option maxRecDepth 100000 in
set_option maxHeartbeats 1000000 in
theorem same1_any (a b K J : Int) (bt bs : Nat) (w : World) (ht : w.cell? ⟨bt, 0, none⟩ = some (.int .i64 K)) (hs : w.cell? ⟨bs, 0, none⟩ = some (.int .i64 J)) (ha : 0 ≤ a ∧ a ≤ 37748736000) (hb : 0 ≤ b ∧ b ≤ 37748736000) (hK : 0 ≤ K ∧ K ≤ 5) (hJ : 0 ≤ J ∧ J ≤ 5) :
    Calls Try.prog 75 #[.int .i64 a, .int .i64 b, .pointer (some ⟨bt, 0, none⟩), .pointer (some ⟨bs, 0, none⟩)] w fun e w' => e = .returned (.bool (prB a b (16 ^ K.toNat) (16 ^ J.toNat))) ∧ Below w.heap.size w w' := by
  have lt := World.block_lt_of_cell? w _ ht
  have ls := World.block_lt_of_cell? w _ hs
  obtain ⟨p1, p2⟩ := pow_bd K hK.1 hK.2
  obtain ⟨q1, q2⟩ := pow_bd J hJ.1 hJ.2
  have hpK := fun W => power_any K W hK.1 hK.2
  have hpJ := fun W => power_any J W hJ.1 hJ.2
  have c1 : ∀ x : Aft w, x.val.cell? ⟨bt, 0, none⟩ = some (.int .i64 K) := fun x => (x.bel.cell (p := ⟨bt, 0, none⟩) lt).trans ht
  have c2 : ∀ x : Aft w, x.val.cell? ⟨bs, 0, none⟩ = some (.int .i64 J) := fun x => (x.bel.cell (p := ⟨bs, 0, none⟩) ls).trans hs
  generalize (16 : Int) ^ K.toNat = p at *
  generalize (16 : Int) ^ J.toNat = q at *
  obtain ⟨m0, m1⟩ := big_mul ha.1 ha.2 p1 p2
  obtain ⟨m2, m3⟩ := big_mul hb.1 hb.2 q1 q2
  have w1 : Hid (IntKind.i64.wrap (a * p) = a * p) := IntWalk.i64_in _ (by omega)
  have w2 : Hid (IntKind.i64.wrap (b * q) = b * q) := IntWalk.i64_in _ (by omega)
  have HPK := Lib.hid hpK
  have HPJ := Lib.hid hpJ
  clear ht hs hpK hpJ
  go_enter Try.func75, Try.ntmps75
  go_wp2_with fail
  refine wp_region_aft (by kernel_rfl) (by kernel_rfl) ?_
  repeat (go_big_quiet_step (first | (go_at_call 74; rename_i x; exact Calls.aft_same (HPK.out x.val)) | (go_at_call 74; rename_i x; exact Calls.aft_same (HPJ.out x.val))))
  refine wpQuiet_nil ?_
  rintro _ ⟨x, rfl⟩
  try simp only [w1.out, w2.out]
  go_wp2
  go_ret
  exact ⟨ret_bool (by simp [prB]; first | rfl | exact Bool.beq_eq_decide_eq _ _), x.bel⟩
/-- Lists that stand for the same amounts. -/
def eqfP (l m : List Int) (p q : Int) : Prop := l.length = m.length ∧ ∀ k, k < l.length → prB (l.getD k 0) (m.getD k 0) p q = true
open Classical in
noncomputable def eqfB (l m : List Int) (p q : Int) : Bool := decide (eqfP l m p q)
theorem eqfB_true {l m : List Int} {p q : Int} (h : eqfP l m p q) : eqfB l m p q = true := by simp [eqfB, h]
theorem eqfB_false {l m : List Int} {p q : Int} (h : ¬ eqfP l m p q) : eqfB l m p q = false := by simp [eqfB, h]
set_option maxRecDepth 100000 in
set_option maxHeartbeats 1000000 in
theorem equalFunc_any (ao bo : Option Addr) (c d : Nat) (l m : List Int) (K J : Int) (bt bs : Nat) (w : World) (hl : IntsAt w ao l) (hm : IntsAt w bo m) (ht : w.cell? ⟨bt, 0, none⟩ = some (.int .i64 K)) (hs : w.cell? ⟨bs, 0, none⟩ = some (.int .i64 J))
    (hln : l.length ≤ 1000000) (hmn : m.length ≤ 1000000) (ha : ∀ k, k < l.length → 0 ≤ l.getD k 0 ∧ l.getD k 0 ≤ 37748736000) (hb : ∀ k, k < m.length → 0 ≤ m.getD k 0 ∧ m.getD k 0 ≤ 37748736000) (hK : 0 ≤ K ∧ K ≤ 5) (hJ : 0 ≤ J ∧ J ≤ 5) :
    Calls Try.prog 76 #[.slice ao l.length c, .slice bo m.length d, .func (.func 75) #[] #[.pointer (some ⟨bt, 0, none⟩), .pointer (some ⟨bs, 0, none⟩)]] w fun e w' => e = .returned (.bool (eqfB l m (16 ^ K.toNat) (16 ^ J.toNat))) ∧ Below w.heap.size w w' := by
  have lt := World.block_lt_of_cell? w _ ht
  have ls := World.block_lt_of_cell? w _ hs
  have HC := Lib.hid (fun (x : Aft w) a b h1 h2 => same1_any a b K J bt bs x.val ((x.bel.cell (p := ⟨bt, 0, none⟩) lt).trans ht) ((x.bel.cell (p := ⟨bs, 0, none⟩) ls).trans hs) h1 h2 hK hJ)
  have HL := Lib.hid (fun (x : Aft w) => hl.below (Nat.le_refl _) x.bel)
  have HM := Lib.hid (fun (x : Aft w) => hm.below (Nat.le_refl _) x.bel)
  have HA := Lib.hid ha
  have HB := Lib.hid hb
  clear ha hb
  clear ht hs lt ls hl hm
  generalize (16 : Int) ^ K.toNat = p at *
  generalize (16 : Int) ^ J.toNat = q at *
  by_cases hlen : l.length = m.length
  case neg =>
    have hb : ((l.length : Int) != m.length) = true := by simp; omega
    have HR := Lib.hid (eqfB_false (p := p) (q := q) (fun h => hlen h.1))
    clear hlen
    go_enter Try.func76, Try.ntmps76
    go_wp2
    go_ret
    exact ⟨ret_bool HR.out.symm, Below.refl _ _⟩
  have hb : ((l.length : Int) != m.length) = false := by simp [hlen]
  have HLEN := Lib.hid hlen
  clear hlen
  obtain ⟨x0, hx0⟩ : ∃ x : Aft w, x.val = w := ⟨⟨w, Below.refl _ w⟩, rfl⟩
  have HX0 := Lib.hid hx0
  clear hx0
  go_enter Try.func76, Try.ntmps76
  go_wp2
  go_loopw [17] (fun i wr => ∃ (k : Nat) (x : Aft w), wr = x.val ∧ k ≤ l.length ∧ i = .int .i64 k ∧ ∀ j, j < k → prB (l.getD j 0) (m.getD j 0) p q = true) (fun i _ => l.length - (intOf i).toNat)
  case atStart => exact ⟨0, x0, HX0.out.symm, Nat.zero_le _, rfl, by intro j hj; omega⟩
  case round =>
    obtain ⟨k, x1, rfl, hk, rfl, hall⟩ := hrel
    have HALL := Lib.hid hall
    clear hall
    by_cases hlt : k < l.length
    · have hkm : (k : Int) < m.length := by have := HLEN.out; omega
      obtain ⟨bi, oi, rfl, hbi, hci⟩ := (HL.out x1).get hlt
      obtain ⟨bj, oj, rfl, hbj, hcj⟩ := (HM.out x1).get (k := k) (by omega)
      have hc := HC.out x1 _ _ (HA.out k hlt) (HB.out k (by omega))
      generalize hx : l.getD k 0 = x at *
      generalize hy : m.getD k 0 = y at *
      have HCC := Lib.hid hc
      have HX := Lib.hid hx
      have HY := Lib.hid hy
      clear hc hx hy
      cases hr : prB x y p q
      · have HR := Lib.hid (eqfB_false (l := l) (m := m) (p := p) (q := q) (fun h => by have := h.2 k hlt; rw [HX.out, HY.out, hr] at this; cases this))
        rw [hr] at HCC
        clear hr
        go_wp2_with fail
        refine HCC.out.mono ?_
        rintro e w1 ⟨rfl, hb1⟩
        obtain ⟨x2, rfl, lk⟩ := x1.step hb1
        clear hb1 lk
        go_wp2
        go_ret
        exact ⟨ret_bool HR.out.symm, x2.bel⟩
      · have HR := Lib.hid hr
        rw [hr] at HCC
        clear hr
        go_wp2_with fail
        refine HCC.out.mono ?_
        rintro e w1 ⟨rfl, hb1⟩
        obtain ⟨x2, rfl, lk⟩ := x1.step hb1
        clear hb1 lk
        go_wp2
        go_roundw
        case rel =>
          refine ⟨k + 1, x2, rfl, by omega, by go_num, fun j hj => ?_⟩
          by_cases e : j = k
          · subst e; rw [HX.out, HY.out]; exact HR.out
          · exact HALL.out j (by omega)
        case measure => simp [intOf]; omega
    · have HR := Lib.hid (eqfB_true (l := l) (m := m) (p := p) (q := q) ⟨HLEN.out, fun j hj => HALL.out j (by omega)⟩)
      have hke : ¬ ((k : Int) < l.length) := by omega
      go_wp2
      go_ret
      exact ⟨ret_bool HR.out.symm, x1.bel⟩
/-! ### The reference -/
def rngP (s : Slk) : Prop := (0 ≤ s.K ∧ s.K ≤ 5) ∧ amtB s.Oil (lim s.K) = true ∧ 0 ≤ s.Away ∧ s.Away ≤ lim s.K
open Classical in
noncomputable def rngB (s : Slk) : Bool := decide (rngP s)
theorem rngB_true {s : Slk} (h : rngP s) : rngB s = true := by simp [rngB, h]
theorem rngB_false {s : Slk} (h : ¬ rngP s) : rngB s = false := by simp [rngB, h]
set_option maxRecDepth 100000 in
set_option maxHeartbeats 1000000 in
theorem inRange_any (sv : Value) (s : Slk) (w : World) (hs : SlkAt w sv s) :
    Calls Try.prog 77 #[sv] w fun e w' => e = .returned (.bool (rngB s)) ∧ Below w.heap.size w w' := by
  obtain ⟨ao, c, rfl, hi, hn⟩ := hs
  have HI := Lib.hid (fun W (h : Below w.heap.size w W) => hi.below (Nat.le_refl _) h)
  clear hi
  have FF := Lib.hid (one_new (w := w) #[.int .i64 s.K, .slice ao s.Oil.length c, .int .i64 s.Away] 28)
  by_cases h0 : s.K < 0
  · have HR := Lib.hid (rngB_false (s := s) (fun h => by have := h.1; omega))
    go_enter Try.func77, Try.ntmps77
    go_wp2_with fail
    generalize hW : (w.alloc _) = W at *
    clear hW
    obtain ⟨f0, f1, f2⟩ := FF.out
    clear FF
    obtain ⟨x0, hx0⟩ : ∃ x : Aft W, x.val = W := ⟨⟨W, Below.refl _ W⟩, rfl⟩
    have F0 : Hid (Below w.heap.size w W) := f0
    have FZ : Hid (W.heap.size = w.heap.size + 1) := f1
    have FZ0 := Lib.hid (show x0.val.heap.size = w.heap.size + 1 by rw [hx0]; exact f1)
    have G0 : Hid (W.heap[w.heap.size]? = some (.cells #[.int .i64 s.K, .slice ao s.Oil.length c, .int .i64 s.Away] 28 (0, 0))) := f2
    have d0_0 : ∀ x : Aft W, x.val.cell? ⟨w.heap.size, 0, none⟩ = some (.int .i64 s.K) := fun x => cell_of_heap (x.heapH f2) 0
    have d0_1 : ∀ x : Aft W, x.val.cell? ⟨w.heap.size, 1, none⟩ = some (.slice ao s.Oil.length c) := fun x => cell_of_heap (x.heapH f2) 1
    have d0_2 : ∀ x : Aft W, x.val.cell? ⟨w.heap.size, 2, none⟩ = some (.int .i64 s.Away) := fun x => cell_of_heap (x.heapH f2) 2
    rw [← hx0]
    clear hx0 f0 f1 f2
    go_wp2
    go_ret
    exact ⟨ret_bool HR.out.symm, Aft.off F0.out x0⟩
  by_cases h5 : 5 < s.K
  · have HR := Lib.hid (rngB_false (s := s) (fun h => by have := h.1; omega))
    go_enter Try.func77, Try.ntmps77
    go_wp2_with fail
    generalize hW : (w.alloc _) = W at *
    clear hW
    obtain ⟨f0, f1, f2⟩ := FF.out
    clear FF
    obtain ⟨x0, hx0⟩ : ∃ x : Aft W, x.val = W := ⟨⟨W, Below.refl _ W⟩, rfl⟩
    have F0 : Hid (Below w.heap.size w W) := f0
    have FZ : Hid (W.heap.size = w.heap.size + 1) := f1
    have FZ0 := Lib.hid (show x0.val.heap.size = w.heap.size + 1 by rw [hx0]; exact f1)
    have G0 : Hid (W.heap[w.heap.size]? = some (.cells #[.int .i64 s.K, .slice ao s.Oil.length c, .int .i64 s.Away] 28 (0, 0))) := f2
    have d0_0 : ∀ x : Aft W, x.val.cell? ⟨w.heap.size, 0, none⟩ = some (.int .i64 s.K) := fun x => cell_of_heap (x.heapH f2) 0
    have d0_1 : ∀ x : Aft W, x.val.cell? ⟨w.heap.size, 1, none⟩ = some (.slice ao s.Oil.length c) := fun x => cell_of_heap (x.heapH f2) 1
    have d0_2 : ∀ x : Aft W, x.val.cell? ⟨w.heap.size, 2, none⟩ = some (.int .i64 s.Away) := fun x => cell_of_heap (x.heapH f2) 2
    rw [← hx0]
    clear hx0 f0 f1 f2
    go_wp2
    go_ret
    exact ⟨ret_bool HR.out.symm, Aft.off F0.out x0⟩
  obtain ⟨K, hKe⟩ : ∃ K : Nat, s.K = K := ⟨s.K.toNat, by omega⟩
  obtain ⟨q1, q2⟩ := pow_bd s.K (by omega) (by omega)
  have hlim : lim s.K = 36000 * 16 ^ K := by unfold lim; rw [hKe]; rfl
  have h16 := fun W => sixteen_any K W (by omega)
  rw [hKe, Int.toNat_natCast] at q1 q2
  generalize (16 : Int) ^ K = p at q1 q2 hlim h16
  have HL := Lib.hid hlim
  have HKE := Lib.hid hKe
  have H16 := Lib.hid h16
  have hbx : Hid (s.K = (K : Int)) := hKe
  rw [hKe] at h0 h5 ⊢
  clear hlim hKe h16 FF
  have FF := Lib.hid (one_new (w := w) #[.int .i64 (K : Int), .slice ao s.Oil.length c, .int .i64 s.Away] 28)
  go_enter Try.func77, Try.ntmps77
  go_wp2_with fail
  generalize hW : (w.alloc _) = W at *
  clear hW
  obtain ⟨f0, f1, f2⟩ := FF.out
  clear FF
  obtain ⟨x0, hx0⟩ : ∃ x : Aft W, x.val = W := ⟨⟨W, Below.refl _ W⟩, rfl⟩
  have F0 : Hid (Below w.heap.size w W) := f0
  have FZ : Hid (W.heap.size = w.heap.size + 1) := f1
  have FZ0 := Lib.hid (show x0.val.heap.size = w.heap.size + 1 by rw [hx0]; exact f1)
  have G0 : Hid (W.heap[w.heap.size]? = some (.cells #[.int .i64 (K : Int), .slice ao s.Oil.length c, .int .i64 s.Away] 28 (0, 0))) := f2
  have d0_0 : ∀ x : Aft W, x.val.cell? ⟨w.heap.size, 0, none⟩ = some (.int .i64 (K : Int)) := fun x => cell_of_heap (x.heapH f2) 0
  have d0_1 : ∀ x : Aft W, x.val.cell? ⟨w.heap.size, 1, none⟩ = some (.slice ao s.Oil.length c) := fun x => cell_of_heap (x.heapH f2) 1
  have d0_2 : ∀ x : Aft W, x.val.cell? ⟨w.heap.size, 2, none⟩ = some (.int .i64 s.Away) := fun x => cell_of_heap (x.heapH f2) 2
  rw [← hx0]
  clear hx0 f0 f1 f2
  refine (H16.out _).mono ?_
  rintro e w1 ⟨rfl, rfl⟩
  go_wp2_with fail
  go_loop [4] (fun i => ∃ k : Nat, k ≤ s.Oil.length ∧ i = .int .i64 k ∧ ∀ j, j < k → okB (36000 * p) (s.Oil.getD j 0) = true) (fun i => s.Oil.length - (intOf i).toNat)
  case atStart => exact ⟨0, Nat.zero_le _, rfl, by intro j hj; omega⟩
  case round =>
    obtain ⟨k, hk, rfl, hall⟩ := hrel
    have HALL := Lib.hid hall
    clear hall
    by_cases hlt : k < s.Oil.length
    · obtain ⟨bs, os, rfl, hbs, hcs⟩ := (HI.out _ (Aft.off F0.out x0)).get hlt
      generalize hx : s.Oil.getD k 0 = x at *
      have HX := Lib.hid hx
      clear hx
      by_cases hx0 : x < 0
      · have HR := Lib.hid (rngB_false (s := s) (fun h => by have := okB_iff.1 (amtB_iff.1 h.2.1 k hlt); rw [HX.out] at this; omega))
        go_wp2
        go_ret
        exact ⟨ret_bool HR.out.symm, Aft.off F0.out x0⟩
      by_cases hx5 : 36000 * p < x
      · have HR := Lib.hid (rngB_false (s := s) (fun h => by have := okB_iff.1 (amtB_iff.1 h.2.1 k hlt); rw [HX.out, HL.out] at this; omega))
        go_wp2
        go_ret
        exact ⟨ret_bool HR.out.symm, Aft.off F0.out x0⟩
      go_wp2
      go_round
      case rel =>
        refine ⟨k + 1, by omega, by go_num, fun j hj => ?_⟩
        by_cases e : j = k
        · subst e; rw [HX.out]; exact okB_iff.2 ⟨by omega, by omega⟩
        · exact HALL.out j (by omega)
      case measure => simp [intOf]; omega
    · have hke : ¬ ((k : Int) < s.Oil.length) := by omega
      have hamt : Hid (amtB s.Oil (lim s.K) = true) := amtB_iff.2 (fun j hj => by rw [HL.out]; exact HALL.out j (by omega))
      by_cases ha0 : 0 ≤ s.Away
      · by_cases ha5 : s.Away ≤ 36000 * p
        · have HR := Lib.hid (rngB_true (s := s) ⟨⟨by have := HKE.out; omega, by have := HKE.out; omega⟩, hamt.out, ha0, by rw [HL.out]; exact ha5⟩)
          go_wp2
          go_ret
          exact ⟨ret_bool HR.out.symm, Aft.off F0.out x0⟩
        · have HR := Lib.hid (rngB_false (s := s) (fun h => by have := h.2.2.2; rw [HL.out] at this; omega))
          go_wp2
          go_ret
          exact ⟨ret_bool HR.out.symm, Aft.off F0.out x0⟩
      · have HR := Lib.hid (rngB_false (s := s) (fun h => ha0 h.2.2.1))
        go_wp2
        go_ret
        exact ⟨ret_bool HR.out.symm, Aft.off F0.out x0⟩
end Go.Proofs.Ytnafllhgjidbkaa
