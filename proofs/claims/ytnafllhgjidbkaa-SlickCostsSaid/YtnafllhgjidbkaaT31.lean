/- What a slick costs: Cost and its reference. -/
import Derived.Test.YtnafllhgjidbkaaT30
namespace Go.Proofs.Ytnafllhgjidbkaa
open Go.RowKit Go.Shelf
set_option linter.unusedVariables false
set_option linter.unusedSimpArgs false
theorem ret_ii {k k2 : IntKind} {a b a' b' : Int} (h1 : a = a') (h2 : b = b') : Ending.returned (.tuple #[.int k a, .int k2 b]) = .returned (.tuple #[.int k a', .int k2 b']) := by rw [h1, h2]
noncomputable def costE (B : Bay) (s : Slk) (l : List Int) : Int := if okE B s ≠ 0 then okE B s else if priceB B l = true then 0 else 2
noncomputable def costV (B : Bay) (s : Slk) (l : List Int) : Int := if costE B s l = 0 then costZ s l else 0
theorem lim_le {K : Int} (h0 : 0 ≤ K) (h5 : K ≤ 5) : lim K ≤ 37748736000 := by have := (pow_bd K h0 h5).2; unfold lim; omega
theorem mul_le2 {a b M N : Int} (h0 : 0 ≤ a) (h1 : a ≤ M) (h2 : 0 ≤ b) (h3 : b ≤ N) (hM : 0 ≤ M) : 0 ≤ a * b ∧ a * b ≤ M * N :=
  ⟨Int.mul_nonneg h0 h2, Int.le_trans (Int.mul_le_mul_of_nonneg_right h1 h2) (Int.mul_le_mul_of_nonneg_left h3 hM)⟩
theorem cost_bd {B : Bay} {s : Slk} {l : List Int} (hfit : fitsP B s) (hpr : priceP B l) : l.length = s.Oil.length + 1 ∧ (0 ≤ s.Away * l.getD s.Oil.length 0 ∧ s.Away * l.getD s.Oil.length 0 ≤ 37748736000000) ∧
    ∀ k, k < s.Oil.length → 0 ≤ s.Oil.getD k 0 * l.getD k 0 ∧ s.Oil.getD k 0 * l.getD k 0 ≤ 37748736000000 := by
  have h1 := hfit.2.1
  have h2 := hpr.1
  have hln : l.length = s.Oil.length + 1 := by omega
  have hL := lim_le hfit.1.1 hfit.1.2
  have hs := sum_bd s.Oil (amt_range hfit.2.2.1)
  have ha := hfit.2.2.2
  refine ⟨hln, ?_, fun k hk => ?_⟩
  · have := amt_range hpr.2 s.Oil.length (by omega)
    exact mul_le2 (M := 37748736000) (N := 1000) ha.1 (by omega) this.1 this.2 (by omega)
  · have h3 := amt_range hpr.2 k (by omega)
    have h4 := amt_range hfit.2.2.1 k hk
    exact mul_le2 (M := 37748736000) (N := 1000) h4.1 (by omega) h3.1 h3.2 (by omega)
theorem costE_no {B : Bay} {s : Slk} {l : List Int} {E : Int} (h : okE B s = E) (h0 : E ≠ 0) : costE B s l = E ∧ costV B s l = 0 := by
  have : costE B s l = E := by unfold costE; rw [h, if_pos h0]
  exact ⟨this, by unfold costV; rw [this, if_neg h0]⟩
theorem costE_two {B : Bay} {s : Slk} {l : List Int} (h : okE B s = 0) (hp : ¬ priceP B l) : costE B s l = 2 ∧ costV B s l = 0 := by
  have : costE B s l = 2 := by unfold costE; rw [h, if_neg (by simp), priceB_false hp]; simp
  exact ⟨this, by unfold costV; rw [this, if_neg (by decide)]⟩
theorem costE_ok {B : Bay} {s : Slk} {l : List Int} (h : okE B s = 0) (hp : priceP B l) : costE B s l = 0 ∧ costV B s l = costZ s l := by
  have : costE B s l = 0 := by unfold costE; rw [h, if_neg (by simp), priceB_true hp]; simp
  exact ⟨this, by unfold costV; rw [this, if_pos rfl]⟩

set_option maxRecDepth 100000 in
set_option maxHeartbeats 1000000 in
theorem rCost_any (v sv : Value) (B : Bay) (s : Slk) (po : Option Addr) (pc : Nat) (l : List Int) (w : World) (hv : BayAt w v B) (hs : SlkAt w sv s) (hp : IntsAt w po l) (hn : l.length ≤ 1000) :
    Calls Try.prog 48 #[v, sv, .slice po l.length pc] w fun e w' => e = .returned (.tuple #[.int .i64 (costV B s l), .int .i64 (costE B s l)]) ∧ Below w.heap.size w w' := by
  have HV := Lib.hid (fun W (h : Below w.heap.size w W) => hv.below (Nat.le_refl _) h)
  have HS := Lib.hid (fun W (h : Below w.heap.size w W) => hs.below (Nat.le_refl _) h)
  have HP := Lib.hid (fun W (h : Below w.heap.size w W) => hp.below (Nat.le_refl _) h)
  obtain ⟨la, lc, sa, sc, rfl, hl, hsh, hll, hsl⟩ := hv
  obtain ⟨ao, c, rfl, hi, hn'⟩ := hs
  have HI := Lib.hid (fun W (h : Below w.heap.size w W) => hi.below (Nat.le_refl _) h)
  clear hl hsh hi hp
  have FF := Lib.hid (two_new (w := w) #[.int .i64 B.W, .int .i64 B.H, .slice la B.Land.length lc, .slice sa B.Share.length sc] #[.int .i64 s.K, .slice ao s.Oil.length c, .int .i64 s.Away] 25 28)
  go_enter Try.func48, Try.ntmps48
  go_wp2_with fail
  generalize hW : ((w.alloc _).alloc _) = W at *
  clear hW
  obtain ⟨f0, f1, f2, f3⟩ := FF.out
  clear FF
  obtain ⟨x0, hx0⟩ : ∃ x : Aft W, x.val = W := ⟨⟨W, Below.refl _ W⟩, rfl⟩
  have F0 : Hid (Below w.heap.size w W) := f0
  have FZ : Hid (W.heap.size = w.heap.size + 2) := f1
  have FZ0 := Lib.hid (show x0.val.heap.size = w.heap.size + 2 by rw [hx0]; exact f1)
  have G0 : Hid (W.heap[w.heap.size]? = some (.cells #[.int .i64 B.W, .int .i64 B.H, .slice la B.Land.length lc, .slice sa B.Share.length sc] 25 (0, 0))) := f2
  have d0_0 : ∀ x : Aft W, x.val.cell? ⟨w.heap.size, 0, none⟩ = some (.int .i64 B.W) := fun x => cell_of_heap (x.heapH f2) 0
  have d0_1 : ∀ x : Aft W, x.val.cell? ⟨w.heap.size, 1, none⟩ = some (.int .i64 B.H) := fun x => cell_of_heap (x.heapH f2) 1
  have d0_2 : ∀ x : Aft W, x.val.cell? ⟨w.heap.size, 2, none⟩ = some (.slice la B.Land.length lc) := fun x => cell_of_heap (x.heapH f2) 2
  have d0_3 : ∀ x : Aft W, x.val.cell? ⟨w.heap.size, 3, none⟩ = some (.slice sa B.Share.length sc) := fun x => cell_of_heap (x.heapH f2) 3
  have G1 : Hid (W.heap[w.heap.size + 1]? = some (.cells #[.int .i64 s.K, .slice ao s.Oil.length c, .int .i64 s.Away] 28 (0, 0))) := f3
  have d1_0 : ∀ x : Aft W, x.val.cell? ⟨w.heap.size + 1, 0, none⟩ = some (.int .i64 s.K) := fun x => cell_of_heap (x.heapH f3) 0
  have d1_1 : ∀ x : Aft W, x.val.cell? ⟨w.heap.size + 1, 1, none⟩ = some (.slice ao s.Oil.length c) := fun x => cell_of_heap (x.heapH f3) 1
  have d1_2 : ∀ x : Aft W, x.val.cell? ⟨w.heap.size + 1, 2, none⟩ = some (.int .i64 s.Away) := fun x => cell_of_heap (x.heapH f3) 2
  rw [← hx0]
  clear hx0 f0 f1 f2 f3
  refine (rasked_any _ _ B s _ (HV.out _ (Aft.off F0.out x0)) (HS.out _ (Aft.off F0.out x0))).mono ?_
  rintro e w1 ⟨rfl, hb⟩
  obtain ⟨x1, rfl, lk0'⟩ := x0.step (hb)
  have lk0 := Lib.hid lk0'
  clear hb lk0'
  rcases okE_cases B s with ⟨h0, hval, hfit⟩ | h0 | h0
  · rw [h0]
    by_cases hpr : priceP B l
    · obtain ⟨e1, e2⟩ := costE_ok h0 hpr
      have hc := arePrices_any _ B po pc l _ (HV.out _ (Aft.off F0.out x1)) (HP.out _ (Aft.off F0.out x1)) hn hval
      rw [priceB_true hpr] at hc
      obtain ⟨q1, q2, q3⟩ := cost_bd hfit hpr
      have hk36 : s.Oil.length ≤ 100 := by have := fits_pre hval hfit; omega
      have HQ := Lib.hid (fun (x : Aft W) => Priced_any ao po c pc s l x.val (HI.out _ (Aft.off F0.out x)) (HP.out _ (Aft.off F0.out x)) q1 hk36 (by omega) (fun k hk => by have := q3 k hk; omega))
      have E1 := Lib.hid e1
      have E2 := Lib.hid e2
      have HC := Lib.hid hc
      clear e1 e2 hc
      clear q1 q2 q3 h0 hpr hfit hval
      go_wp2_with fail
      refine (HC.out).mono ?_
      rintro e w1 ⟨rfl, hb⟩
      obtain ⟨x2, rfl, lk1'⟩ := x1.step (hb)
      have lk1 := Lib.hid lk1'
      clear hb lk1'
      go_wp2_with fail
      refine (HQ.out x2).mono ?_
      rintro e w1 ⟨rfl, hb⟩
      obtain ⟨x3, rfl, lk2'⟩ := x2.step (hb)
      have lk2 := Lib.hid lk2'
      clear hb lk2'
      go_wp2
      go_ret2
      exact ⟨ret_ii E2.out.symm E1.out.symm, Aft.off F0.out x3⟩
    · obtain ⟨e1, e2⟩ := costE_two h0 hpr
      have hc := arePrices_any _ B po pc l _ (HV.out _ (Aft.off F0.out x1)) (HP.out _ (Aft.off F0.out x1)) hn hval
      rw [priceB_false hpr] at hc
      have E1 := Lib.hid e1
      have E2 := Lib.hid e2
      have HC := Lib.hid hc
      clear e1 e2 hc
      clear h0 hpr hfit hval
      go_wp2_with fail
      refine (HC.out).mono ?_
      rintro e w1 ⟨rfl, hb⟩
      obtain ⟨x2, rfl, lk1'⟩ := x1.step (hb)
      have lk1 := Lib.hid lk1'
      clear hb lk1'
      go_wp2
      go_ret2
      exact ⟨ret_ii E2.out.symm E1.out.symm, Aft.off F0.out x2⟩
  all_goals
    obtain ⟨e1, e2⟩ := costE_no (l := l) h0 (by decide)
    rw [h0]
    have E1 := Lib.hid e1
    have E2 := Lib.hid e2
    clear e1 e2
    clear h0
    go_wp2
    go_ret2
    exact ⟨ret_ii E2.out.symm E1.out.symm, Aft.off F0.out x1⟩

set_option maxRecDepth 100000 in
set_option maxHeartbeats 1000000 in
theorem Cost_any (v sv : Value) (B : Bay) (s : Slk) (po : Option Addr) (pc : Nat) (l : List Int) (w : World) (hv : BayAt w v B) (hs : SlkAt w sv s) (hp : IntsAt w po l) (hn : l.length ≤ 1000) :
    Calls Try.prog 45 #[v, sv, .slice po l.length pc] w fun e w' => e = .returned (.tuple #[.int .i64 (costV B s l), .int .i64 (costE B s l)]) ∧ Below w.heap.size w w' := by
  have HV := Lib.hid (fun W (h : Below w.heap.size w W) => hv.below (Nat.le_refl _) h)
  have HP := Lib.hid (fun W (h : Below w.heap.size w W) => hp.below (Nat.le_refl _) h)
  obtain ⟨la, lc, sa, sc, rfl, hl, hsh, hll, hsl⟩ := hv
  obtain ⟨ao, c, rfl, hi, hn'⟩ := hs
  have HI := Lib.hid (fun W (h : Below w.heap.size w W) => hi.below (Nat.le_refl _) h)
  have HASK := Lib.hid (askE_one B s)
  clear hl hsh hi hp
  have FF := Lib.hid (two_new (w := w) #[.int .i64 B.W, .int .i64 B.H, .slice la B.Land.length lc, .slice sa B.Share.length sc] #[.int .i64 s.K, .slice ao s.Oil.length c, .int .i64 s.Away] 25 28)
  go_enter Try.func45, Try.ntmps45
  go_wp2_with fail
  generalize hW : ((w.alloc _).alloc _) = W at *
  clear hW
  obtain ⟨f0, f1, f2, f3⟩ := FF.out
  clear FF
  obtain ⟨x0, hx0⟩ : ∃ x : Aft W, x.val = W := ⟨⟨W, Below.refl _ W⟩, rfl⟩
  have F0 : Hid (Below w.heap.size w W) := f0
  have FZ : Hid (W.heap.size = w.heap.size + 2) := f1
  have FZ0 := Lib.hid (show x0.val.heap.size = w.heap.size + 2 by rw [hx0]; exact f1)
  have G0 : Hid (W.heap[w.heap.size]? = some (.cells #[.int .i64 B.W, .int .i64 B.H, .slice la B.Land.length lc, .slice sa B.Share.length sc] 25 (0, 0))) := f2
  have d0_0 : ∀ x : Aft W, x.val.cell? ⟨w.heap.size, 0, none⟩ = some (.int .i64 B.W) := fun x => cell_of_heap (x.heapH f2) 0
  have d0_1 : ∀ x : Aft W, x.val.cell? ⟨w.heap.size, 1, none⟩ = some (.int .i64 B.H) := fun x => cell_of_heap (x.heapH f2) 1
  have d0_2 : ∀ x : Aft W, x.val.cell? ⟨w.heap.size, 2, none⟩ = some (.slice la B.Land.length lc) := fun x => cell_of_heap (x.heapH f2) 2
  have d0_3 : ∀ x : Aft W, x.val.cell? ⟨w.heap.size, 3, none⟩ = some (.slice sa B.Share.length sc) := fun x => cell_of_heap (x.heapH f2) 3
  have G1 : Hid (W.heap[w.heap.size + 1]? = some (.cells #[.int .i64 s.K, .slice ao s.Oil.length c, .int .i64 s.Away] 28 (0, 0))) := f3
  have d1_0 : ∀ x : Aft W, x.val.cell? ⟨w.heap.size + 1, 0, none⟩ = some (.int .i64 s.K) := fun x => cell_of_heap (x.heapH f3) 0
  have d1_1 : ∀ x : Aft W, x.val.cell? ⟨w.heap.size + 1, 1, none⟩ = some (.slice ao s.Oil.length c) := fun x => cell_of_heap (x.heapH f3) 1
  have d1_2 : ∀ x : Aft W, x.val.cell? ⟨w.heap.size + 1, 2, none⟩ = some (.int .i64 s.Away) := fun x => cell_of_heap (x.heapH f3) 2
  rw [← hx0]
  clear hx0 f0 f1 f2 f3
  have hsl2 := slks_one (w := x0.val) (c := c) (HI.out _ (Aft.off F0.out x0)) hn'
  rw [FZ0.out] at hsl2
  have hask := asked_any _ B _ 1 [s] _ hsl2 (HV.out _ ((Aft.off F0.out x0).alloc (Aft.off F0.out x0).size _)) (by simp)
  rw [HASK.out] at hask
  have HC0 := Lib.hid hask
  clear hask HASK hsl2
  refine (HC0.out).mono ?_
  rintro e w1 ⟨rfl, hb⟩
  obtain ⟨x1, rfl, lk0'⟩ := x0.step (((Below.refl _ _).alloc (Nat.le_refl _) _).trans (hb.mono (by simp)))
  have lk0 := Lib.hid lk0'
  clear hb lk0'
  rcases okE_cases B s with ⟨h0, hval, hfit⟩ | h0 | h0
  · rw [h0]
    by_cases hpr : priceP B l
    · obtain ⟨e1, e2⟩ := costE_ok h0 hpr
      have hc := priced_any _ B po pc l _ (HV.out _ (Aft.off F0.out x1)) (HP.out _ (Aft.off F0.out x1)) hn hval
      rw [priceB_true hpr] at hc
      obtain ⟨q1, q2, q3⟩ := cost_bd hfit hpr
      have hk36 : s.Oil.length ≤ 100 := by have := fits_pre hval hfit; omega
      have HCZ : Hid (costZ s l = s.Away * l.getD s.Oil.length 0 + dotR s.Oil l s.Oil.length) := rfl
      obtain ⟨bq, oq, rfl, hbq, hcq⟩ := (HP.out _ (Aft.off F0.out x1)).get (show s.Oil.length < l.length by omega)
      have HPA : Hid (∀ W, Below w.heap.size w W → ∀ k, k < l.length → W.cell? ⟨bq, oq + k, none⟩ = some (.int .i64 (l.getD k 0))) := fun W h k hk => by
        obtain ⟨b', o', e, _, hc⟩ := (HP.out _ h).get hk; cases e; exact hc
      have hc5 := HPA.out _ (Aft.off F0.out x1) s.Oil.length (by omega)
      have hq0 : (s.Oil.length : Int) < l.length := by omega
      have HCW := Lib.hid (fun x : Aft W => HPA.out _ (Aft.off F0.out x) s.Oil.length (by omega))
      have E1 := Lib.hid e1
      have E2 := Lib.hid e2
      have HC := Lib.hid hc
      have Q1 := Lib.hid q1
      have Q3 := Lib.hid q3
      clear e1 e2 hc q1 q3
      clear h0 hpr hfit hval hcq hc5
      generalize hpp : l.getD s.Oil.length 0 = p at *
      have HPP := Lib.hid hpp
      clear hpp
      go_wp2_with fail
      refine (HC.out).mono ?_
      rintro e w1 ⟨rfl, hb⟩
      obtain ⟨x2, rfl, lk1'⟩ := x1.step (hb)
      have lk1 := Lib.hid lk1'
      clear hb lk1'
      have hc : ∀ x : Aft W, x.val.cell? ⟨bq, oq + s.Oil.length, none⟩ = some (.int .i64 p) := HCW.out
      go_wp2_with fail
      refine wp_region_aftW x2 (by kernel_rfl) (by kernel_rfl) ?_
      repeat (go_big_quiet_step (fail))
      refine wpQuiet_nil ?_
      rintro _ ⟨x3, rfl⟩
      go_wp2_with fail
      clear hc
      have hw : IntKind.i64.wrap (s.Away * p) = s.Away * p := IntWalk.i64_in _ (by omega)
      try rw [hw]
      clear hw
      generalize s.Away * p = a0 at *
      go_loopw [9, 37] (fun t i wr => ∃ (k : Nat) (x : Aft W), wr = x.val ∧ k ≤ s.Oil.length ∧ i = .int .i64 k ∧ t = .int .i64 (a0 + dotR s.Oil l k) ∧ 0 ≤ dotR s.Oil l k ∧ dotR s.Oil l k ≤ k * 37748736000000) (fun _ i _ => s.Oil.length - (intOf i).toNat)
      case atStart => exact ⟨0, x3, rfl, Nat.zero_le _, rfl, by simp [dotR, sumR_zero], by simp [dotR, sumR_zero], by simp [dotR, sumR_zero]⟩
      case round =>
        obtain ⟨k, x4, rfl, hk, rfl, rfl, hs0, hs1⟩ := hrel
        by_cases hlt : k < s.Oil.length
        · have hkl : (k : Int) < l.length := by omega
          obtain ⟨bs, os, rfl, hbs, hcs⟩ := (HI.out _ (Aft.off F0.out x4)).get hlt
          have hc2 := HPA.out _ (Aft.off F0.out x4) k (by omega)
          have hx := Q3.out k hlt
          have hts := Lib.hid (dotR_succ s.Oil l k)
          generalize s.Oil.getD k 0 = u at *
          generalize l.getD k 0 = y at *
          generalize dotR s.Oil l k = t at *
          generalize hm : u * y = uy at *
          have HM := Lib.hid hm
          have hm1 : wrap64 (u * y) = uy := by rw [hm]; exact IntWalk.wrap64_in _ ⟨by omega, by omega⟩
          clear hm
          go_wp2
          go_round
          case rel => exact ⟨k + 1, x4, rfl, by omega, by go_num, by rw [hts.out]; go_num, by rw [hts.out]; omega, by rw [hts.out]; omega⟩
          case measure => simp [intOf]; omega
        · obtain rfl : k = s.Oil.length := by omega
          go_wp2
          go_ret2
          exact ⟨ret_ii (E2.out.trans HCZ.out).symm E1.out.symm, Aft.off F0.out x4⟩
    · obtain ⟨e1, e2⟩ := costE_two h0 hpr
      have hc := priced_any _ B po pc l _ (HV.out _ (Aft.off F0.out x1)) (HP.out _ (Aft.off F0.out x1)) hn hval
      rw [priceB_false hpr] at hc
      have E1 := Lib.hid e1
      have E2 := Lib.hid e2
      have HC := Lib.hid hc
      clear e1 e2 hc
      clear h0 hpr hfit hval
      go_wp2_with fail
      refine (HC.out).mono ?_
      rintro e w1 ⟨rfl, hb⟩
      obtain ⟨x2, rfl, lk1'⟩ := x1.step (hb)
      have lk1 := Lib.hid lk1'
      clear hb lk1'
      go_wp2
      go_ret2
      exact ⟨ret_ii E2.out.symm E1.out.symm, Aft.off F0.out x2⟩
  all_goals
    obtain ⟨e1, e2⟩ := costE_no (l := l) h0 (by decide)
    rw [h0]
    have E1 := Lib.hid e1
    have E2 := Lib.hid e2
    clear e1 e2
    clear h0
    go_wp2
    go_ret2
    exact ⟨ret_ii E2.out.symm E1.out.symm, Aft.off F0.out x1⟩
end Go.Proofs.Ytnafllhgjidbkaa
