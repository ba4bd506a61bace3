/- Prices: which lists are prices, and what a slick costs. -/
import Derived.Test.YtnafllhgjidbkaaA1
import Derived.Test.YtnafllhgjidbkaaM2
namespace Go.Proofs.Ytnafllhgjidbkaa
open Go.RowKit Go.Shelf
set_option linter.unusedVariables false
set_option linter.unusedSimpArgs false
def priceP (B : Bay) (l : List Int) : Prop := (l.length : Int) = B.W * B.H + 1 ∧ amtB l 1000 = true
open Classical in
noncomputable def priceB (B : Bay) (l : List Int) : Bool := decide (priceP B l)
theorem priceB_true {B : Bay} {l : List Int} (h : priceP B l) : priceB B l = true := by simp [priceB, h]
theorem priceB_false {B : Bay} {l : List Int} (h : ¬ priceP B l) : priceB B l = false := by simp [priceB, h]
def dotR (a b : List Int) (k : Nat) : Int := sumR k (fun i => a.getD i 0 * b.getD i 0)
def costZ (s : Slk) (l : List Int) : Int := s.Away * l.getD s.Oil.length 0 + dotR s.Oil l s.Oil.length

theorem priced_any (v : Value) (B : Bay) (po : Option Addr) (pc : Nat) (l : List Int) (w : World) (hv : BayAt w v B) (hp : IntsAt w po l) (hn : l.length ≤ 1000) (hval : validP B) :
    Calls Try.prog 78 #[v, .slice po l.length pc] w fun e w' => e = .returned (.bool (priceB B l)) ∧ Below w.heap.size w w' := by
  obtain ⟨la, lc, sa, sc, rfl, hl, hsh, hll, hsl⟩ := hv
  obtain ⟨hp1, hp2⟩ := mul36 hval.1.1 hval.1.2 hval.2.1.1 hval.2.1.2
  have HP := Lib.hid (fun W (h : Below w.heap.size w W) => hp.below (Nat.le_refl _) h)
  clear hl hsh hp hval
  have FF := Lib.hid (one_new (w := w) #[.int .i64 B.W, .int .i64 B.H, .slice la B.Land.length lc, .slice sa B.Share.length sc] 25)
  by_cases hlen : (l.length : Int) = B.W * B.H + 1
  · have hb : ((l.length : Int) == B.W * B.H + 1) = true := by simp [hlen]
    have HA : Hid (priceB B l = amtB l 1000) := by
      unfold Hid
      cases h : amtB l 1000
      · exact priceB_false (fun hh => by have := hh.2; rw [h] at this; cases this)
      · exact priceB_true ⟨hlen, h⟩
    clear hlen
    go_enter Try.func78, Try.ntmps78
    go_wp2_with fail
    generalize hW : (w.alloc _) = W at *
    clear hW
    obtain ⟨f0, f1, f2⟩ := FF.out
    clear FF
    obtain ⟨x0, hx0⟩ : ∃ x : Aft W, x.val = W := ⟨⟨W, Below.refl _ W⟩, rfl⟩
    have F0 : Hid (Below w.heap.size w W) := f0
    have FZ : Hid (W.heap.size = w.heap.size + 1) := f1
    have G0 : Hid (W.heap[w.heap.size]? = some (.cells #[.int .i64 B.W, .int .i64 B.H, .slice la B.Land.length lc, .slice sa B.Share.length sc] 25 (0, 0))) := f2
    have d0_0 : ∀ x : Aft W, x.val.cell? ⟨w.heap.size, 0, none⟩ = some (.int .i64 B.W) := fun x => cell_of_heap (x.heapH f2) 0
    have d0_1 : ∀ x : Aft W, x.val.cell? ⟨w.heap.size, 1, none⟩ = some (.int .i64 B.H) := fun x => cell_of_heap (x.heapH f2) 1
    have d0_2 : ∀ x : Aft W, x.val.cell? ⟨w.heap.size, 2, none⟩ = some (.slice la B.Land.length lc) := fun x => cell_of_heap (x.heapH f2) 2
    have d0_3 : ∀ x : Aft W, x.val.cell? ⟨w.heap.size, 3, none⟩ = some (.slice sa B.Share.length sc) := fun x => cell_of_heap (x.heapH f2) 3
    rw [← hx0]
    clear hx0 f0 f1 f2
    refine (amounts_any po pc l 1000 _ (HP.out _ (Aft.off F0.out x0)) (by omega)).mono ?_
    rintro e w1 ⟨rfl, hb⟩
    obtain ⟨x1, rfl, h0'⟩ := x0.step (hb)
    have h0 := Lib.hid h0'
    clear hb h0'
    go_wp2
    go_ret
    exact ⟨ret_bool HA.out.symm, Aft.off F0.out x1⟩
  · have hb : ((l.length : Int) == B.W * B.H + 1) = false := by simp [hlen]
    have HA := Lib.hid (priceB_false (B := B) (l := l) (fun hh => hlen hh.1))
    clear hlen
    go_enter Try.func78, Try.ntmps78
    go_wp2_with fail
    generalize hW : (w.alloc _) = W at *
    clear hW
    obtain ⟨f0, f1, f2⟩ := FF.out
    clear FF
    obtain ⟨x0, hx0⟩ : ∃ x : Aft W, x.val = W := ⟨⟨W, Below.refl _ W⟩, rfl⟩
    have F0 : Hid (Below w.heap.size w W) := f0
    have FZ : Hid (W.heap.size = w.heap.size + 1) := f1
    have G0 : Hid (W.heap[w.heap.size]? = some (.cells #[.int .i64 B.W, .int .i64 B.H, .slice la B.Land.length lc, .slice sa B.Share.length sc] 25 (0, 0))) := f2
    have d0_0 : ∀ x : Aft W, x.val.cell? ⟨w.heap.size, 0, none⟩ = some (.int .i64 B.W) := fun x => cell_of_heap (x.heapH f2) 0
    have d0_1 : ∀ x : Aft W, x.val.cell? ⟨w.heap.size, 1, none⟩ = some (.int .i64 B.H) := fun x => cell_of_heap (x.heapH f2) 1
    have d0_2 : ∀ x : Aft W, x.val.cell? ⟨w.heap.size, 2, none⟩ = some (.slice la B.Land.length lc) := fun x => cell_of_heap (x.heapH f2) 2
    have d0_3 : ∀ x : Aft W, x.val.cell? ⟨w.heap.size, 3, none⟩ = some (.slice sa B.Share.length sc) := fun x => cell_of_heap (x.heapH f2) 3
    rw [← hx0]
    clear hx0 f0 f1 f2
    go_wp2
    go_ret
    exact ⟨ret_bool HA.out.symm, Aft.off F0.out x0⟩

theorem arePrices_any (v : Value) (B : Bay) (po : Option Addr) (pc : Nat) (l : List Int) (w : World) (hv : BayAt w v B) (hp : IntsAt w po l) (hn : l.length ≤ 1000) (hval : validP B) :
    Calls Try.prog 44 #[v, .slice po l.length pc] w fun e w' => e = .returned (.bool (priceB B l)) ∧ Below w.heap.size w w' := by
  obtain ⟨la, lc, sa, sc, rfl, hl, hsh, hll, hsl⟩ := hv
  obtain ⟨hp1, hp2⟩ := mul36 hval.1.1 hval.1.2 hval.2.1.1 hval.2.1.2
  have HP := Lib.hid (fun W (h : Below w.heap.size w W) => hp.below (Nat.le_refl _) h)
  clear hl hsh hp hval
  have FF := Lib.hid (one_new (w := w) #[.int .i64 B.W, .int .i64 B.H, .slice la B.Land.length lc, .slice sa B.Share.length sc] 25)
  by_cases hlen : (l.length : Int) = B.W * B.H + 1
  · have hb : ((l.length : Int) != B.W * B.H + 1) = false := by simp [hlen]
    have HLEN := Lib.hid hlen
    clear hlen
    go_enter Try.func44, Try.ntmps44
    go_wp2_with fail
    generalize hW : (w.alloc _) = W at *
    clear hW
    obtain ⟨f0, f1, f2⟩ := FF.out
    clear FF
    obtain ⟨x0, hx0⟩ : ∃ x : Aft W, x.val = W := ⟨⟨W, Below.refl _ W⟩, rfl⟩
    have F0 : Hid (Below w.heap.size w W) := f0
    have FZ : Hid (W.heap.size = w.heap.size + 1) := f1
    have G0 : Hid (W.heap[w.heap.size]? = some (.cells #[.int .i64 B.W, .int .i64 B.H, .slice la B.Land.length lc, .slice sa B.Share.length sc] 25 (0, 0))) := f2
    have d0_0 : ∀ x : Aft W, x.val.cell? ⟨w.heap.size, 0, none⟩ = some (.int .i64 B.W) := fun x => cell_of_heap (x.heapH f2) 0
    have d0_1 : ∀ x : Aft W, x.val.cell? ⟨w.heap.size, 1, none⟩ = some (.int .i64 B.H) := fun x => cell_of_heap (x.heapH f2) 1
    have d0_2 : ∀ x : Aft W, x.val.cell? ⟨w.heap.size, 2, none⟩ = some (.slice la B.Land.length lc) := fun x => cell_of_heap (x.heapH f2) 2
    have d0_3 : ∀ x : Aft W, x.val.cell? ⟨w.heap.size, 3, none⟩ = some (.slice sa B.Share.length sc) := fun x => cell_of_heap (x.heapH f2) 3
    rw [← hx0]
    clear hx0 f0 f1 f2
    go_loop [5] (fun i => ∃ k : Nat, k ≤ l.length ∧ i = .int .i64 k ∧ ∀ j, j < k → okB 1000 (l.getD j 0) = true) (fun i => l.length - (intOf i).toNat)
    case atStart => exact ⟨0, Nat.zero_le _, rfl, by intro j hj; omega⟩
    case round =>
      obtain ⟨k, hk, rfl, hall⟩ := hrel
      have HALL := Lib.hid hall
      clear hall
      by_cases hlt : k < l.length
      · obtain ⟨bs, os, rfl, hbs, hcs⟩ := (HP.out _ (Aft.off F0.out x0)).get hlt
        generalize hx : l.getD k 0 = x at hcs
        have HX := Lib.hid hx
        clear hx
        by_cases h0 : x < 0
        · have HA := Lib.hid (priceB_false (B := B) (l := l) (fun hh => by have := okB_iff.1 (amtB_iff.1 hh.2 k hlt); rw [HX.out] at this; omega))
          go_wp2
          go_ret
          exact ⟨ret_bool HA.out.symm, Aft.off F0.out x0⟩
        by_cases h1 : 1000 < x
        · have HA := Lib.hid (priceB_false (B := B) (l := l) (fun hh => by have := okB_iff.1 (amtB_iff.1 hh.2 k hlt); rw [HX.out] at this; omega))
          go_wp2
          go_ret
          exact ⟨ret_bool HA.out.symm, Aft.off F0.out x0⟩
        go_wp2
        go_round
        case rel =>
          refine ⟨k + 1, by omega, by go_num, ?_⟩
          intro j hj
          by_cases hjk : j = k
          · subst hjk; rw [HX.out]; exact okB_iff.2 ⟨by omega, by omega⟩
          · exact HALL.out j (by omega)
        case measure => simp [intOf]; omega
      · have HA := Lib.hid (priceB_true (B := B) (l := l) ⟨HLEN.out, amtB_iff.2 (fun j hj => HALL.out j (by omega))⟩)
        go_wp2
        go_ret
        exact ⟨ret_bool HA.out.symm, Aft.off F0.out x0⟩
  · have hb : ((l.length : Int) != B.W * B.H + 1) = true := by simpa using hlen
    have HA := Lib.hid (priceB_false (B := B) (l := l) (fun hh => hlen hh.1))
    clear hlen
    go_enter Try.func44, Try.ntmps44
    go_wp2_with fail
    generalize hW : (w.alloc _) = W at *
    clear hW
    obtain ⟨f0, f1, f2⟩ := FF.out
    clear FF
    obtain ⟨x0, hx0⟩ : ∃ x : Aft W, x.val = W := ⟨⟨W, Below.refl _ W⟩, rfl⟩
    have F0 : Hid (Below w.heap.size w W) := f0
    have FZ : Hid (W.heap.size = w.heap.size + 1) := f1
    have G0 : Hid (W.heap[w.heap.size]? = some (.cells #[.int .i64 B.W, .int .i64 B.H, .slice la B.Land.length lc, .slice sa B.Share.length sc] 25 (0, 0))) := f2
    have d0_0 : ∀ x : Aft W, x.val.cell? ⟨w.heap.size, 0, none⟩ = some (.int .i64 B.W) := fun x => cell_of_heap (x.heapH f2) 0
    have d0_1 : ∀ x : Aft W, x.val.cell? ⟨w.heap.size, 1, none⟩ = some (.int .i64 B.H) := fun x => cell_of_heap (x.heapH f2) 1
    have d0_2 : ∀ x : Aft W, x.val.cell? ⟨w.heap.size, 2, none⟩ = some (.slice la B.Land.length lc) := fun x => cell_of_heap (x.heapH f2) 2
    have d0_3 : ∀ x : Aft W, x.val.cell? ⟨w.heap.size, 3, none⟩ = some (.slice sa B.Share.length sc) := fun x => cell_of_heap (x.heapH f2) 3
    rw [← hx0]
    clear hx0 f0 f1 f2
    go_wp2
    go_ret
    exact ⟨ret_bool HA.out.symm, Aft.off F0.out x0⟩

theorem dotR_succ (a b : List Int) (k : Nat) : dotR a b (k + 1) = dotR a b k + a.getD k 0 * b.getD k 0 := sumR_succ _ _
set_option maxHeartbeats 400000 in
theorem Priced_any (ao po : Option Addr) (c pc : Nat) (s : Slk) (l : List Int) (w : World) (hi : IntsAt w ao s.Oil) (hp : IntsAt w po l) (hn : l.length = s.Oil.length + 1) (h100 : s.Oil.length ≤ 100)
    (hA : 0 ≤ s.Away * l.getD s.Oil.length 0 ∧ s.Away * l.getD s.Oil.length 0 ≤ 10000000000000000) (hO : ∀ k, k < s.Oil.length → 0 ≤ s.Oil.getD k 0 * l.getD k 0 ∧ s.Oil.getD k 0 * l.getD k 0 ≤ 10000000000000000) :
    Calls Try.prog 47 #[.agg #[.int .i64 s.K, .slice ao s.Oil.length c, .int .i64 s.Away], .slice po l.length pc] w fun e w' => e = .returned (.int .i64 (costZ s l)) ∧ Below w.heap.size w w' := by
  have HI := Lib.hid (fun W (h : Below w.heap.size w W) => hi.below (Nat.le_refl _) h)
  obtain ⟨bq, oq, rfl, hbq, hcq⟩ := hp.get (show s.Oil.length < l.length by omega)
  have HPA : Hid (∀ W, Below w.heap.size w W → ∀ k, k < l.length → W.cell? ⟨bq, oq + k, none⟩ = some (.int .i64 (l.getD k 0))) := fun W h k hk => by
    obtain ⟨b', o', e, _, hc⟩ := (hp.below (Nat.le_refl _) h).get hk; cases e; exact hc
  have hq0 : (s.Oil.length : Int) < l.length := by omega
  have HO := Lib.hid hO
  have HN := Lib.hid hn
  clear hO hn
  clear hi hp hcq
  have hc := fun (W : World) h => HPA.out W h s.Oil.length (by omega)
  have HC : Hid (costZ s l = s.Away * l.getD s.Oil.length 0 + dotR s.Oil l s.Oil.length) := rfl
  generalize costZ s l = CC at *
  generalize hln : l.getD s.Oil.length 0 = p at *
  have HLN := Lib.hid hln
  have HCW := Lib.hid hc
  clear hln hc
  have FF := Lib.hid (one_new (w := w) #[.int .i64 s.K, .slice ao s.Oil.length c, .int .i64 s.Away] 28)
  go_enter Try.func47, Try.ntmps47
  go_wp2_with fail
  generalize hW : (w.alloc _) = W at *
  clear hW
  obtain ⟨f0, f1, f2⟩ := FF.out
  clear FF
  obtain ⟨x0, hx0⟩ : ∃ x : Aft W, x.val = W := ⟨⟨W, Below.refl _ W⟩, rfl⟩
  have F0 : Hid (Below w.heap.size w W) := f0
  have FZ : Hid (W.heap.size = w.heap.size + 1) := f1
  have G0 : Hid (W.heap[w.heap.size]? = some (.cells #[.int .i64 s.K, .slice ao s.Oil.length c, .int .i64 s.Away] 28 (0, 0))) := f2
  have d0_0 : ∀ x : Aft W, x.val.cell? ⟨w.heap.size, 0, none⟩ = some (.int .i64 s.K) := fun x => cell_of_heap (x.heapH f2) 0
  have d0_1 : ∀ x : Aft W, x.val.cell? ⟨w.heap.size, 1, none⟩ = some (.slice ao s.Oil.length c) := fun x => cell_of_heap (x.heapH f2) 1
  have d0_2 : ∀ x : Aft W, x.val.cell? ⟨w.heap.size, 2, none⟩ = some (.int .i64 s.Away) := fun x => cell_of_heap (x.heapH f2) 2
  rw [← hx0]
  clear hx0 f0 f1 f2
  have hc : ∀ x : Aft W, x.val.cell? ⟨bq, oq + s.Oil.length, none⟩ = some (.int .i64 p) := fun x => HCW.out _ (Aft.off F0.out x)
  refine wp_region_aftW x0 (by kernel_rfl) (by kernel_rfl) ?_
  repeat (go_big_quiet_step (fail))
  refine wpQuiet_nil ?_
  rintro _ ⟨x1, rfl⟩
  go_wp2_with fail
  clear hc
  have hw : IntKind.i64.wrap (s.Away * p) = s.Away * p := IntWalk.i64_in _ (by omega)
  try rw [hw]
  clear hw
  generalize s.Away * p = a0 at *
  go_loopw [5, 6] (fun t i wr => ∃ (k : Nat) (x : Aft W), wr = x.val ∧ k ≤ s.Oil.length ∧ i = .int .i64 k ∧ t = .int .i64 (a0 + dotR s.Oil l k) ∧ 0 ≤ dotR s.Oil l k ∧ dotR s.Oil l k ≤ k * 10000000000000000) (fun _ i _ => s.Oil.length - (intOf i).toNat)
  case atStart => exact ⟨0, x1, rfl, Nat.zero_le _, rfl, by simp [dotR, sumR_zero], by simp [dotR, sumR_zero], by simp [dotR, sumR_zero]⟩
  case round =>
    obtain ⟨k, x2, rfl, hk, rfl, rfl, hs0, hs1⟩ := hrel
    by_cases hlt : k < s.Oil.length
    · have hkl : (k : Int) < l.length := by omega
      obtain ⟨bs, os, rfl, hbs, hcs⟩ := (HI.out _ (Aft.off F0.out x2)).get hlt
      have hc1 : ∀ x : Aft W, x.val.cell? ⟨bs, os + k, none⟩ = some (.int .i64 (s.Oil.getD k 0)) := fun x => by
        obtain ⟨b', o', e, _, hc⟩ := (HI.out _ (Aft.off F0.out x)).get hlt; cases e; exact hc
      have hc2 : ∀ x : Aft W, x.val.cell? ⟨bq, oq + k, none⟩ = some (.int .i64 (l.getD k 0)) := fun x => HPA.out _ (Aft.off F0.out x) k (by omega)
      have hx := HO.out k hlt
      have hts := Lib.hid (dotR_succ s.Oil l k)
      generalize s.Oil.getD k 0 = u at *
      generalize l.getD k 0 = y at *
      generalize dotR s.Oil l k = t at *
      clear hcs
      go_wp2_with fail
      refine wp_region_aftW x2 (by kernel_rfl) (by kernel_rfl) ?_
      repeat (go_big_quiet_step (fail))
      refine wpQuiet_nil ?_
      rintro _ ⟨x3, rfl⟩
      have hw : IntKind.i64.wrap (u * y) = u * y := IntWalk.i64_in _ (by omega)
      try rw [hw]
      have hw2 : IntKind.i64.wrap (a0 + t + u * y) = a0 + t + u * y := IntWalk.i64_in _ (by omega)
      try rw [hw2]
      clear hw hw2
      generalize u * y = uy at *
      go_wp2
      go_roundw
      case rel => exact ⟨k + 1, x3, rfl, by omega, by go_num, by rw [hts.out]; go_num, by rw [hts.out]; omega, by rw [hts.out]; omega⟩
      case measure => simp [intOf]; omega
    · obtain rfl : k = s.Oil.length := by omega
      go_wp2
      go_ret
      exact ⟨ret_int (by rw [HC.out]), Aft.off F0.out x2⟩
end Go.Proofs.Ytnafllhgjidbkaa
