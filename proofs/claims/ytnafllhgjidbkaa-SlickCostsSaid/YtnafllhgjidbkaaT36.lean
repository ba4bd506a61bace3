/- Before; one part of oil in a cell; the reference's Before. -/
import Derived.Test.YtnafllhgjidbkaaT35
import Derived.Test.YtnafllhgjidbkaaT31
import Derived.Test.YtnafllhgjidbkaaM3
namespace Go.Proofs.Ytnafllhgjidbkaa
open Go.RowKit Go.Shelf
set_option linter.unusedVariables false
set_option linter.unusedSimpArgs false
noncomputable def befE (B : Bay) (l : List Int) (n : Int) : Int := if validB B = true then (if priceB B l = true ∧ 0 ≤ n ∧ n ≤ 5 then 0 else 2) else 20
noncomputable def befL (B : Bay) (l : List Int) (n : Int) : List Int := if befE B l n = 0 then bN B l n.toNat else []
theorem befE_no {B : Bay} {l : List Int} {n : Int} {E : Int} (h : befE B l n = E) (h0 : E ≠ 0) : befL B l n = [] := by unfold befL; rw [h, if_neg h0]
theorem befE_20 {B : Bay} {l : List Int} {n : Int} (h : ¬ validP B) : befE B l n = 20 := by unfold befE; rw [if_neg (by rw [validB_false h]; simp)]
theorem befE_2 {B : Bay} {l : List Int} {n : Int} (h : validP B) (h2 : ¬ (priceP B l ∧ 0 ≤ n ∧ n ≤ 5)) : befE B l n = 2 := by
  unfold befE; rw [if_pos (validB_true h), if_neg]
  rintro ⟨a, b⟩; exact h2 ⟨Classical.byContradiction (fun hn => by rw [priceB_false hn] at a; cases a), b⟩
theorem befE_0 {B : Bay} {l : List Int} {n : Nat} (h : validP B) (h2 : priceP B l) (h5 : n ≤ 5) : befE B l n = 0 ∧ befL B l n = bN B l n := by
  have e : befE B l n = 0 := by unfold befE; rw [if_pos (validB_true h), if_pos ⟨priceB_true h2, by omega, by omega⟩]
  exact ⟨e, by unfold befL; rw [if_pos e, Int.toNat_natCast]⟩
theorem price_bd {B : Bay} {l : List Int} (h2 : priceP B l) : ∀ j, 0 ≤ l.getD j 0 ∧ l.getD j 0 ≤ 1000 := by
  intro j
  by_cases h : j < l.length
  · exact amt_range h2.2 j h
  · rw [List.getD_eq_getElem?_getD, List.getElem?_eq_none (by omega)]; simp
def Lst2 (w : World) (L : List Int) (E : Int) (e : Ending) (w' : World) : Prop := ∃ ao c, e = .returned (.tuple #[.slice ao L.length c, .int .i64 E]) ∧ IntsAt w' ao L ∧ (∀ a, ao = some a → w.heap.size ≤ a.block) ∧ Below w.heap.size w w'
theorem ret_si {a a' : Option Addr} {m m' c c' : Nat} {k : IntKind} {x y : Int} (h1 : a = a') (h2 : m = m') (h3 : c = c') (h4 : x = y) : Ending.returned (.tuple #[.slice a m c, .int k x]) = .returned (.tuple #[.slice a' m' c', .int k y]) := by rw [h1, h2, h3, h4]

set_option maxRecDepth 100000 in
set_option maxHeartbeats 1000000 in
theorem Before_any (v : Value) (B : Bay) (po : Option Addr) (pc : Nat) (l : List Int) (n : Int) (w : World) (hv : BayAt w v B) (hp : IntsAt w po l) (hn : l.length ≤ 1000) (hnn : -9223372036854775808 ≤ n ∧ n ≤ 9223372036854775807) :
    Calls Try.prog 46 #[v, .slice po l.length pc, .int .i64 n] w (Lst2 w (befL B l n) (befE B l n)) := by
  have HV := Lib.hid (fun W (h : Below w.heap.size w W) => hv.below (Nat.le_refl _) h)
  have HP := Lib.hid (fun W (h : Below w.heap.size w W) => hp.below (Nat.le_refl _) h)
  obtain ⟨la, lc, sa, sc, rfl, hl, hsh, hll, hsl⟩ := hv
  clear hl hsh hp
  have FF := Lib.hid (one_new (w := w) #[.int .i64 B.W, .int .i64 B.H, .slice la B.Land.length lc, .slice sa B.Share.length sc] 25)
  by_cases hval : validP B
  case neg =>
    have e1 := befE_20 (l := l) (n := n) hval
    have e2 := befE_no e1 (by decide)
    have hc := fun W h => valid_any _ B W (HV.out W h)
    rw [validB_false hval] at hc
    have E1 := Lib.hid e1
    have E2 := Lib.hid e2
    have HC := Lib.hid hc
    clear e1 e2 hc
    clear hval
    go_enter Try.func46, Try.ntmps46
    go_wp2_with fail
    generalize hW : (w.alloc _) = W at *
    clear hW
    obtain ⟨f0, f1, f2⟩ := FF.out
    clear FF
    obtain ⟨x0, hx0⟩ : ∃ x : Aft W, x.val = W := ⟨⟨W, Below.refl _ W⟩, rfl⟩
    have F0 : Hid (Below w.heap.size w W) := f0
    have FZ : Hid (W.heap.size = w.heap.size + 1) := f1
    have FZ0 := Lib.hid (show x0.val.heap.size = w.heap.size + 1 by rw [hx0]; exact f1)
    have G0 : Hid (W.heap[w.heap.size]? = some (.cells #[.int .i64 B.W, .int .i64 B.H, .slice la B.Land.length lc, .slice sa B.Share.length sc] 25 (0, 0))) := f2
    have d0_0 : ∀ x : Aft W, x.val.cell? ⟨w.heap.size, 0, none⟩ = some (.int .i64 B.W) := fun x => cell_of_heap (x.heapH f2) 0
    have d0_1 : ∀ x : Aft W, x.val.cell? ⟨w.heap.size, 1, none⟩ = some (.int .i64 B.H) := fun x => cell_of_heap (x.heapH f2) 1
    have d0_2 : ∀ x : Aft W, x.val.cell? ⟨w.heap.size, 2, none⟩ = some (.slice la B.Land.length lc) := fun x => cell_of_heap (x.heapH f2) 2
    have d0_3 : ∀ x : Aft W, x.val.cell? ⟨w.heap.size, 3, none⟩ = some (.slice sa B.Share.length sc) := fun x => cell_of_heap (x.heapH f2) 3
    rw [← hx0]
    clear hx0 f0 f1 f2
    refine (HC.out _ (Aft.off F0.out x0)).mono ?_
    rintro e w1 ⟨rfl, hb⟩
    obtain ⟨x1, rfl, lk0'⟩ := x0.step (hb)
    have lk0 := Lib.hid lk0'
    clear hb lk0'
    go_wp2
    go_ret2
    exact ⟨none, 0, ret_si rfl (by rw [E2.out]; rfl) rfl E1.out.symm, by rw [E2.out]; exact fun h => absurd rfl h, fun a ha => by (cases ha), Aft.off F0.out x1⟩
  have hc := fun W h => valid_any _ B W (HV.out W h)
  rw [validB_true hval] at hc
  have hc2 := fun W h => priced_any _ B po pc l W (HV.out W h) (HP.out W h) hn hval
  by_cases hpr : priceP B l
  · rw [priceB_true hpr] at hc2
    by_cases hr : 0 ≤ n ∧ n ≤ 5
    · obtain ⟨m, rfl⟩ : ∃ m : Nat, n = m := ⟨n.toNat, by omega⟩
      obtain ⟨e1, e2⟩ := befE_0 (n := m) hval hpr (by omega)
      have hN : l.length = B.Share.length + 1 := by have := hpr.1; have := hval.2.2.2.1; omega
      have hc3 := fun W h => before_any _ B po pc l B.Share.length m W (HV.out W h) (HP.out W h) hval hN rfl (by omega) (price_bd hpr)
      have hbt : betwB 0 (m : Int) 5 = true := by unfold betwB; exact decide_eq_true hr
      have HLEN := Lib.hid ((bN_len B l m).trans hN)
      rw [← hN] at hc3
      have E1 := Lib.hid e1
      have E2 := Lib.hid e2
      have HC := Lib.hid hc
      have HC2 := Lib.hid hc2
      have HC3 := Lib.hid hc3
      have HN := Lib.hid hN
      clear e1 e2 hc hc2 hc3 hN
      clear hval hpr
      go_enter Try.func46, Try.ntmps46
      go_wp2_with fail
      generalize hW : (w.alloc _) = W at *
      clear hW
      obtain ⟨f0, f1, f2⟩ := FF.out
      clear FF
      obtain ⟨x0, hx0⟩ : ∃ x : Aft W, x.val = W := ⟨⟨W, Below.refl _ W⟩, rfl⟩
      have F0 : Hid (Below w.heap.size w W) := f0
      have FZ : Hid (W.heap.size = w.heap.size + 1) := f1
      have FZ0 := Lib.hid (show x0.val.heap.size = w.heap.size + 1 by rw [hx0]; exact f1)
      have G0 : Hid (W.heap[w.heap.size]? = some (.cells #[.int .i64 B.W, .int .i64 B.H, .slice la B.Land.length lc, .slice sa B.Share.length sc] 25 (0, 0))) := f2
      have d0_0 : ∀ x : Aft W, x.val.cell? ⟨w.heap.size, 0, none⟩ = some (.int .i64 B.W) := fun x => cell_of_heap (x.heapH f2) 0
      have d0_1 : ∀ x : Aft W, x.val.cell? ⟨w.heap.size, 1, none⟩ = some (.int .i64 B.H) := fun x => cell_of_heap (x.heapH f2) 1
      have d0_2 : ∀ x : Aft W, x.val.cell? ⟨w.heap.size, 2, none⟩ = some (.slice la B.Land.length lc) := fun x => cell_of_heap (x.heapH f2) 2
      have d0_3 : ∀ x : Aft W, x.val.cell? ⟨w.heap.size, 3, none⟩ = some (.slice sa B.Share.length sc) := fun x => cell_of_heap (x.heapH f2) 3
      rw [← hx0]
      clear hx0 f0 f1 f2
      refine (HC.out _ (Aft.off F0.out x0)).mono ?_
      rintro e w1 ⟨rfl, hb⟩
      obtain ⟨x1, rfl, lk0'⟩ := x0.step (hb)
      have lk0 := Lib.hid lk0'
      clear hb lk0'
      go_wp2_with fail
      refine (HC2.out _ (Aft.off F0.out x1)).mono ?_
      rintro e w1 ⟨rfl, hb⟩
      obtain ⟨x2, rfl, lk1'⟩ := x1.step (hb)
      have lk1 := Lib.hid lk1'
      clear hb lk1'
      go_wp2_with (first | (go_at_call 60; refine (between_any _ _ _ _).mono ?_; rintro e w' ⟨rfl, rfl⟩))
      refine (HC3.out _ (Aft.off F0.out x2)).mono ?_
      rintro e w3 ⟨ao, c3, rfl, hi, hf, hb⟩
      obtain ⟨x3, rfl, lk2⟩ := x2.step hb
      have HI := Lib.hid hi
      have HF := Lib.hid hf
      have LK := Lib.hid lk2
      clear hi hf lk2
      clear hb
      go_wp2
      go_ret2
      refine ⟨ao, c3, ret_si rfl (by rw [E2.out, HN.out, HLEN.out]) rfl E1.out.symm, by rw [E2.out]; exact HI.out, fun a ha => ?_, Aft.off F0.out x3⟩
      have := HF.out a ha; have := (Aft.off F0.out x2).size; omega
    · have e1 := befE_2 (l := l) (n := n) hval (fun h => hr h.2)
      have e2 := befE_no e1 (by decide)
      have hbt : betwB 0 n 5 = false := by unfold betwB; exact decide_eq_false hr
      have E1 := Lib.hid e1
      have E2 := Lib.hid e2
      have HC := Lib.hid hc
      have HC2 := Lib.hid hc2
      clear e1 e2 hc hc2
      clear hval hpr hr
      go_enter Try.func46, Try.ntmps46
      go_wp2_with fail
      generalize hW : (w.alloc _) = W at *
      clear hW
      obtain ⟨f0, f1, f2⟩ := FF.out
      clear FF
      obtain ⟨x0, hx0⟩ : ∃ x : Aft W, x.val = W := ⟨⟨W, Below.refl _ W⟩, rfl⟩
      have F0 : Hid (Below w.heap.size w W) := f0
      have FZ : Hid (W.heap.size = w.heap.size + 1) := f1
      have FZ0 := Lib.hid (show x0.val.heap.size = w.heap.size + 1 by rw [hx0]; exact f1)
      have G0 : Hid (W.heap[w.heap.size]? = some (.cells #[.int .i64 B.W, .int .i64 B.H, .slice la B.Land.length lc, .slice sa B.Share.length sc] 25 (0, 0))) := f2
      have d0_0 : ∀ x : Aft W, x.val.cell? ⟨w.heap.size, 0, none⟩ = some (.int .i64 B.W) := fun x => cell_of_heap (x.heapH f2) 0
      have d0_1 : ∀ x : Aft W, x.val.cell? ⟨w.heap.size, 1, none⟩ = some (.int .i64 B.H) := fun x => cell_of_heap (x.heapH f2) 1
      have d0_2 : ∀ x : Aft W, x.val.cell? ⟨w.heap.size, 2, none⟩ = some (.slice la B.Land.length lc) := fun x => cell_of_heap (x.heapH f2) 2
      have d0_3 : ∀ x : Aft W, x.val.cell? ⟨w.heap.size, 3, none⟩ = some (.slice sa B.Share.length sc) := fun x => cell_of_heap (x.heapH f2) 3
      rw [← hx0]
      clear hx0 f0 f1 f2
      refine (HC.out _ (Aft.off F0.out x0)).mono ?_
      rintro e w1 ⟨rfl, hb⟩
      obtain ⟨x1, rfl, lk0'⟩ := x0.step (hb)
      have lk0 := Lib.hid lk0'
      clear hb lk0'
      go_wp2_with fail
      refine (HC2.out _ (Aft.off F0.out x1)).mono ?_
      rintro e w1 ⟨rfl, hb⟩
      obtain ⟨x2, rfl, lk1'⟩ := x1.step (hb)
      have lk1 := Lib.hid lk1'
      clear hb lk1'
      go_wp2_with (first | (go_at_call 60; refine (between_any _ _ _ _).mono ?_; rintro e w' ⟨rfl, rfl⟩))
      go_ret2
      exact ⟨none, 0, ret_si rfl (by rw [E2.out]; rfl) rfl E1.out.symm, by rw [E2.out]; exact fun h => absurd rfl h, fun a ha => by (cases ha), Aft.off F0.out x2⟩
  · rw [priceB_false hpr] at hc2
    have e1 := befE_2 (l := l) (n := n) hval (fun h => hpr h.1)
    have e2 := befE_no e1 (by decide)
    have E1 := Lib.hid e1
    have E2 := Lib.hid e2
    have HC := Lib.hid hc
    have HC2 := Lib.hid hc2
    clear e1 e2 hc hc2
    clear hval hpr
    go_enter Try.func46, Try.ntmps46
    go_wp2_with fail
    generalize hW : (w.alloc _) = W at *
    clear hW
    obtain ⟨f0, f1, f2⟩ := FF.out
    clear FF
    obtain ⟨x0, hx0⟩ : ∃ x : Aft W, x.val = W := ⟨⟨W, Below.refl _ W⟩, rfl⟩
    have F0 : Hid (Below w.heap.size w W) := f0
    have FZ : Hid (W.heap.size = w.heap.size + 1) := f1
    have FZ0 := Lib.hid (show x0.val.heap.size = w.heap.size + 1 by rw [hx0]; exact f1)
    have G0 : Hid (W.heap[w.heap.size]? = some (.cells #[.int .i64 B.W, .int .i64 B.H, .slice la B.Land.length lc, .slice sa B.Share.length sc] 25 (0, 0))) := f2
    have d0_0 : ∀ x : Aft W, x.val.cell? ⟨w.heap.size, 0, none⟩ = some (.int .i64 B.W) := fun x => cell_of_heap (x.heapH f2) 0
    have d0_1 : ∀ x : Aft W, x.val.cell? ⟨w.heap.size, 1, none⟩ = some (.int .i64 B.H) := fun x => cell_of_heap (x.heapH f2) 1
    have d0_2 : ∀ x : Aft W, x.val.cell? ⟨w.heap.size, 2, none⟩ = some (.slice la B.Land.length lc) := fun x => cell_of_heap (x.heapH f2) 2
    have d0_3 : ∀ x : Aft W, x.val.cell? ⟨w.heap.size, 3, none⟩ = some (.slice sa B.Share.length sc) := fun x => cell_of_heap (x.heapH f2) 3
    rw [← hx0]
    clear hx0 f0 f1 f2
    refine (HC.out _ (Aft.off F0.out x0)).mono ?_
    rintro e w1 ⟨rfl, hb⟩
    obtain ⟨x1, rfl, lk0'⟩ := x0.step (hb)
    have lk0 := Lib.hid lk0'
    clear hb lk0'
    go_wp2_with fail
    refine (HC2.out _ (Aft.off F0.out x1)).mono ?_
    rintro e w1 ⟨rfl, hb⟩
    obtain ⟨x2, rfl, lk1'⟩ := x1.step (hb)
    have lk1 := Lib.hid lk1'
    clear hb lk1'
    go_wp2
    go_ret2
    exact ⟨none, 0, ret_si rfl (by rw [E2.out]; rfl) rfl E1.out.symm, by rw [E2.out]; exact fun h => absurd rfl h, fun a ha => by (cases ha), Aft.off F0.out x2⟩
end Go.Proofs.Ytnafllhgjidbkaa
