/- The reference's Before. -/
import Derived.Test.YtnafllhgjidbkaaT27
import Derived.Test.YtnafllhgjidbkaaT37
import Derived.Deep.RegionHeld3
import Derived.Deep.AppendLies
namespace Go.Proofs.Ytnafllhgjidbkaa
open Go.RowKit Go.Shelf
set_option linter.unusedVariables false
set_option linter.unusedSimpArgs false
theorem Aft.stepd {W w1 : World} (x : Aft W) (hb : Below x.val.drew.heap.size x.val.drew w1) : ∃ y : Aft W, y.val = w1 ∧ Below x.val.heap.size x.val y.val := by
  have h : Below x.val.heap.size x.val w1 := ((Below.refl x.val.heap.size x.val).drew).trans hb
  exact x.step h
theorem own_below {w w' : World} {base e sz n : Nat} {v : Value} {xs : List Value} (h : w.ownsRow base e sz v n xs) (hb : Below w.heap.size w w') : w'.ownsRow base e sz v n xs := by
  obtain ⟨h1, h2 | ⟨g, cap, cur, hv, hb', hh, hn, hm, hs, ht⟩⟩ := h
  · exact ⟨h1, .inl h2⟩
  · exact ⟨h1, .inr ⟨g, cap, cur, hv, hb', (hb.block g (heap_lt hh)).trans hh, hn, hm, hs, ht⟩⟩
theorem own_block {w : World} {base e sz n : Nat} {v : Value} {xs : List Value} (h : w.ownsRow base e sz v n xs) : ∀ k, v.ownBlock = some k → base ≤ k := by
  obtain ⟨h1, ⟨rfl, _⟩ | ⟨g, cap, cur, rfl, hb', _⟩⟩ := h
  · intro k hk; cases hk
  · intro k hk; cases hk; exact hb'
def upL (L : List Int) (k : Nat) : List Int := L.take k
theorem upL_succ {L : List Int} {k : Nat} (h : k < L.length) : (upL L k).map (Value.int .i64) ++ [.int .i64 (L.getD k 0)] = (upL L (k + 1)).map (Value.int .i64) := by
  unfold upL
  rw [List.take_succ_eq_append_getElem h, List.map_append]; simp [List.getD_eq_getElem?_getD, h, -List.map_take]

set_option maxRecDepth 100000 in
set_option maxHeartbeats 4000000 in
theorem rBefore_any (v : Value) (B : Bay) (po : Option Addr) (pc : Nat) (l : List Int) (n : Int) (w : World) (hv : BayAt w v B) (hp : IntsAt w po l) (hn : l.length ≤ 1000) (hnn : -9223372036854775808 ≤ n ∧ n ≤ 9223372036854775807) :
    Calls Try.prog 49 #[v, .slice po l.length pc, .int .i64 n] w (Lst2 w (befL B l n) (befE B l n)) := by
  have HV := Lib.hid (fun W (h : Below w.heap.size w W) => hv.below (Nat.le_refl _) h)
  have HP := Lib.hid (fun W (h : Below w.heap.size w W) => hp.below (Nat.le_refl _) h)
  obtain ⟨la, lc, sa, sc, rfl, hl, hsh, hll, hsl⟩ := hv
  clear hl hsh hp
  have FF := Lib.hid (one_new (w := w) #[.int .i64 B.W, .int .i64 B.H, .slice la B.Land.length lc, .slice sa B.Share.length sc] 25)
  by_cases hval : validP B
  case neg =>
    have e1 := befE_20 (l := l) (n := n) hval
    have e2 := befE_no e1 (by decide)
    have hc := fun W h => rvalid_any _ B W (HV.out W h)
    rw [validB_false hval] at hc
    have E1 := Lib.hid e1
    have E2 := Lib.hid e2
    have HC := Lib.hid hc
    clear e1 e2 hc
    clear hval
    go_enter Try.func49, Try.ntmps49
    go_wp2_with fail
    generalize hW : (w.alloc _) = W at *
    clear hW
    obtain ⟨f0, f1, f2⟩ := FF.out
    clear FF
    obtain ⟨x0, hx0⟩ : ∃ x : Aft W, x.val = W := ⟨⟨W, Below.refl _ W⟩, rfl⟩
    have F0 : Hid (Below w.heap.size w W) := f0
    have FZ : Hid (W.heap.size = w.heap.size + 1) := f1
    have FZ0 := Lib.hid (show x0.val.heap.size = w.heap.size + 1 by rw [hx0]; exact f1)
    have G0 : Hid (W.heap[w.heap.size]? = some (.cells #[.int .i64 B.W, .int .i64 B.H, .slice la B.Land.length lc, .slice sa B.Share.length sc] 25 (0, 0))) := f2
    have d0_0 : ∀ x : Aft W, x.val.cell? ⟨w.heap.size, 0, none⟩ = some (.int .i64 B.W) := fun x => cell_of_heap (x.heapH f2) 0
    have d0_1 : ∀ x : Aft W, x.val.cell? ⟨w.heap.size, 1, none⟩ = some (.int .i64 B.H) := fun x => cell_of_heap (x.heapH f2) 1
    have d0_2 : ∀ x : Aft W, x.val.cell? ⟨w.heap.size, 2, none⟩ = some (.slice la B.Land.length lc) := fun x => cell_of_heap (x.heapH f2) 2
    have d0_3 : ∀ x : Aft W, x.val.cell? ⟨w.heap.size, 3, none⟩ = some (.slice sa B.Share.length sc) := fun x => cell_of_heap (x.heapH f2) 3
    rw [← hx0]
    clear hx0 f0 f1 f2
    refine (HC.out _ (Aft.off F0.out x0)).mono ?_
    rintro e w1 ⟨rfl, hb⟩
    obtain ⟨x1, rfl, lk0'⟩ := x0.step (hb)
    have lk0 := Lib.hid lk0'
    clear hb lk0'
    go_wp2
    go_ret2
    exact ⟨none, 0, ret_si rfl (by rw [E2.out]; rfl) rfl E1.out.symm, by rw [E2.out]; exact fun h => absurd rfl h, fun a ha => by (cases ha), Aft.off F0.out x1⟩
  have hc := fun W h => rvalid_any _ B W (HV.out W h)
  rw [validB_true hval] at hc
  have hc2 := fun W h => arePrices_any _ B po pc l W (HV.out W h) (HP.out W h) hn hval
  by_cases hpr : priceP B l
  case neg =>
    rw [priceB_false hpr] at hc2
    have e1 := befE_2 (l := l) (n := n) hval (fun h => hpr h.1)
    have e2 := befE_no e1 (by decide)
    have E1 := Lib.hid e1
    have E2 := Lib.hid e2
    have HC := Lib.hid hc
    have HC2 := Lib.hid hc2
    clear e1 e2 hc hc2
    clear hval hpr
    go_enter Try.func49, Try.ntmps49
    go_wp2_with fail
    generalize hW : (w.alloc _) = W at *
    clear hW
    obtain ⟨f0, f1, f2⟩ := FF.out
    clear FF
    obtain ⟨x0, hx0⟩ : ∃ x : Aft W, x.val = W := ⟨⟨W, Below.refl _ W⟩, rfl⟩
    have F0 : Hid (Below w.heap.size w W) := f0
    have FZ : Hid (W.heap.size = w.heap.size + 1) := f1
    have FZ0 := Lib.hid (show x0.val.heap.size = w.heap.size + 1 by rw [hx0]; exact f1)
    have G0 : Hid (W.heap[w.heap.size]? = some (.cells #[.int .i64 B.W, .int .i64 B.H, .slice la B.Land.length lc, .slice sa B.Share.length sc] 25 (0, 0))) := f2
    have d0_0 : ∀ x : Aft W, x.val.cell? ⟨w.heap.size, 0, none⟩ = some (.int .i64 B.W) := fun x => cell_of_heap (x.heapH f2) 0
    have d0_1 : ∀ x : Aft W, x.val.cell? ⟨w.heap.size, 1, none⟩ = some (.int .i64 B.H) := fun x => cell_of_heap (x.heapH f2) 1
    have d0_2 : ∀ x : Aft W, x.val.cell? ⟨w.heap.size, 2, none⟩ = some (.slice la B.Land.length lc) := fun x => cell_of_heap (x.heapH f2) 2
    have d0_3 : ∀ x : Aft W, x.val.cell? ⟨w.heap.size, 3, none⟩ = some (.slice sa B.Share.length sc) := fun x => cell_of_heap (x.heapH f2) 3
    rw [← hx0]
    clear hx0 f0 f1 f2
    refine (HC.out _ (Aft.off F0.out x0)).mono ?_
    rintro e w1 ⟨rfl, hb⟩
    obtain ⟨x1, rfl, lk0'⟩ := x0.step (hb)
    have lk0 := Lib.hid lk0'
    clear hb lk0'
    go_wp2_with fail
    refine (HC2.out _ (Aft.off F0.out x1)).mono ?_
    rintro e w1 ⟨rfl, hb⟩
    obtain ⟨x2, rfl, lk1'⟩ := x1.step (hb)
    have lk1 := Lib.hid lk1'
    clear hb lk1'
    go_wp2
    go_ret2
    exact ⟨none, 0, ret_si rfl (by rw [E2.out]; rfl) rfl E1.out.symm, by rw [E2.out]; exact fun h => absurd rfl h, fun a ha => by (cases ha), Aft.off F0.out x2⟩
  rw [priceB_true hpr] at hc2
  by_cases hr : 0 ≤ n ∧ n ≤ 5
  case neg =>
    have e1 := befE_2 (l := l) (n := n) hval (fun h => hr h.2)
    have e2 := befE_no e1 (by decide)
    have hr' : n < 0 ∨ 5 < n := by omega
    have E1 := Lib.hid e1
    have E2 := Lib.hid e2
    have HC := Lib.hid hc
    have HC2 := Lib.hid hc2
    clear e1 e2 hc hc2
    clear hval hpr hr
    rcases hr' with hr | hr
    all_goals
      go_enter Try.func49, Try.ntmps49
      go_wp2_with fail
      generalize hW : (w.alloc _) = W at *
      clear hW
      obtain ⟨f0, f1, f2⟩ := FF.out
      clear FF
      obtain ⟨x0, hx0⟩ : ∃ x : Aft W, x.val = W := ⟨⟨W, Below.refl _ W⟩, rfl⟩
      have F0 : Hid (Below w.heap.size w W) := f0
      have FZ : Hid (W.heap.size = w.heap.size + 1) := f1
      have FZ0 := Lib.hid (show x0.val.heap.size = w.heap.size + 1 by rw [hx0]; exact f1)
      have G0 : Hid (W.heap[w.heap.size]? = some (.cells #[.int .i64 B.W, .int .i64 B.H, .slice la B.Land.length lc, .slice sa B.Share.length sc] 25 (0, 0))) := f2
      have d0_0 : ∀ x : Aft W, x.val.cell? ⟨w.heap.size, 0, none⟩ = some (.int .i64 B.W) := fun x => cell_of_heap (x.heapH f2) 0
      have d0_1 : ∀ x : Aft W, x.val.cell? ⟨w.heap.size, 1, none⟩ = some (.int .i64 B.H) := fun x => cell_of_heap (x.heapH f2) 1
      have d0_2 : ∀ x : Aft W, x.val.cell? ⟨w.heap.size, 2, none⟩ = some (.slice la B.Land.length lc) := fun x => cell_of_heap (x.heapH f2) 2
      have d0_3 : ∀ x : Aft W, x.val.cell? ⟨w.heap.size, 3, none⟩ = some (.slice sa B.Share.length sc) := fun x => cell_of_heap (x.heapH f2) 3
      rw [← hx0]
      clear hx0 f0 f1 f2
      refine (HC.out _ (Aft.off F0.out x0)).mono ?_
      rintro e w1 ⟨rfl, hb⟩
      obtain ⟨x1, rfl, lk0'⟩ := x0.step (hb)
      have lk0 := Lib.hid lk0'
      clear hb lk0'
      go_wp2_with fail
      refine (HC2.out _ (Aft.off F0.out x1)).mono ?_
      rintro e w1 ⟨rfl, hb⟩
      obtain ⟨x2, rfl, lk1'⟩ := x1.step (hb)
      have lk1 := Lib.hid lk1'
      clear hb lk1'
      go_wp2
      go_ret2
      exact ⟨none, 0, ret_si rfl (by rw [E2.out]; rfl) rfl E1.out.symm, by rw [E2.out]; exact fun h => absurd rfl h, fun a ha => by (cases ha), Aft.off F0.out x2⟩
  obtain ⟨m, rfl⟩ : ∃ m : Nat, n = m := ⟨n.toNat, by omega⟩
  obtain ⟨e1, e2⟩ := befE_0 (n := m) hval hpr (by omega)
  have hN : l.length = B.Share.length + 1 := by have := hpr.1; have := hval.2.2.2.1; omega
  have hWH := hval.2.2.2.1
  obtain ⟨hp1, hp2⟩ := mul36 hval.1.1 hval.1.2 hval.2.1.1 hval.2.1.2
  have HBL := Lib.hid ((bN_len B l m).trans hN)
  have HONE := Lib.hid (fun i (hi : i ≤ B.Share.length) => (show costZ (mvN B (oneS B i) m) l = (bN B l m).getD i 0 from (adjN hval (oneS_len B i) m l (by rw [oneS_len]; exact hN)).trans (oneS_cost hi)))
  have HVAL := Lib.hid hval
  have HPR := Lib.hid hpr
  have HWH := Lib.hid hWH
  have E1 := Lib.hid e1
  have E2 := Lib.hid e2
  have HC := Lib.hid hc
  have HC2 := Lib.hid hc2
  have HN := Lib.hid hN
  clear e1 e2 hc hc2 hN
  clear hval hpr hWH
  generalize bN B l m = L at *
  go_enter Try.func49, Try.ntmps49
  go_wp2_with fail
  generalize hW : (w.alloc _) = W at *
  clear hW
  obtain ⟨f0, f1, f2⟩ := FF.out
  clear FF
  obtain ⟨x0, hx0⟩ : ∃ x : Aft W, x.val = W := ⟨⟨W, Below.refl _ W⟩, rfl⟩
  have F0 : Hid (Below w.heap.size w W) := f0
  have FZ : Hid (W.heap.size = w.heap.size + 1) := f1
  have FZ0 := Lib.hid (show x0.val.heap.size = w.heap.size + 1 by rw [hx0]; exact f1)
  have G0 : Hid (W.heap[w.heap.size]? = some (.cells #[.int .i64 B.W, .int .i64 B.H, .slice la B.Land.length lc, .slice sa B.Share.length sc] 25 (0, 0))) := f2
  have d0_0 : ∀ x : Aft W, x.val.cell? ⟨w.heap.size, 0, none⟩ = some (.int .i64 B.W) := fun x => cell_of_heap (x.heapH f2) 0
  have d0_1 : ∀ x : Aft W, x.val.cell? ⟨w.heap.size, 1, none⟩ = some (.int .i64 B.H) := fun x => cell_of_heap (x.heapH f2) 1
  have d0_2 : ∀ x : Aft W, x.val.cell? ⟨w.heap.size, 2, none⟩ = some (.slice la B.Land.length lc) := fun x => cell_of_heap (x.heapH f2) 2
  have d0_3 : ∀ x : Aft W, x.val.cell? ⟨w.heap.size, 3, none⟩ = some (.slice sa B.Share.length sc) := fun x => cell_of_heap (x.heapH f2) 3
  have e0_0 : ∀ (x : Aft W) (o : Obj), (x.val.alloc o).cell? ⟨w.heap.size, 0, none⟩ = some (.int .i64 B.W) := fun x o => cell_of_heap (heap_alloc_old (x.heapH f2) o) 0
  have e0_1 : ∀ (x : Aft W) (o : Obj), (x.val.alloc o).cell? ⟨w.heap.size, 1, none⟩ = some (.int .i64 B.H) := fun x o => cell_of_heap (heap_alloc_old (x.heapH f2) o) 1
  have e0_2 : ∀ (x : Aft W) (o : Obj), (x.val.alloc o).cell? ⟨w.heap.size, 2, none⟩ = some (.slice la B.Land.length lc) := fun x o => cell_of_heap (heap_alloc_old (x.heapH f2) o) 2
  have e0_3 : ∀ (x : Aft W) (o : Obj), (x.val.alloc o).cell? ⟨w.heap.size, 3, none⟩ = some (.slice sa B.Share.length sc) := fun x o => cell_of_heap (heap_alloc_old (x.heapH f2) o) 3
  rw [← hx0]
  clear hx0 f0 f1 f2
  refine (HC.out _ (Aft.off F0.out x0)).mono ?_
  rintro e w1 ⟨rfl, hb⟩
  obtain ⟨x1, rfl, lk0'⟩ := x0.step (hb)
  have lk0 := Lib.hid lk0'
  clear hb lk0'
  go_wp2_with fail
  refine (HC2.out _ (Aft.off F0.out x1)).mono ?_
  rintro e w1 ⟨rfl, hb⟩
  obtain ⟨x2, rfl, lk1'⟩ := x1.step (hb)
  have lk1 := Lib.hid lk1'
  clear hb lk1'
  go_wp2_with fail
  go_loopw [8, 9] (fun v i wr => ∃ (k : Nat) (x : Aft W), wr = x.val ∧ k ≤ B.Share.length + 1 ∧ i = .int .i64 k ∧ x.val.ownsRow (w.heap.size + 1) 3 1 v k ((upL L k).map (Value.int .i64))) (fun _ i _ => B.Share.length + 1 - (intOf i).toNat)
  case atStart => exact ⟨0, x2, rfl, by omega, rfl, by simp [upL]; exact World.ownsRow_nil _ _ _ _⟩
  case round =>
    obtain ⟨k, x3, rfl, hk, rfl, hown⟩ := hrel
    have HOWN := Lib.hid hown
    clear hown
    by_cases hlt : k ≤ B.Share.length
    · have hle : (k : Int) ≤ B.W * B.H := by have := HWH.out; omega
      obtain ⟨q1, q2, q3⟩ := cost_bd (mvN_fits HVAL.out (oneS_fits HVAL.out hlt) m (by show (oneS B k).K + _ ≤ 5; unfold oneS; split <;> (simp; omega))) HPR.out
      have Q3 := Lib.hid q3
      have Q1 := Lib.hid q1
      have hq100 : (mvN B (oneS B k) m).Oil.length ≤ 100 := by rw [mvN_len, oneS_len]; omega
      have HONEK := Lib.hid (HONE.out k hlt)
      have HSUC := Lib.hid (upL_succ (L := L) (k := k) (by have := HBL.out; omega))
      have hKK : (oneS B k).K + m ≤ 5 := by unfold oneS; split <;> (simp; omega)
      obtain ⟨i0, hi0, hz0, hz1, hz2⟩ := info_parts info3
      have hh3 := x3.size_le
      have HX3 := Lib.hid x3.bel
      have HHK := Lib.hid hlt
      clear q1 q3
      go_wp2_with fail
      go_region_held3 (fun w' => w'.cell? ⟨w.heap.size, 0, none⟩ = some (.int .i64 B.W) ∧ w'.cell? ⟨w.heap.size, 1, none⟩ = some (.int .i64 B.H) ∧ w'.cell? ⟨w.heap.size, 2, none⟩ = some (.slice la B.Land.length lc) ∧ w'.cell? ⟨w.heap.size, 3, none⟩ = some (.slice sa B.Share.length sc)) (first | (with_reducible exact ⟨d0_0 y4, d0_1 y4, d0_2 y4, d0_3 y4⟩) | (with_reducible exact ⟨e0_0 y3 _, e0_1 y3 _, e0_2 y3 _, e0_3 y3 _⟩) | (with_reducible exact ⟨d0_0 y3, d0_1 y3, d0_2 y3, d0_3 y3⟩) | (with_reducible exact ⟨d0_0 y2, d0_1 y2, d0_2 y2, d0_3 y2⟩) | (with_reducible exact ⟨d0_0 y1, d0_1 y1, d0_2 y1, d0_3 y1⟩) | go_keep) (first | (go_at_call 58; refine (One_any _ B k _ (HV.out _ (Aft.off F0.out x3).drew) HVAL.out HHK.out).mono ?_; rintro e w5 ⟨rv, rfl, ⟨a5, c5, rfl, hi5, hn5, hf5⟩, hb5⟩; obtain ⟨y1, rfl, ly1⟩ := x3.stepd hb5; have I5 := Lib.hid hi5; have LY1 := Lib.hid ly1; clear hb5 hf5 hi5 ly1) | (go_at_call 63; refine (rafter_any _ _ B (oneS B k) m _ (HV.out _ (Aft.off F0.out y1)) ⟨a5, c5, rfl, I5.out, hn5⟩ HVAL.out (oneS_fits HVAL.out HHK.out) hKK).mono ?_; rintro e w6 ⟨rv, rfl, ⟨a6, c6, rfl, hi6, hn6⟩, hb6⟩; obtain ⟨y2, rfl, ly2⟩ := y1.step hb6; have I6 := Lib.hid hi6; have LY2 := Lib.hid ly2; clear hb6 hi6 ly2) | (go_at_call 47; refine (Priced_any a6 po c6 pc (mvN B (oneS B k) m) l _ I6.out (HP.out _ (Aft.off F0.out y2)) Q1.out hq100 (by omega) (fun j hj => by have := Q3.out j hj; omega)).mono ?_; rintro e w7 ⟨rfl, hb7⟩; obtain ⟨y3, rfl, ly3⟩ := y2.step hb7; have LY3 := Lib.hid ly3; have LL := Lib.hid (Below.link (Below.link LY1.out LY2.out) ly3); rw [HONEK.out]; clear hb7 ly3) | (refine step_append_lies _ (by rfl) _ _ _ (by rfl) (w.heap.size + 1) 3 i0 _ 1 8 Try.underlying26 hi0 hz0 hz1 hz2 rfl (by decide) _ k _ (by rfl) ((own_below HOWN.out LL.out).alloc _) ⟨y3.val.heap.size, 0, none⟩ 1 1 [.int .i64 (L.getD k 0)] (by rfl) (by rfl) (World.news_of_block (cs := #[.int .i64 (L.getD k 0)]) (t := 3) (fr := (0, 0)) (World.alloc_heap_new y3.val _)) (by simp [Value.oneCell']) (by omega) (by unfold maxLen; omega) (by omega) (by rw [World.size_alloc]; have := y3.size_le; have := FZ.out; omega) (y3.val.heap.size + 1) (World.size_alloc _ _) ?_; intro gg cap w8 hown8 hgrow hat hlt8; have hb8 : Below W.heap.size W w8 := (y3.bel.alloc y3.size_le _).grown hgrow (by rw [World.size_alloc]; have := y3.size_le; omega) (fun q e => by have := own_block HOWN.out q e; have := FZ.out; omega); obtain ⟨y4, rfl⟩ : ∃ y : Aft W, y.val = w8 := ⟨⟨w8, hb8⟩, rfl⟩; have OWN8 := Lib.hid hown8; clear hb8 hown8 hgrow hat))
      go_wp2_with fail
      go_roundw
      case rel =>
        refine ⟨k + 1, y4, rfl, by omega, by go_num, ?_⟩
        have h := OWN8.out
        rw [HSUC.out] at h
        exact h
      case measure => simp [intOf]; omega
    · have hge : ¬ ((k : Int) ≤ B.W * B.H) := by have := HWH.out; omega
      have hkL : k = L.length := by have := HBL.out; omega
      have hown := HOWN.out
      rw [hkL] at hown
      have hup : upL L L.length = L := by unfold upL; simp
      rw [hup] at hown
      obtain ⟨ao, c, rfl, hi, hf⟩ := own_ints hown
      have HI := Lib.hid hi
      have HF := Lib.hid hf
      clear hi hf
      clear hown hkL hup HOWN
      go_wp2
      go_ret2
      refine ⟨ao, c, ret_si rfl (by rw [E2.out]) rfl E1.out.symm, by rw [E2.out]; exact HI.out, fun a ha => ?_, Aft.off F0.out x3⟩
      have := HF.out a ha; omega
end Go.Proofs.Ytnafllhgjidbkaa
