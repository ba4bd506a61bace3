/- The reference's After and Move. -/
import Derived.Test.YtnafllhgjidbkaaA2
import Derived.Test.YtnafllhgjidbkaaT26
import Derived.Deep.Cut
namespace Go.Proofs.Ytnafllhgjidbkaa
open Go.RowKit Go.Shelf
set_option linter.unusedVariables false
set_option linter.unusedSimpArgs false
set_option maxRecDepth 100000 in
set_option maxHeartbeats 4000000 in
theorem rAfter_any (v sv : Value) (B : Bay) (s : Slk) (n : Int) (w : World) (hv : BayAt w v B) (hs : SlkAt w sv s) (hnn : -9223372036854775808 ≤ n ∧ n ≤ 9223372036854775807) :
    Calls Try.prog 21 #[v, sv, .int .i64 n] w (Aft3 w (aftS B s n) (aftE B s n)) := by
  have HV := Lib.hid (fun W (h : Below w.heap.size w W) => hv.below (Nat.le_refl _) h)
  have HS := Lib.hid (fun W (h : Below w.heap.size w W) => hs.below (Nat.le_refl _) h)
  obtain ⟨la, lc, sa, sc, rfl, hl, hsh, hll, hsl⟩ := hv
  obtain ⟨ao, c, rfl, hi, hn⟩ := hs
  clear hl hsh hi
  have FF := Lib.hid (three_new (w := w) #[.int .i64 B.W, .int .i64 B.H, .slice la B.Land.length lc, .slice sa B.Share.length sc] #[.int .i64 s.K, .slice ao s.Oil.length c, .int .i64 s.Away] #[.int .i64 0, .slice none 0 0, .int .i64 0] 25 28 28)
  go_enter Try.func21, Try.ntmps21
  go_wp2_with fail
  generalize hW : (((w.alloc _).alloc _).alloc _) = W at *
  clear hW
  obtain ⟨f0, f1, f2, f3, f4⟩ := FF.out
  clear FF
  obtain ⟨x0, hx0⟩ : ∃ x : Aft W, x.val = W := ⟨⟨W, Below.refl _ W⟩, rfl⟩
  have F0 : Hid (Below w.heap.size w W) := f0
  have FZ : Hid (W.heap.size = w.heap.size + 3) := f1
  have FZ0 := Lib.hid (show x0.val.heap.size = w.heap.size + 3 by rw [hx0]; exact f1)
  have G0 : Hid (W.heap[w.heap.size]? = some (.cells #[.int .i64 B.W, .int .i64 B.H, .slice la B.Land.length lc, .slice sa B.Share.length sc] 25 (0, 0))) := f2
  have d0_0 : ∀ x : Aft W, x.val.cell? ⟨w.heap.size, 0, none⟩ = some (.int .i64 B.W) := fun x => cell_of_heap (x.heapH f2) 0
  have d0_1 : ∀ x : Aft W, x.val.cell? ⟨w.heap.size, 1, none⟩ = some (.int .i64 B.H) := fun x => cell_of_heap (x.heapH f2) 1
  have d0_2 : ∀ x : Aft W, x.val.cell? ⟨w.heap.size, 2, none⟩ = some (.slice la B.Land.length lc) := fun x => cell_of_heap (x.heapH f2) 2
  have d0_3 : ∀ x : Aft W, x.val.cell? ⟨w.heap.size, 3, none⟩ = some (.slice sa B.Share.length sc) := fun x => cell_of_heap (x.heapH f2) 3
  have G1 : Hid (W.heap[w.heap.size + 1]? = some (.cells #[.int .i64 s.K, .slice ao s.Oil.length c, .int .i64 s.Away] 28 (0, 0))) := f3
  have d1_0 : ∀ x : Aft W, x.val.cell? ⟨w.heap.size + 1, 0, none⟩ = some (.int .i64 s.K) := fun x => cell_of_heap (x.heapH f3) 0
  have d1_1 : ∀ x : Aft W, x.val.cell? ⟨w.heap.size + 1, 1, none⟩ = some (.slice ao s.Oil.length c) := fun x => cell_of_heap (x.heapH f3) 1
  have d1_2 : ∀ x : Aft W, x.val.cell? ⟨w.heap.size + 1, 2, none⟩ = some (.int .i64 s.Away) := fun x => cell_of_heap (x.heapH f3) 2
  have G2 : Hid (W.heap[w.heap.size + 1 + 1]? = some (.cells #[.int .i64 0, .slice none 0 0, .int .i64 0] 28 (0, 0))) := f4
  have d2_0 : ∀ x : Aft W, x.val.cell? ⟨w.heap.size + 1 + 1, 0, none⟩ = some (.int .i64 0) := fun x => cell_of_heap (x.heapH f4) 0
  have d2_1 : ∀ x : Aft W, x.val.cell? ⟨w.heap.size + 1 + 1, 1, none⟩ = some (.slice none 0 0) := fun x => cell_of_heap (x.heapH f4) 1
  have d2_2 : ∀ x : Aft W, x.val.cell? ⟨w.heap.size + 1 + 1, 2, none⟩ = some (.int .i64 0) := fun x => cell_of_heap (x.heapH f4) 2
  have z2 : ∀ (x : Aft W) (o : Nat), x.val.frozen? ⟨w.heap.size + 1 + 1, o, none⟩ = false := fun x o => free_of_heap (x.heapH f4) o
  rw [← hx0]
  clear hx0 f0 f1 f2 f3 f4
  refine (rasked_any _ _ B s _ (HV.out _ (Aft.off F0.out x0)) (HS.out _ (Aft.off F0.out x0))).mono ?_
  rintro e w1 ⟨rfl, hb⟩
  obtain ⟨x1, rfl, lk0'⟩ := x0.step (hb)
  have lk0 := Lib.hid lk0'
  clear hb lk0'
  have zeroend : Hid (∀ (x : Aft W) (E : Int), aftE B s n = E → E ≠ 0 → Aft3 w (aftS B s n) (aftE B s n) (.returned (.tuple #[.agg #[.int .i64 0, .slice none 0 0, .int .i64 0], .int .i64 E])) (((x.val.setCell ⟨w.heap.size + 1 + 1, 0, none⟩ (.int .i64 0)).setCell ⟨w.heap.size + 1 + 1, 1, none⟩ (.slice none 0 0)).setCell ⟨w.heap.size + 1 + 1, 2, none⟩ (.int .i64 0))) := by
    intro x E hE h0
    refine ⟨_, by rw [hE], ?_, (((Aft.off F0.out x).setCell (by simp; omega) _).setCell (by simp; omega) _).setCell (by simp; omega) _⟩
    rw [show aftS B s n = ⟨0, [], 0⟩ from by unfold aftS; rw [hE, if_neg h0]]
    exact zero_new _ _
  have hlt2 : Hid (∀ x : Aft W, w.heap.size + 1 + 1 < x.val.heap.size) := fun x => by have := x.size_le; have := FZ.out; omega
  rcases okE_cases B s with ⟨h0, hval, hfit⟩ | h0 | h0
  · rw [h0]
    by_cases hr : n < 0 ∨ 5 < n
    · have hE : aftE B s n = 2 := by unfold aftE; rw [if_neg (by simp [h0]), if_pos hr]
      have HZ := Lib.hid (zeroend.out x1 2 hE (by decide))
      have hsz := hlt2.out x1
      clear zeroend h0 hE hval hfit
      rcases hr with hr | hr
      all_goals
        go_wp2
        refine bodyPost_ret (v := .tuple #[.agg #[.int .i64 0, .slice none 0 0, .int .i64 0], .int .i64 2]) (by simp [results, Try.results21, go_sem, d2_0, d2_1, d2_2, hsz]) rfl HZ.out
    · have hK := hfit.1
      by_cases hk : 5 < s.K + n
      · have hE : aftE B s n = 4 := by unfold aftE; rw [if_neg (by simp [h0]), if_neg hr, if_pos hk]
        have HZ := Lib.hid (zeroend.out x1 4 hE (by decide))
        have hnr : 0 ≤ n ∧ n ≤ 5 := by omega
        have hsz := hlt2.out x1
        clear zeroend h0 hE hval hfit hr
        go_wp2
        refine bodyPost_ret (v := .tuple #[.agg #[.int .i64 0, .slice none 0 0, .int .i64 0], .int .i64 4]) (by simp [results, Try.results21, go_sem, d2_0, d2_1, d2_2, hsz]) rfl HZ.out
      · have hE : aftE B s n = 0 := by unfold aftE; rw [if_neg (by simp [h0]), if_neg hr, if_neg hk]
        have hS : aftS B s n = mvN B s n.toNat := by unfold aftS; rw [hE, if_pos rfl]
        obtain ⟨m, rfl⟩ : ∃ m : Nat, n = m := ⟨n.toNat, by omega⟩
        rw [Int.toNat_natCast] at hS
        have hml : 1 ≤ (mvN B s m).Oil.length ∧ (mvN B s m).Oil.length ≤ 36 := by rw [mvN_len]; have h1 := mul36 hval.1.1 hval.1.2 hval.2.1.1 hval.2.1.2; have := hfit.2.1; omega
        have HE := Lib.hid hE
        have HS2 := Lib.hid hS
        have HC := Lib.hid (rafter_any _ _ B s m x1.val (HV.out _ (Aft.off F0.out x1)) (HS.out _ (Aft.off F0.out x1)) hval hfit (by omega))
        have hnr : (0 : Int) ≤ m ∧ (m : Int) ≤ 5 := by omega
        have hkk : s.K + m ≤ 5 := by omega
        have hlt2' := hlt2
        clear zeroend h0 hE hval hfit hr hS hk
        generalize mvN B s m = S at *
        go_wp2_with fail
        refine (HC.out).mono ?_
        rintro e w1 ⟨rv, rfl, ⟨a', c', rfl, hi', hn'⟩, hb1⟩
        obtain ⟨x2, rfl, lk1⟩ := x1.step hb1
        obtain ⟨a, rfl⟩ : ∃ a, a' = some a := by
          obtain ⟨b, off, e, _⟩ := hi'.get (k := 0) (by omega); exact ⟨_, e⟩
        obtain ⟨i0, hi0, hz0, hz1, hz2⟩ := info_parts info3
        have hbox : Hid ((x2.val.alloc (.cells #[.int .i64 S.K, .slice (some a) S.Oil.length c', .int .i64 S.Away] 28)).heap[x2.val.heap.size]? = some (.cells #[.int .i64 S.K, .slice (some a) S.Oil.length c', .int .i64 S.Away] 28 (0, 0))) := World.alloc_heap_new _ _
        have hown := own_empty (x2.val.alloc (.cells #[.int .i64 S.K, .slice (some a) S.Oil.length c', .int .i64 S.Away] 28)) (x2.val.heap.size + 1) (x2.val.heap.size + 1) (by simp) (by simp)
        have hnews := news_of (hi'.below (Nat.le_refl _) (((Below.refl _ _).alloc (Nat.le_refl _) (.cells #[.int .i64 S.K, .slice (some a) S.Oil.length c', .int .i64 S.Away] 28)).alloc (by simp) (.cells #[] 3)))
        have HO := Lib.hid hown
        have HN := Lib.hid hnews
        clear hown hnews hi' hb1 lk1
        go_upto_region 10 with (first | (at_builtin; refine wpList_append_own _ rfl _ _ 26 rfl (x2.val.heap.size + 1) 3 i0 (.int .i64 0) 1 8 Try.underlying26 hi0 hz0 hz1 hz2 rfl (by decide) _ _ _ rfl HO.out a S.Oil.length c' (S.Oil.map (Value.int .i64)) rfl (by simp) HN.out ints_one (by simp [maxLen]; omega) (by omega) (by simp) ?_; intro v' w3 hown1 hgrow1 hnil; clear hnil; have hB3 := (Below.refl (x2.val.heap.size + 1) _).grown hgrow1 (by simp) (fun k e => by cases e; exact Nat.le_refl _); clear hgrow1; simp only [Nat.zero_add, List.nil_append] at hown1; obtain ⟨a3, c3, rfl, hi3, hf3⟩ := own_ints hown1; clear hown1; obtain ⟨x3, rfl, lk2⟩ := x2.step (((Below.refl _ _).alloc (Nat.le_refl _) _).alloc (by simp) _ |>.trans (hB3.mono (by simp))); have b3 := (hB3.block x2.val.heap.size (by simp)).trans (heap_alloc_old hbox.out _); have LK := Lib.hid lk2; have HI3 := Lib.hid hi3; have HF3 := Lib.hid hf3; have hlt3 := heap_lt b3; have y0 := cell_of_heap b3 0; have y1 := cell_of_heap b3 1; have y2 := cell_of_heap b3 2; simp at y0 y1 y2; have yf := free_of_heap b3 1; have B3 := Lib.hid b3; clear hB3 lk2 hi3 hf3 b3 HO HN))
        have hW3 := x2.size_le
        have hWz := FZ.out
        have hb4 : Below W.heap.size W (x3.val.setCell ⟨x2.val.heap.size, 1, none⟩ (.slice a3 S.Oil.length c3)) := x3.bel.setCell (by show _ ≤ x2.val.heap.size; omega) _
        have b4 := heap_setCell_same B3.out (i := 1) (.slice a3 S.Oil.length c3)
        have h1 : ∀ a, a3 = some a → a.block ≠ x2.val.heap.size := fun a ha => by have := HF3.out a ha; omega
        have hi4 := IntsAt.setCell (p := ⟨x2.val.heap.size, 1, none⟩) HI3.out h1 (.slice a3 S.Oil.length c3)
        clear yf y0 y1 y2 h1
        generalize x3.val.setCell ⟨x2.val.heap.size, 1, none⟩ (.slice a3 S.Oil.length c3) = W4 at *
        obtain ⟨x4, rfl⟩ : ∃ x : Aft W, x.val = W4 := ⟨⟨W4, hb4⟩, rfl⟩
        have y0 := cell_of_heap b4 0
        have y1 := cell_of_heap b4 1
        have y2 := cell_of_heap b4 2
        simp at y0 y1 y2
        have hsz : w.heap.size + 1 + 1 < x4.val.heap.size := hlt2'.out x4
        have HI4 := Lib.hid hi4
        have HWz := Lib.hid hWz
        have E3 := Lib.hid (res3 (x4.heapH G2.out) (.int .i64 S.K) (.slice a3 S.Oil.length c3) (.int .i64 S.Away))
        clear hWz hb4 b4 hi4
        go_wp2
        obtain ⟨r0, r1, r2⟩ := res3c E3.out
        refine bodyPost_ret (v := .tuple #[.agg #[.int .i64 S.K, .slice a3 S.Oil.length c3, .int .i64 S.Away], .int .i64 0]) (by simp [results, Try.results21, go_sem, r0, r1, r2]) rfl ?_
        rw [HE.out, HS2.out]
        refine ⟨_, rfl, ⟨a3, c3, rfl, ?_, hn', ?_⟩, ?_⟩
        · have h2 : ∀ a, a3 = some a → a.block ≠ w.heap.size + 1 + 1 := fun a ha => by have := HF3.out a ha; have := HWz.out; omega
          exact IntsAt.setCell (IntsAt.setCell (IntsAt.setCell HI4.out h2 _) h2 _) h2 _
        · intro a ha; have := HF3.out a ha; have := HWz.out; omega
        · exact (((Aft.off F0.out x4).setCell (by simp; omega) _).setCell (by simp; omega) _).setCell (by simp; omega) _
  all_goals
    have HZ := Lib.hid (zeroend.out x1 _ (by unfold aftE; rw [if_pos (by rw [h0]; decide), h0]) (by decide))
    have hsz := hlt2.out x1
    rw [h0]
    clear zeroend h0
    go_wp2
    refine bodyPost_ret (v := .tuple #[.agg #[.int .i64 0, .slice none 0 0, .int .i64 0], _]) (by simp [results, Try.results21, go_sem, d2_0, d2_1, d2_2, hsz]) rfl HZ.out
end Go.Proofs.Ytnafllhgjidbkaa
