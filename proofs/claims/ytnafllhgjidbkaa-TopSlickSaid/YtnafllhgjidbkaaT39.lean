/- The share of a cell of water: what its neighbours' numbers come to. -/
import Derived.Test.YtnafllhgjidbkaaT36
namespace Go.Proofs.Ytnafllhgjidbkaa
open Go.RowKit Go.Shelf
set_option linter.unusedVariables false
set_option linter.unusedSimpArgs false
def shUp (B : Bay) (l : List Int) (j k : Nat) : Int := sumR k (fun q => flowPart B j q * l.getD (tgt l (flowTo B j q)) 0)
theorem shUp_succ (B : Bay) (l : List Int) (j k : Nat) : shUp B l j (k + 1) = shUp B l j k + flowPart B j k * l.getD (tgt l (flowTo B j k)) 0 := sumR_succ _ _
theorem fsum_append (l : List Int) (a b : List (Int × Int)) : fsum l (a ++ b) = fsum l a + fsum l b := by simp [fsum]
theorem fsum_water {B : Bay} {l : List Int} {j : Nat} (hok : (B.Share.getD j (0,0,0,0,0)).ok) : ∀ k, k ≤ 5 → fsum l (waterUp B j k) = shUp B l j k
  | 0, _ => by simp [waterUp, fsum, shUp, sumR]
  | k + 1, h => by
    rw [waterUp_succ, fsum_append, fsum_water hok k (by omega), shUp_succ]
    have h0 : 0 ≤ flowPart B j k := ((ok_iff_at _).1 hok k (by omega)).1
    by_cases hp : 0 < flowPart B j k
    · rw [if_pos hp]; simp [fsum]
    · rw [if_neg hp]
      have : flowPart B j k = 0 := by omega
      simp [fsum, this]
theorem fsum_share {B : Bay} {l : List Int} {j : Nat} (hval : validP B) (hj : j < B.Share.length) (hl : B.Land.getD j false = false) : fsum l (flowsL B j) = shUp B l j 5 := by
  unfold flowsL
  rw [if_neg (by rw [hl]; simp)]
  exact fsum_water (hval.2.2.2.2 j hj).1 5 (by omega)
theorem fsum_land {B : Bay} {l : List Int} {j : Nat} (h0 : (j : Int) ≠ -1) (hl : B.Land.getD j false = true) : fsum l (flowsL B j) = 16 * l.getD j 0 := by
  unfold flowsL
  rw [if_pos hl]
  simp [fsum, tgt, h0]
/-- Where the k-th share of a cell goes: the index into the prices. -/
theorem at_in {B : Bay} {l : List Int} {j k : Nat} (hval : validP B) (hj : j < B.Share.length) (hk : k < 5)
    (h : (0 ≤ gx j B + dxs.getD k 0 ∧ gx j B + dxs.getD k 0 < B.W) ∧ 0 ≤ gy j B + dys.getD k 0 ∧ gy j B + dys.getD k 0 < B.H) : ∃ t : Nat, tgt l (flowTo B j k) = t ∧ t < B.Share.length ∧ (gy j B + dys.getD k 0) * B.W + (gx j B + dxs.getD k 0) = t := by
  have hin : insideB B j k = true := inside_iff.2 ⟨⟨h.1.1, by omega⟩, h.2.1, by omega⟩
  obtain ⟨_, _, h3, h4⟩ := cell_in hval (x := gx j B + dxs.getD k 0) (y := gy j B + dys.getD k 0) ⟨h.1, h.2⟩
  have hg := (g_bd hval hj).2.2
  have e : flowTo B j k = (gy j B + dys.getD k 0) * B.W + (gx j B + dxs.getD k 0) := by
    unfold flowTo; rw [if_pos hin, Int.add_mul]; omega
  refine ⟨((gy j B + dys.getD k 0) * B.W + (gx j B + dxs.getD k 0)).toNat, ?_, h3, h4.symm⟩
  rw [e]; unfold tgt; rw [if_neg (by omega)]
theorem at_out {B : Bay} {l : List Int} {j k : Nat} (hl : l.length = B.Share.length + 1) (h : ¬ ((0 ≤ gx j B + dxs.getD k 0 ∧ gx j B + dxs.getD k 0 < B.W) ∧ 0 ≤ gy j B + dys.getD k 0 ∧ gy j B + dys.getD k 0 < B.H)) : tgt l (flowTo B j k) = B.Share.length := by
  have hin : ¬ insideB B j k = true := fun hh => h (by have := inside_iff.1 hh; omega)
  unfold flowTo; rw [if_neg hin]; unfold tgt; rw [if_pos rfl]; omega
def arr5 (x y : Int) : Array Value := #[.int .i64 x, .int .i64 y, .int .i64 x, .int .i64 (y - 1), .int .i64 (x + 1), .int .i64 y, .int .i64 x, .int .i64 (y + 1), .int .i64 (x - 1), .int .i64 y]
theorem arr5_x (x y : Int) {k : Nat} (hk : k < 5) : (arr5 x y)[k * 2]? = some (.int .i64 (x + dxs.getD k 0)) ∧ (arr5 x y)[k * 2 + 1]? = some (.int .i64 (y + dys.getD k 0)) := by
  have : k = 0 ∨ k = 1 ∨ k = 2 ∨ k = 3 ∨ k = 4 := by omega
  rcases this with rfl | rfl | rfl | rfl | rfl <;> simp [arr5, dxs, dys] <;> omega
theorem dxy_bd {k : Nat} (hk : k < 5) : (-1 ≤ dxs.getD k 0 ∧ dxs.getD k 0 ≤ 1) ∧ -1 ≤ dys.getD k 0 ∧ dys.getD k 0 ≤ 1 := by
  have : k = 0 ∨ k = 1 ∨ k = 2 ∨ k = 3 ∨ k = 4 := by omega
  rcases this with rfl | rfl | rfl | rfl | rfl <;> simp [dxs, dys]

set_option maxRecDepth 100000 in
set_option maxHeartbeats 4000000 in
theorem lshare_any (v : Value) (B : Bay) (po : Option Addr) (pc : Nat) (l : List Int) (j : Nat) (w : World) (hv : BayAt w v B) (hp : IntsAt w po l) (hval : validP B) (hlen : l.length = B.Share.length + 1) (hj : j < B.Share.length) (hb : ∀ i, 0 ≤ l.getD i 0 ∧ l.getD i 0 ≤ 3276800000000) :
    Calls Try.prog 50 #[v, .slice po l.length pc, .int .i64 j] w fun e w' => e = .returned (.int .i64 (shUp B l j 5)) ∧ Below w.heap.size w w' := by
  have HP := Lib.hid (fun W (h : Below w.heap.size w W) => hp.below (Nat.le_refl _) h)
  obtain ⟨la, lc, sa, sc, rfl, hl, hsh, hll, hsl⟩ := hv
  have HSH := Lib.hid (fun W (h : Below w.heap.size w W) => hsh.below (Nat.le_refl _) h)
  obtain ⟨⟨hgx0, hgx1⟩, ⟨hgy0, hgy1⟩, hgj⟩ := g_bd hval hj
  have hW := hval.1
  have hH := hval.2.1
  have hLS : B.Land.length = B.Share.length := by have := hval.2.2.1; have := hval.2.2.2.1; omega
  have ht1 : (j : Int) % B.W = gx j B := rfl
  have ht2 : IntKind.i64.wrap ((j : Int) / B.W) = gy j B := IntWalk.i64_in _ (show _ ≤ gy j B ∧ gy j B ≤ _ by omega)
  have ht5 : IntKind.i64.wrap (Int.tdiv (j : Int) B.W) = gy j B := by rw [Int.tdiv_eq_ediv_of_nonneg (by omega)]; exact ht2
  have ht7 : wrap64 ((j : Int) / B.W) = gy j B := IntWalk.wrap64_in _ (show _ ≤ gy j B ∧ gy j B ≤ _ by omega)
  have ht6 : Int.tmod (j : Int) B.W = gx j B := Int.tmod_eq_emod_of_nonneg (by omega)
  have hOK := Lib.hid (hval.2.2.2.2 j hj).1
  have h36 : B.Share.length ≤ 36 := by have := mul36 hval.1.1 hval.1.2 hval.2.1.1 hval.2.1.2; have := hval.2.2.2.1; omega
  rw [hLS]
  obtain ⟨bs, os, rfl, hbs, _⟩ := hsh.get hj
  obtain ⟨bp, op, rfl, hbp, _⟩ := hp.get (show 0 < l.length by omega)
  have HSC : Hid (∀ W, Below w.heap.size w W → ∀ k, k < 5 → W.cell? ⟨bs, os + j * 5 + k, none⟩ = some (.int .i64 (flowPart B j k))) := fun W h k hk => by
    obtain ⟨b', o', e, _, hc⟩ := (HSH.out W h).get hj
    cases e; rw [Nat.add_assoc, hc k hk, five_at _ k hk]; rfl
  have HPC : Hid (∀ W, Below w.heap.size w W → ∀ k, k < l.length → W.cell? ⟨bp, op + k, none⟩ = some (.int .i64 (l.getD k 0))) := fun W h k hk => by
    obtain ⟨b', o', e, _, hc⟩ := (HP.out W h).get hk; cases e; exact hc
  have HLEN := Lib.hid hlen
  have HBD := Lib.hid hb
  have HGJ := Lib.hid hgj
  have HLS := Lib.hid hLS
  have HT1 := Lib.hid ht1
  have HT2 := Lib.hid ht2
  have HT5 := Lib.hid ht5
  have HT6 := Lib.hid ht6
  have HT7 := Lib.hid ht7
  clear hlen hb hgj hLS ht1 ht2 ht5 ht6 ht7
  have HVAL := Lib.hid hval
  clear hl hsh hp hval
  have FF := Lib.hid (one_new (w := w) #[.int .i64 B.W, .int .i64 B.H, .slice la B.Share.length lc, .slice (some ⟨bs, os, none⟩) B.Share.length sc] 25)
  have hjn : (j : Int) < B.Share.length := by omega
  go_enter Try.func50, Try.ntmps50
  go_wp2_with fail
  generalize hW : (w.alloc _) = W at *
  clear hW
  obtain ⟨f0, f1, f2⟩ := FF.out
  clear FF
  obtain ⟨x0, hx0⟩ : ∃ x : Aft W, x.val = W := ⟨⟨W, Below.refl _ W⟩, rfl⟩
  have F0 : Hid (Below w.heap.size w W) := f0
  have FZ : Hid (W.heap.size = w.heap.size + 1) := f1
  have FZ0 := Lib.hid (show x0.val.heap.size = w.heap.size + 1 by rw [hx0]; exact f1)
  have G0 : Hid (W.heap[w.heap.size]? = some (.cells #[.int .i64 B.W, .int .i64 B.H, .slice la B.Share.length lc, .slice (some ⟨bs, os, none⟩) B.Share.length sc] 25 (0, 0))) := f2
  have d0_0 : ∀ x : Aft W, x.val.cell? ⟨w.heap.size, 0, none⟩ = some (.int .i64 B.W) := fun x => cell_of_heap (x.heapH f2) 0
  have d0_1 : ∀ x : Aft W, x.val.cell? ⟨w.heap.size, 1, none⟩ = some (.int .i64 B.H) := fun x => cell_of_heap (x.heapH f2) 1
  have d0_2 : ∀ x : Aft W, x.val.cell? ⟨w.heap.size, 2, none⟩ = some (.slice la B.Share.length lc) := fun x => cell_of_heap (x.heapH f2) 2
  have d0_3 : ∀ x : Aft W, x.val.cell? ⟨w.heap.size, 3, none⟩ = some (.slice (some ⟨bs, os, none⟩) B.Share.length sc) := fun x => cell_of_heap (x.heapH f2) 3
  rw [← hx0]
  clear hx0 f0 f1 f2
  refine wp_region_aftW x0 (by kernel_rfl) (by kernel_rfl) ?_
  repeat (go_big_quiet_step (fail))
  refine wpQuiet_nil ?_
  rintro _ ⟨x1, rfl⟩
  simp only [HT1.out, HT2.out, HT5.out, HT6.out, HT7.out]
  generalize hX : gx j B = X at *
  generalize hY : gy j B = Y at *
  have HX := Lib.hid hX
  have HY := Lib.hid hY
  clear hX hY
  go_wp2_with fail
  have hb := (Below.refl x1.val.heap.size x1.val).alloc (Nat.le_refl _) (.cells #[.int .i64 X, .int .i64 Y, .int .i64 X, .int .i64 (Y - 1), .int .i64 (X + 1), .int .i64 Y, .int .i64 X, .int .i64 (Y + 1), .int .i64 (X - 1), .int .i64 Y] 92)
  have hg := World.alloc_heap_new x1.val (.cells #[.int .i64 X, .int .i64 Y, .int .i64 X, .int .i64 (Y - 1), .int .i64 (X + 1), .int .i64 Y, .int .i64 X, .int .i64 (Y + 1), .int .i64 (X - 1), .int .i64 Y] 92)
  generalize x1.val.alloc (.cells #[.int .i64 X, .int .i64 Y, .int .i64 X, .int .i64 (Y - 1), .int .i64 (X + 1), .int .i64 Y, .int .i64 X, .int .i64 (Y + 1), .int .i64 (X - 1), .int .i64 Y] 92) = WB at *
  obtain ⟨x2, rfl, lk1'⟩ := x1.step hb
  have lk1 := Lib.hid lk1'
  have ARR := Lib.hid hg
  clear hb hg lk1'
  obtain ⟨V, hV⟩ : ∃ V, V = x2.val := ⟨_, rfl⟩
  have F1 : Hid (Below w.heap.size w V) := by rw [hV]; exact Aft.off F0.out x2
  have hg0 : V.heap[w.heap.size]? = some (.cells #[.int .i64 B.W, .int .i64 B.H, .slice la B.Share.length lc, .slice (some ⟨bs, os, none⟩) B.Share.length sc] 25 (0, 0)) := by rw [hV]; exact x2.heapH G0.out
  have hga : V.heap[x1.val.heap.size]? = some (.cells (arr5 X Y) 92 (0, 0)) := by rw [hV]; exact ARR.out
  rw [← hV]
  obtain ⟨y0, hy0⟩ : ∃ y : Aft V, y.val = V := ⟨⟨V, Below.refl _ V⟩, rfl⟩
  obtain ⟨ab, hab⟩ : ∃ ab, ab = x1.val.heap.size := ⟨_, rfl⟩
  rw [← hab] at hga ⊢
  have b0 : ∀ x : Aft V, x.val.cell? ⟨w.heap.size, 0, none⟩ = some (.int .i64 B.W) := fun x => cell_of_heap (x.heapH hg0) 0
  have b1 : ∀ x : Aft V, x.val.cell? ⟨w.heap.size, 1, none⟩ = some (.int .i64 B.H) := fun x => cell_of_heap (x.heapH hg0) 1
  have b2 : ∀ x : Aft V, x.val.cell? ⟨w.heap.size, 2, none⟩ = some (.slice la B.Share.length lc) := fun x => cell_of_heap (x.heapH hg0) 2
  have b3 : ∀ x : Aft V, x.val.cell? ⟨w.heap.size, 3, none⟩ = some (.slice (some ⟨bs, os, none⟩) B.Share.length sc) := fun x => cell_of_heap (x.heapH hg0) 3
  have GA := Lib.hid hga
  rw [← hy0]
  clear hV hg0 hga hy0 hab d0_0 d0_1 d0_2 d0_3 G0 lk1 ARR
  go_loopw [10, 11] (fun t i wr => ∃ (k : Nat) (x : Aft V), wr = x.val ∧ k ≤ 5 ∧ i = .int .i64 k ∧ t = .int .i64 (shUp B l j k) ∧ 0 ≤ shUp B l j k ∧ shUp B l j k ≤ k * 52428800000000) (fun _ i _ => 5 - (intOf i).toNat)
  case atStart => exact ⟨0, y0, rfl, by omega, rfl, by simp [shUp, sumR_zero], by simp [shUp, sumR_zero], by simp [shUp, sumR_zero]⟩
  case round =>
    obtain ⟨k, x3, rfl, hk, rfl, rfl, hs0, hs1⟩ := hrel
    by_cases hlt : k < 5
    · have hk5 : (k : Int) < 5 := by omega
      obtain ⟨⟨hdx0, hdx1⟩, hdy0, hdy1⟩ := dxy_bd hlt
      have cX : ∀ x : Aft V, x.val.cell? ⟨ab, k * 2, none⟩ = some (.int .i64 (X + dxs.getD k 0)) := fun x => (cell_of_heap (x.heapH GA.out) _).trans (arr5_x X Y hlt).1
      have cY : ∀ x : Aft V, x.val.cell? ⟨ab, k * 2 + 1, none⟩ = some (.int .i64 (Y + dys.getD k 0)) := fun x => (cell_of_heap (x.heapH GA.out) _).trans (arr5_x X Y hlt).2
      have cS : ∀ x : Aft V, x.val.cell? ⟨bs, os + j * 5 + k, none⟩ = some (.int .i64 (flowPart B j k)) := fun x => HSC.out _ (Aft.off F1.out x) k hlt
      have hts := Lib.hid (shUp_succ B l j k)
      have hp16 := (ok_iff_at _).1 hOK.out k hlt
      have hp0 : 0 ≤ flowPart B j k := hp16.1
      have hp1 : flowPart B j k ≤ 16 := hp16.2
      have hbt := HBD.out (tgt l (flowTo B j k))
      have hin := at_in (l := l) HVAL.out hj hlt
      have hout := at_out (B := B) (l := l) (j := j) (k := k) HLEN.out
      rw [HX.out, HY.out] at hin hout
      have HIN := Lib.hid hin
      have HOUT := Lib.hid hout
      clear hp16 hin hout
      generalize dxs.getD k 0 = dx at *
      generalize dys.getD k 0 = dy at *
      generalize flowPart B j k = part at *
      generalize htt : tgt l (flowTo B j k) = tt at *
      have cL : tt < l.length → ∀ x : Aft V, x.val.cell? ⟨bp, op + tt, none⟩ = some (.int .i64 (l.getD tt 0)) := fun h x => HPC.out _ (Aft.off F1.out x) tt h
      have CL := Lib.hid cL
      clear cL htt
      generalize l.getD tt 0 = pv at *
      generalize shUp B l j k = t at *
      have hm0 : 0 ≤ part * pv := Int.mul_nonneg hp0 hbt.1
      have hm1 : part * pv ≤ 16 * 3276800000000 := Int.le_trans (Int.mul_le_mul_of_nonneg_right hp1 hbt.1) (Int.mul_le_mul_of_nonneg_left hbt.2 (by omega))
      have hw1 : Hid (IntKind.i64.wrap (part * pv) = part * pv) := IntWalk.i64_in _ (by omega)
      have hw2 : Hid (IntKind.i64.wrap (t + part * pv) = t + part * pv) := IntWalk.i64_in _ (by omega)
      have hLl : ((l.length : Nat) : Int) = B.Share.length + 1 := by have := HLEN.out; omega
      have HLl := Lib.hid hLl
      clear hLl
      by_cases hc : (0 ≤ X + dx ∧ X + dx < B.W) ∧ 0 ≤ Y + dy ∧ Y + dy < B.H
      · obtain ⟨⟨k1, k2⟩, k3, k4⟩ := hc
        obtain ⟨t', ht', htl', hta⟩ := HIN.out ⟨⟨k1, k2⟩, k3, k4⟩
        have g1 : decide (0 ≤ X + dx) = true := by simpa using k1
        have g2 : decide (X + dx < B.W) = true := by simpa using k2
        have g3 : decide (0 ≤ Y + dy) = true := by simpa using k3
        have g4 : decide (Y + dy < B.H) = true := by simpa using k4
        have cl := CL.out (by have := HLEN.out; omega)
        have hty : 0 ≤ (Y + dy) * B.W ∧ (Y + dy) * B.W ≤ 36 := by
          refine ⟨Int.mul_nonneg k3 (by omega), ?_⟩
          have := Int.mul_le_mul (show Y + dy ≤ 6 by omega) hW.2 (by omega) (by omega); omega
        have HTA := Lib.hid hta
        have HTT := Lib.hid ht'
        clear hta ht'
        go_wp2_with fail
        refine wp_region_aftW x3 (by kernel_rfl) (by kernel_rfl) ?_
        repeat (go_big_quiet_step (fail))
        refine wpQuiet_nil ?_
        rintro _ ⟨x4, rfl⟩
        go_wp2_with fail
        have hw3 : Hid (IntKind.i64.wrap ((Y + dy) * B.W) = (Y + dy) * B.W) := IntWalk.i64_in _ (by omega)
        have hw4 : Hid (IntKind.i64.wrap ((Y + dy) * B.W + (X + dx)) = (Y + dy) * B.W + (X + dx)) := IntWalk.i64_in _ (by omega)
        have hw5 : wrap64 ((Y + dy) * B.W) = (Y + dy) * B.W := IntWalk.wrap64_in _ ⟨by omega, by omega⟩
        have HW5 := Lib.hid hw5
        clear hw5
        refine wp_region_aftW x4 (by kernel_rfl) (by kernel_rfl) ?_
        repeat (go_big_quiet_step (fail))
        refine wpQuiet_nil ?_
        rintro _ ⟨x5, rfl⟩
        try simp only [hw3.out, hw4.out, HW5.out]
        rw [HTA.out]
        have htL : (t' : Int) < l.length := by have := HLl.out; omega
        have htt := HTT.out
        subst htt
        clear k1 k2 k3 k4 g1 g2 g3 g4 hty HTT HTA hw3 hw4 HW5
        go_wp2_with fail
        refine wp_region_aftW x5 (by kernel_rfl) (by kernel_rfl) ?_
        repeat (go_big_quiet_step (fail))
        refine wpQuiet_nil ?_
        rintro _ ⟨x6, rfl⟩
        go_wp2_with fail
        try simp only [hw1.out, hw2.out]
        go_wp2
        go_roundw
        case rel => exact ⟨k + 1, x6, rfl, by omega, by go_num, by rw [hts.out], by rw [hts.out]; omega, by rw [hts.out]; omega⟩
        case measure => simp [intOf]; omega
      · have htt := HOUT.out hc
        subst htt
        have cl := CL.out (by have := HLEN.out; omega)
        have htL : (B.Share.length : Int) < l.length := by have := HLl.out; omega
        have hcases : (¬ 0 ≤ X + dx) ∨ (0 ≤ X + dx ∧ ¬ X + dx < B.W) ∨ (0 ≤ X + dx ∧ X + dx < B.W ∧ ¬ 0 ≤ Y + dy) ∨ (0 ≤ X + dx ∧ X + dx < B.W ∧ 0 ≤ Y + dy ∧ ¬ Y + dy < B.H) := by omega
        clear HIN HOUT
        rcases hcases with k1 | ⟨k1, k2⟩ | ⟨k1, k2, k3⟩ | ⟨k1, k2, k3, k4⟩
        · have g1 : decide (0 ≤ X + dx) = false := by simpa using k1
          go_wp2_with fail
          refine wp_region_aftW x3 (by kernel_rfl) (by kernel_rfl) ?_
          repeat (go_big_quiet_step (fail))
          refine wpQuiet_nil ?_
          rintro _ ⟨x4, rfl⟩
          go_wp2_with fail
          refine wp_region_aftW x4 (by kernel_rfl) (by kernel_rfl) ?_
          repeat (go_big_quiet_step (fail))
          refine wpQuiet_nil ?_
          rintro _ ⟨x5, rfl⟩
          go_wp2_with fail
          try simp only [hw1.out, hw2.out]
          go_wp2
          go_roundw
          case rel => exact ⟨k + 1, x5, rfl, by omega, by go_num, by rw [hts.out], by rw [hts.out]; omega, by rw [hts.out]; omega⟩
          case measure => simp [intOf]; omega
        · have g1 : decide (0 ≤ X + dx) = true := by simpa using k1
          have g2 : decide (X + dx < B.W) = false := by simpa using k2
          go_wp2_with fail
          refine wp_region_aftW x3 (by kernel_rfl) (by kernel_rfl) ?_
          repeat (go_big_quiet_step (fail))
          refine wpQuiet_nil ?_
          rintro _ ⟨x4, rfl⟩
          go_wp2_with fail
          refine wp_region_aftW x4 (by kernel_rfl) (by kernel_rfl) ?_
          repeat (go_big_quiet_step (fail))
          refine wpQuiet_nil ?_
          rintro _ ⟨x5, rfl⟩
          go_wp2_with fail
          try simp only [hw1.out, hw2.out]
          go_wp2
          go_roundw
          case rel => exact ⟨k + 1, x5, rfl, by omega, by go_num, by rw [hts.out], by rw [hts.out]; omega, by rw [hts.out]; omega⟩
          case measure => simp [intOf]; omega
        · have g1 : decide (0 ≤ X + dx) = true := by simpa using k1
          have g2 : decide (X + dx < B.W) = true := by simpa using k2
          have g3 : decide (0 ≤ Y + dy) = false := by simpa using k3
          go_wp2_with fail
          refine wp_region_aftW x3 (by kernel_rfl) (by kernel_rfl) ?_
          repeat (go_big_quiet_step (fail))
          refine wpQuiet_nil ?_
          rintro _ ⟨x4, rfl⟩
          go_wp2_with fail
          refine wp_region_aftW x4 (by kernel_rfl) (by kernel_rfl) ?_
          repeat (go_big_quiet_step (fail))
          refine wpQuiet_nil ?_
          rintro _ ⟨x5, rfl⟩
          go_wp2_with fail
          try simp only [hw1.out, hw2.out]
          go_wp2
          go_roundw
          case rel => exact ⟨k + 1, x5, rfl, by omega, by go_num, by rw [hts.out], by rw [hts.out]; omega, by rw [hts.out]; omega⟩
          case measure => simp [intOf]; omega
        · have g1 : decide (0 ≤ X + dx) = true := by simpa using k1
          have g2 : decide (X + dx < B.W) = true := by simpa using k2
          have g3 : decide (0 ≤ Y + dy) = true := by simpa using k3
          have g4 : decide (Y + dy < B.H) = false := by simpa using k4
          go_wp2_with fail
          refine wp_region_aftW x3 (by kernel_rfl) (by kernel_rfl) ?_
          repeat (go_big_quiet_step (fail))
          refine wpQuiet_nil ?_
          rintro _ ⟨x4, rfl⟩
          go_wp2_with fail
          refine wp_region_aftW x4 (by kernel_rfl) (by kernel_rfl) ?_
          repeat (go_big_quiet_step (fail))
          refine wpQuiet_nil ?_
          rintro _ ⟨x5, rfl⟩
          go_wp2_with fail
          try simp only [hw1.out, hw2.out]
          go_wp2
          go_roundw
          case rel => exact ⟨k + 1, x5, rfl, by omega, by go_num, by rw [hts.out], by rw [hts.out]; omega, by rw [hts.out]; omega⟩
          case measure => simp [intOf]; omega
    · obtain rfl : k = 5 := by omega
      go_wp2
      go_ret
      exact ⟨rfl, Aft.off F1.out x3⟩
end Go.Proofs.Ytnafllhgjidbkaa
