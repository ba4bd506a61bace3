/- Texts of the proof, part 5: W5, W6, W7, W8, R1, R2s, R2, O1, L0, Z1, Z2, F1, F2, F3. -/
import Derived.Test.YtijnimgmpocmaaaDoorB4
import Derived.WalkKit
import Derived.Below
import Derived.Lib.TrailingZeros
import Derived.Laws.OwnMore
import Derived.Maps.AppendAt
import Derived.Laws.IdiomCopy
import Derived.Laws.CopyRow
import Derived.IntWalk
import Derived.StillTail
import Derived.Scope
import Derived.ChangeKeysEq
import Derived.Laws.Small
import Derived.OrdersIn
import Derived.TacticsIn
import Derived.OwnWalkIn
import Derived.RangeFuncNested
import Derived.RangeFuncLeaves
import Derived.RangeFuncRecord
import Derived.Maps.Keyed
import Derived.Maps.RangeRun
import Derived.DeepKeys4
import Derived.Test.YtijnimgmpocmaaaDoorRows
import Derived.KernelRfl
import Derived.ProofKit
import Derived.OpenShut
import Derived.Lib.SmallJoins
import Derived.Deep.Slices
import Derived.Shelf.Spec.TrailingZeros
/- Waste: the polynomial of a table. -/
namespace Go.Proofs.YtijnimgmpocmaaaDoor
open Go.RowKit
set_option linter.unusedVariables false
set_option linter.unusedSimpArgs false
theorem fallC_bd : ∀ j, j ≤ 8 → ∀ d, d ≤ 9 → -20000 ≤ fallC j d ∧ fallC j d ≤ 20000 ∧ -200000 ≤ (j : Int) * fallC j d ∧ (j : Int) * fallC j d ≤ 200000 := by decide +kernel
/-- What times has, before number i. -/
def tmF (j i d : Nat) : Int := (if 1 ≤ d ∧ d ≤ i then fallC j (d - 1) else 0) - (if d < i then (j : Int) * fallC j d else 0)
theorem tmF_zero (j d : Nat) : tmF j 0 d = 0 := by unfold tmF; rw [if_neg (by omega), if_neg (by omega)]; rfl
theorem tmF_end (j d : Nat) : tmF j (j + 1) d = fallC (j + 1) d := by
  unfold tmF
  simp only [fallC]
  congr 1
  · by_cases h : d = 0
    · rw [if_neg (by omega), if_pos h]
    · rw [if_neg h]
      by_cases h2 : d ≤ j + 1
      · rw [if_pos ⟨by omega, h2⟩]
      · rw [if_neg (by omega), fallC_high (by omega)]
  · by_cases h : d < j + 1
    · rw [if_pos h]
    · rw [if_neg h, fallC_high (by omega)]; simp
set_option maxRecDepth 10000 in
set_option maxHeartbeats 4000000 in
theorem times_spec (j : Nat) (hj : j ≤ 8) : Spec Tryd.prog 92 [V.c (.sl 0 (j + 1)), V.i j] [⟨0, .ro 0, (fnL (fallC j) (j + 1)).map C.i⟩] 1
    (fun v L' _ => ∃ l, v = V.c (.sl l (j + 2)) ∧ find L' l = some ⟨l, .vec 3 1, (fnL (fallC (j + 1)) (j + 2)).map C.i⟩) := by
  have hl : ((fnL (fallC j) (j + 1)).map C.i).length = j + 1 := by rw [List.length_map, fnL_len]
  have hz : repC (j + 2) [C.int .i64 0] = (fnL (tmF j 0) (j + 2)).map C.i := by
    rw [repI, fnL_zero]; exact congrArg _ (fnL_congr fun d _ => (tmF_zero j d).symm)
  refine Spec.of tok Tryd.func92 rfl rfl rfl fun n0 cx => vc_ok tok ?_
  repeat ((conv => whnf); first | (refine And.intro (by first | omega | exact Nat.le_of_ble_eq_true rfl | (dsimp only [inK]; omega) | (simp only [mulS_eq]; omega) | (simp only [mulS_eq, setL_length]; omega) | (simp only [setL_length]; omega) | (simp only [setL_length, List.length_map]; omega) | (exact ⟨by omega, by omega, by first | exact Nat.le_of_ble_eq_true rfl | (dsimp only; omega) | (simp only [setL_length]; omega) | (simp only [setL_length, List.length_map]; omega)⟩) | (exact ⟨by omega, by first | rfl | omega, by omega, Nat.le_of_ble_eq_true rfl, Nat.le_of_ble_eq_true rfl⟩) | (exact ⟨rfl, rfl, rfl, Nat.le_of_ble_eq_true rfl, by first | rfl | omega | exact Nat.le_of_ble_eq_true rfl | (dsimp only; omega) | (simp; done) | (simp; omega), by first | rfl | omega | exact Nat.le_of_ble_eq_true rfl | (dsimp only; omega) | (simp; done) | (simp; omega), by omega, Nat.le_of_ble_eq_true rfl⟩) | exact Eq.refl true) ?_) | refine Exists.intro _ (And.intro rfl ?_) | refine And.intro (And.intro rfl (chk_rowI _ _ _ _)) ?_ | refine br_t (by omega) ?_ | refine br_f (by omega) ?_ | refine bs_t (by omega) ?_ | refine bs_f (by omega) ?_ | refine fun (K' : K3) hK' => ?_ | (refine hK' _ _ _ ?_; clear hK' K') | refine draw_auto tok mixed (by kernel_rfl) ?_ | refine bs_bt (Eq.refl true) ?_ | refine bs_bf (Eq.refl false) ?_ | refine br_bt (Eq.refl true) ?_ | refine br_bf (Eq.refl false) ?_ | refine CallK.m ?_ | refine Two.l ?_ | refine And.intro (And.intro rfl rfl) ?_)
  refine Tri.loop (γ := Nat) (fun i => i ≤ j + 1) (fun i => [(1, V.i j), (4, V.c .nil), (5, V.c (.sl 1 (j + 2))), (12, V.c (.sl 0 (j + 1))), (13, V.i ((j + 1 : Nat) : Int)), (14, V.i (i : Nat))])
    (fun i => [⟨1, .vec 3 1, (fnL (tmF j i) (j + 2)).map C.i⟩, ⟨0, .ro 0, (fnL (fallC j) (j + 1)).map C.i⟩]) 2 (fun i => j + 1 - i) 0 (R0 := []) ?_ ?_ ?_
  · omega
  · skip
    refine ⟨?_, ?_, rfl, rfl, by first | exact Nat.le_of_ble_eq_true rfl | exact Nat.le_refl _ | omega⟩
    · repeat (first | exact trivial | (refine And.intro (covS_syn (by rfl) rfl (by first | exact trivial | exact Nat.le_of_ble_eq_true rfl | exact hy | exact (fun p hp => nomatch hp) | (show (_ : Nat) < _; omega))) ?_) | refine And.intro (covS_bool rfl rfl (by rfl)) ?_)
    · repeat (first | exact trivial | (refine And.intro (covE_id (Nat.le_of_ble_eq_true rfl) (by first | exact wf_ints _ _ | exact wf_bools _ _ | first | exact wf_us _ _ | (simp [C.wf]; done) | simp [C.wf]) rfl (by first | rfl | exact hz)) ?_))
  · intro i hi
    refine vc_ok tok ?_
    by_cases hlt : i < j + 1
    · obtain ⟨b1, b2, b3, b4⟩ := fallC_bd j hj i (by omega)
      have hld : ((fnL (fallC j) (j + 1)).map C.i)[mulS ((i : Nat) : Int).toNat 1]? = some (C.i (fallC j i)) := by
        rw [intLz rfl (by rw [fnL_len]; omega), fnL_get (by omega)]
      have hl1 : ((fnL (tmF j i) (j + 2)).map C.i).length = j + 2 := by rw [List.length_map, fnL_len]
      have e1 : tmF j i (i + 1) = 0 := by unfold tmF; rw [if_neg (by omega), if_neg (by omega)]; rfl
      have hr1 : ((fnL (tmF j i) (j + 2)).map C.i)[mulS ((i : Nat) + 1 : Int).toNat 1]? = some (C.i 0) := by
        rw [intLz (k := i + 1) (by omega) (by rw [fnL_len]; omega), fnL_get (by omega), e1]
      have e2 : tmF j i i = if i = 0 then 0 else fallC j (i - 1) := by
        unfold tmF
        rw [if_neg (show ¬ i < i by omega)]
        by_cases h : i = 0
        · rw [if_neg (by omega), if_pos h]; rfl
        · rw [if_pos ⟨by omega, by omega⟩, if_neg h]; exact Int.sub_zero _
      have hs1 : setL ((fnL (tmF j i) (j + 2)).map C.i) (mulS ((i : Nat) + 1 : Int).toNat 1) [C.i (0 + fallC j i)] = (fnL (fun d => if d = i + 1 then 0 + fallC j i else tmF j i d) (j + 2)).map C.i := by
        rw [setI (k := i + 1) (by omega), fnL_set]
      have hr2 : (setL ((fnL (tmF j i) (j + 2)).map C.i) (mulS ((i : Nat) + 1 : Int).toNat 1) [C.i (0 + fallC j i)])[mulS ((i : Nat) : Int).toNat 1]? = some (C.i (tmF j i i)) := by
        rw [hs1, intLz rfl (by rw [fnL_len]; omega), fnL_get (by omega), if_neg (by omega)]
      have hb2 : -20000 ≤ tmF j i i ∧ tmF j i i ≤ 20000 := by
        rw [e2]
        split
        · omega
        · have := fallC_bd j hj (i - 1) (by omega); omega
      obtain ⟨c, hc⟩ : ∃ c, c = fallC j i := ⟨_, rfl⟩
      obtain ⟨y, hy⟩ : ∃ y, y = tmF j i i := ⟨_, rfl⟩
      obtain ⟨x, hx⟩ : ∃ x, x = (j : Int) * c := ⟨_, rfl⟩
      have hfin : setL (setL ((fnL (tmF j i) (j + 2)).map C.i) (mulS ((i : Nat) + 1 : Int).toNat 1) [C.i (0 + fallC j i)]) (mulS ((i : Nat) : Int).toNat 1) [C.i (tmF j i i - (j : Int) * fallC j i)] = (fnL (tmF j (i + 1)) (j + 2)).map C.i := by
        rw [hs1, setI rfl, fnL_set]
        refine congrArg _ (fnL_congr fun d _ => ?_)
        by_cases h1 : d = i
        · subst h1
          rw [if_pos rfl, e2]
          unfold tmF
          rw [if_pos (show d < d + 1 by omega)]
          congr 1
          by_cases h : d = 0
          · rw [if_pos h, if_neg (by omega)]
          · rw [if_neg h, if_pos ⟨by omega, by omega⟩]
        · rw [if_neg h1]
          by_cases h2 : d = i + 1
          · subst h2
            rw [if_pos rfl]
            unfold tmF
            rw [if_pos ⟨by omega, Nat.le_refl _⟩, if_neg (by omega), Nat.add_sub_cancel]
            omega
          · rw [if_neg h2]
            unfold tmF
            congr 1
            · by_cases h3 : 1 ≤ d ∧ d ≤ i
              · rw [if_pos h3, if_pos ⟨h3.1, by omega⟩]
              · rw [if_neg h3, if_neg (by omega)]
            · by_cases h3 : d < i
              · rw [if_pos h3, if_pos (by omega)]
              · rw [if_neg h3, if_neg (by omega)]
      have hsl : (setL ((fnL (tmF j i) (j + 2)).map C.i) (mulS ((i : Nat) + 1 : Int).toNat 1) [C.i (0 + fallC j i)]).length = j + 2 := by rw [setL_length, hl1]
      rw [← hc] at b1 b2 b3 b4 hld hr2 hfin hsl
      rw [← hy] at hr2 hb2 hfin
      have hb3 : -200000 ≤ (j : Int) * c ∧ (j : Int) * c ≤ 200000 := ⟨b3, b4⟩
      repeat ((conv => whnf); first | (refine And.intro (by first | omega | exact Nat.le_of_ble_eq_true rfl | (dsimp only [inK]; omega) | (simp only [mulS_eq]; omega) | (simp only [mulS_eq, setL_length]; omega) | (simp only [setL_length]; omega) | (simp only [setL_length, List.length_map]; omega) | (exact ⟨by omega, by omega, by first | exact Nat.le_of_ble_eq_true rfl | (dsimp only; omega) | (simp only [setL_length]; omega) | (simp only [setL_length, List.length_map]; omega)⟩) | (exact ⟨by omega, by first | rfl | omega, by omega, Nat.le_of_ble_eq_true rfl, Nat.le_of_ble_eq_true rfl⟩) | (exact ⟨rfl, rfl, rfl, Nat.le_of_ble_eq_true rfl, by first | rfl | omega | exact Nat.le_of_ble_eq_true rfl | (dsimp only; omega) | (simp; done) | (simp; omega), by first | rfl | omega | exact Nat.le_of_ble_eq_true rfl | (dsimp only; omega) | (simp; done) | (simp; omega), by omega, Nat.le_of_ble_eq_true rfl⟩) | exact Eq.refl true) ?_) | with_reducible refine ld (hld) ?_ | with_reducible refine ld (hr1) ?_ | refine Exists.intro _ (And.intro rfl ?_) | refine And.intro (And.intro rfl (chk_rowI _ _ _ _)) ?_ | refine br_t (by omega) ?_ | refine br_f (by omega) ?_ | refine bs_t (by omega) ?_ | refine bs_f (by omega) ?_ | refine fun (K' : K3) hK' => ?_ | (refine hK' _ _ _ ?_; clear hK' K') | refine draw_auto tok mixed (by kernel_rfl) ?_ | refine (ld (hr2) ?_) | refine And.intro ⟨by omega, by omega⟩ ?_ | refine bs_bt (Eq.refl true) ?_ | refine bs_bf (Eq.refl false) ?_ | refine br_bt (Eq.refl true) ?_ | refine br_bf (Eq.refl false) ?_ | refine CallK.m ?_ | refine Two.l ?_ | refine And.intro (And.intro rfl rfl) ?_)
      refine ⟨i + 1, [], by omega, by omega, ?_⟩
      refine ⟨?_, ?_, rfl, rfl, by first | exact Nat.le_of_ble_eq_true rfl | exact Nat.le_refl _ | omega⟩
      · repeat (first | exact trivial | (refine And.intro (covS_syn (by first | rfl | (refine congrArg some (congrArg V.i ?_); omega)) rfl (by first | exact trivial | exact Nat.le_of_ble_eq_true rfl | exact hy | exact (fun p hp => nomatch hp) | (show (_ : Nat) < _; omega))) ?_) | refine And.intro (covS_bool rfl rfl (by rfl)) ?_)
      · repeat (first | exact trivial | (refine And.intro (covE_id (Nat.le_of_ble_eq_true rfl) (by first | exact wf_ints _ _ | exact wf_bools _ _ | first | exact wf_us _ _ | (simp [C.wf]; done) | simp [C.wf]) rfl (by first | rfl | exact hfin)) ?_))
    · obtain rfl : i = j + 1 := by omega
      have hfin : fnL (tmF j (j + 1)) (j + 2) = fnL (fallC (j + 1)) (j + 2) := fnL_congr fun d _ => tmF_end j d
      rw [hfin]
      repeat ((conv => whnf); first | (refine And.intro (by first | omega | exact Nat.le_of_ble_eq_true rfl | (dsimp only [inK]; omega) | (simp only [mulS_eq]; omega) | (simp only [mulS_eq, setL_length]; omega) | (simp only [setL_length]; omega) | (simp only [setL_length, List.length_map]; omega) | (exact ⟨by omega, by omega, by first | exact Nat.le_of_ble_eq_true rfl | (dsimp only; omega) | (simp only [setL_length]; omega) | (simp only [setL_length, List.length_map]; omega)⟩) | (exact ⟨by omega, by first | rfl | omega, by omega, Nat.le_of_ble_eq_true rfl, Nat.le_of_ble_eq_true rfl⟩) | (exact ⟨rfl, rfl, rfl, Nat.le_of_ble_eq_true rfl, by first | rfl | omega | exact Nat.le_of_ble_eq_true rfl | (dsimp only; omega) | (simp; done) | (simp; omega), by first | rfl | omega | exact Nat.le_of_ble_eq_true rfl | (dsimp only; omega) | (simp; done) | (simp; omega), by omega, Nat.le_of_ble_eq_true rfl⟩) | exact Eq.refl true) ?_) | refine Exists.intro _ (And.intro rfl ?_) | refine And.intro (And.intro rfl (chk_rowI _ _ _ _)) ?_ | refine br_t (by omega) ?_ | refine br_f (by omega) ?_ | refine bs_t (by omega) ?_ | refine bs_f (by omega) ?_ | refine fun (K' : K3) hK' => ?_ | (refine hK' _ _ _ ?_; clear hK' K') | refine draw_auto tok mixed (by kernel_rfl) ?_ | refine bs_bt (Eq.refl true) ?_ | refine bs_bf (Eq.refl false) ?_ | refine br_bt (Eq.refl true) ?_ | refine br_bf (Eq.refl false) ?_ | refine CallK.m ?_ | refine Two.l ?_ | refine And.intro (And.intro rfl rfl) ?_)
      rfl
end Go.Proofs.YtijnimgmpocmaaaDoor

/- Waste: a polynomial's value. -/
namespace Go.Proofs.YtijnimgmpocmaaaDoor
open Go.RowKit
set_option linter.unusedVariables false
set_option linter.unusedSimpArgs false
theorem mul_bd {u x A B : Int} (hu : -A ≤ u ∧ u ≤ A) (hx : -B ≤ x ∧ x ≤ B) (hA : 0 ≤ A) (hB : 0 ≤ B) : -(A * B) ≤ u * x ∧ u * x ≤ A * B := by
  rcases Int.le_total 0 x with h | h
  · have a1 : u * x ≤ A * x := Int.mul_le_mul_of_nonneg_right hu.2 h
    have a2 : A * x ≤ A * B := Int.mul_le_mul_of_nonneg_left hx.2 hA
    have a3 : (-A) * x ≤ u * x := Int.mul_le_mul_of_nonneg_right hu.1 h
    rw [Int.neg_mul] at a3
    omega
  · have a1 : u * (-x) ≤ A * (-x) := Int.mul_le_mul_of_nonneg_right hu.2 (by omega)
    have a2 : A * (-x) ≤ A * B := Int.mul_le_mul_of_nonneg_left (by omega) hA
    have a3 : (-A) * (-x) ≤ u * (-x) := Int.mul_le_mul_of_nonneg_right hu.1 (by omega)
    rw [Int.neg_mul] at a3
    rw [Int.mul_neg] at a1
    rw [Int.mul_neg u x] at a3
    omega
theorem back_spec (lc n nx : Nat) (L : List E) : SpecM Tryd.prog 93 [V.c (.sl lc n)] L nx (fun v L' nx' => v = V.c (.fn 109 [(nx, 0)]) ∧ L' = ⟨nx, .own 67, [.sl lc n]⟩ :: L ∧ nx' = nx + 1) := by
  refine SpecM.of tok Tryd.func93 rfl rfl rfl fun n0 cx => vc_ok tok ?_
  repeat ((conv => whnf); first | (refine And.intro (by first | omega | exact Nat.le_of_ble_eq_true rfl | (dsimp only [inK]; omega) | (simp only [mulS_eq]; omega) | (simp only [mulS_eq, setL_length]; omega) | (simp only [setL_length]; omega) | (simp only [setL_length, List.length_map]; omega) | (exact ⟨by omega, by omega, by first | exact Nat.le_of_ble_eq_true rfl | (dsimp only; omega) | (simp only [setL_length]; omega) | (simp only [setL_length, List.length_map]; omega)⟩) | (exact ⟨by omega, by first | rfl | omega, by omega, Nat.le_of_ble_eq_true rfl, Nat.le_of_ble_eq_true rfl⟩) | (exact ⟨rfl, rfl, rfl, Nat.le_of_ble_eq_true rfl, by first | rfl | omega | exact Nat.le_of_ble_eq_true rfl | (dsimp only; omega) | (simp; done) | (simp; omega), by first | rfl | omega | exact Nat.le_of_ble_eq_true rfl | (dsimp only; omega) | (simp; done) | (simp; omega), by omega, Nat.le_of_ble_eq_true rfl⟩) | exact Eq.refl true) ?_) | refine Exists.intro _ (And.intro rfl ?_) | refine And.intro (And.intro rfl (chk_rowI _ _ _ _)) ?_ | refine br_t (by omega) ?_ | refine br_f (by omega) ?_ | refine bs_t (by omega) ?_ | refine bs_f (by omega) ?_ | refine fun (K' : K3) hK' => ?_ | (refine hK' _ _ _ ?_; clear hK' K') | refine draw_auto tok mixed (by kernel_rfl) ?_ | refine bs_bt (Eq.refl true) ?_ | refine bs_bf (Eq.refl false) ?_ | refine br_bt (Eq.refl true) ?_ | refine br_bf (Eq.refl false) ?_ | refine CallK.m ?_ | refine Two.l ?_ | refine And.intro (And.intro rfl rfl) ?_)
  exact ⟨rfl, rfl, rfl⟩
/-- Values small enough all the way. -/
structure HornB (f : Nat → Int) (x : Int) (N : Nat) : Prop where
  hx : -20 ≤ x ∧ x ≤ 20
  hf : ∀ m, m < N → -1000000000 ≤ f m ∧ f m ≤ 1000000000
  hh : ∀ m, m ≤ N → -100000000000000000 ≤ horn f x m (N - m) ∧ horn f x m (N - m) ≤ 100000000000000000
set_option maxRecDepth 10000 in
set_option maxHeartbeats 4000000 in
theorem at_spec (f : Nat → Int) (x : Int) (N : Nat) (hN : N ≤ 100) (hB : HornB f x N) : Spec Tryd.prog 62 [V.c (.sl 0 N), V.i x] [⟨0, .ro 0, (fnL f N).map C.i⟩] 1 (Is (V.i (horn f x 0 N))) := by
  have hlm : ((fnL f N).map C.i).length = N := by rw [List.length_map, fnL_len]
  obtain ⟨hx, hf, hh⟩ := hB
  refine Spec.of tok Tryd.func62 rfl rfl rfl fun n0 cx => vc_ok tok ?_
  repeat ((conv => whnf); first | (refine And.intro (by first | omega | exact Nat.le_of_ble_eq_true rfl | (dsimp only [inK]; omega) | (simp only [mulS_eq]; omega) | (simp only [mulS_eq, setL_length]; omega) | (simp only [setL_length]; omega) | (simp only [setL_length, List.length_map]; omega) | (exact ⟨by omega, by omega, by first | exact Nat.le_of_ble_eq_true rfl | (dsimp only; omega) | (simp only [setL_length]; omega) | (simp only [setL_length, List.length_map]; omega)⟩) | (exact ⟨by omega, by first | rfl | omega, by omega, Nat.le_of_ble_eq_true rfl, Nat.le_of_ble_eq_true rfl⟩) | (exact ⟨rfl, rfl, rfl, Nat.le_of_ble_eq_true rfl, by first | rfl | omega | exact Nat.le_of_ble_eq_true rfl | (dsimp only; omega) | (simp; done) | (simp; omega), by first | rfl | omega | exact Nat.le_of_ble_eq_true rfl | (dsimp only; omega) | (simp; done) | (simp; omega), by omega, Nat.le_of_ble_eq_true rfl⟩) | exact Eq.refl true) ?_) | refine Exists.intro _ (And.intro rfl ?_) | refine And.intro (And.intro rfl (chk_rowI _ _ _ _)) ?_ | refine br_t (by omega) ?_ | refine br_f (by omega) ?_ | refine bs_t (by omega) ?_ | refine bs_f (by omega) ?_ | refine fun (K' : K3) hK' => ?_ | (refine hK' _ _ _ ?_; clear hK' K') | refine draw_auto tok mixed (by kernel_rfl) ?_ | refine CallK.fresh (by kernel_rfl) (back_spec _ _ _ _) rfl ?_ | refine bs_bt (Eq.refl true) ?_ | refine bs_bf (Eq.refl false) ?_ | refine br_bt (Eq.refl true) ?_ | refine br_bf (Eq.refl false) ?_ | refine CallK.m ?_ | refine Two.l ?_ | refine And.intro (And.intro rfl rfl) ?_)
  refine Tri.opq fun K' hK' => ?_
  refine Tri.rangeFunc tok (by exact rfl) (by kernel_rfl) (by exact rfl) (by exact rfl) (by exact rfl) (by exact rfl) (by exact rfl) (by exact rfl) ?_
  intro y cxi oo ob od hy hY
  refine vc_ok tok ?_
  repeat ((conv => whnf); first | (refine And.intro (by first | omega | exact Nat.le_of_ble_eq_true rfl | (dsimp only [inK]; omega) | (simp only [mulS_eq]; omega) | (simp only [mulS_eq, setL_length]; omega) | (simp only [setL_length]; omega) | (simp only [setL_length, List.length_map]; omega) | (exact ⟨by omega, by omega, by first | exact Nat.le_of_ble_eq_true rfl | (dsimp only; omega) | (simp only [setL_length]; omega) | (simp only [setL_length, List.length_map]; omega)⟩) | (exact ⟨by omega, by first | rfl | omega, by omega, Nat.le_of_ble_eq_true rfl, Nat.le_of_ble_eq_true rfl⟩) | (exact ⟨rfl, rfl, rfl, Nat.le_of_ble_eq_true rfl, by first | rfl | omega | exact Nat.le_of_ble_eq_true rfl | (dsimp only; omega) | (simp; done) | (simp; omega), by first | rfl | omega | exact Nat.le_of_ble_eq_true rfl | (dsimp only; omega) | (simp; done) | (simp; omega), by omega, Nat.le_of_ble_eq_true rfl⟩) | exact Eq.refl true) ?_) | refine Exists.intro _ (And.intro rfl ?_) | refine And.intro (And.intro rfl (chk_rowI _ _ _ _)) ?_ | refine br_t (by omega) ?_ | refine br_f (by omega) ?_ | refine bs_t (by omega) ?_ | refine bs_f (by omega) ?_ | refine fun (K' : K3) hK' => ?_ | (refine hK' _ _ _ ?_; clear hK' K') | refine draw_auto tok mixed (by kernel_rfl) ?_ | refine bs_bt (Eq.refl true) ?_ | refine bs_bf (Eq.refl false) ?_ | refine br_bt (Eq.refl true) ?_ | refine br_bf (Eq.refl false) ?_ | refine CallK.m ?_ | refine Two.l ?_ | refine And.intro (And.intro rfl rfl) ?_)
  refine Tri.loop (γ := Nat) (fun m => m ≤ N) (fun m => [(0, V.c (.v y)), (1, V.c (.ptr 3 0)), (3, V.i ((m : Int) - 1))])
    (fun m => [⟨4, .obj oo, []⟩, ⟨3, .own 67, [.sl 0 N]⟩, ⟨2, .own 3, [C.i (horn f x m (N - m))]⟩, ⟨1, .own 3, [C.i x]⟩, ⟨0, .ro 0, (fnL f N).map C.i⟩]) 5 (fun m => m) N (R0 := []) ?_ ?_ ?_
  · exact Nat.le_refl _
  · skip
    refine ⟨?_, ?_, rfl, rfl, by first | exact Nat.le_of_ble_eq_true rfl | exact Nat.le_refl _ | omega⟩
    · repeat (first | exact trivial | (refine And.intro (covS_syn (by rfl) rfl (by first | exact trivial | exact Nat.le_of_ble_eq_true rfl | exact hy | exact (fun p hp => nomatch hp) | (show (_ : Nat) < _; omega))) ?_) | refine And.intro (covS_bool rfl rfl (by rfl)) ?_)
    · repeat (first | exact trivial | (refine And.intro (covE_id (Nat.le_of_ble_eq_true rfl) (by first | exact wf_ints _ _ | exact wf_bools _ _ | first | exact wf_us _ _ | (simp [C.wf]; done) | simp [C.wf]) rfl (by first | rfl | ((rw [Nat.sub_self]; rfl)))) ?_))
  · intro m hm
    refine vc_ok tok ?_
    cases m with
    | zero =>
      repeat ((conv => whnf); first | (refine And.intro (by first | omega | exact Nat.le_of_ble_eq_true rfl | (dsimp only [inK]; omega) | (simp only [mulS_eq]; omega) | (simp only [mulS_eq, setL_length]; omega) | (simp only [setL_length]; omega) | (simp only [setL_length, List.length_map]; omega) | (exact ⟨by omega, by omega, by first | exact Nat.le_of_ble_eq_true rfl | (dsimp only; omega) | (simp only [setL_length]; omega) | (simp only [setL_length, List.length_map]; omega)⟩) | (exact ⟨by omega, by first | rfl | omega, by omega, Nat.le_of_ble_eq_true rfl, Nat.le_of_ble_eq_true rfl⟩) | (exact ⟨rfl, rfl, rfl, Nat.le_of_ble_eq_true rfl, by first | rfl | omega | exact Nat.le_of_ble_eq_true rfl | (dsimp only; omega) | (simp; done) | (simp; omega), by first | rfl | omega | exact Nat.le_of_ble_eq_true rfl | (dsimp only; omega) | (simp; done) | (simp; omega), by omega, Nat.le_of_ble_eq_true rfl⟩) | exact Eq.refl true) ?_) | refine Exists.intro _ (And.intro rfl ?_) | refine And.intro (And.intro rfl (chk_rowI _ _ _ _)) ?_ | refine br_t (by omega) ?_ | refine br_f (by omega) ?_ | refine bs_t (by omega) ?_ | refine bs_f (by omega) ?_ | refine fun (K' : K3) hK' => ?_ | (refine hK' _ _ _ ?_; clear hK' K') | refine draw_auto tok mixed (by kernel_rfl) ?_ | refine Or.inl ?_ | refine And.intro (Eq.refl oo) ?_ | refine bs_bt (Eq.refl true) ?_ | refine bs_bf (Eq.refl false) ?_ | refine br_bt (Eq.refl true) ?_ | refine br_bf (Eq.refl false) ?_ | refine CallK.m ?_ | refine Two.l ?_ | refine And.intro (And.intro rfl rfl) ?_)
      refine hK' _ _ _ _ ?_
      repeat ((conv => whnf); first | (refine And.intro (by first | omega | exact Nat.le_of_ble_eq_true rfl | (dsimp only [inK]; omega) | (simp only [mulS_eq]; omega) | (simp only [mulS_eq, setL_length]; omega) | (simp only [setL_length]; omega) | (simp only [setL_length, List.length_map]; omega) | (exact ⟨by omega, by omega, by first | exact Nat.le_of_ble_eq_true rfl | (dsimp only; omega) | (simp only [setL_length]; omega) | (simp only [setL_length, List.length_map]; omega)⟩) | (exact ⟨by omega, by first | rfl | omega, by omega, Nat.le_of_ble_eq_true rfl, Nat.le_of_ble_eq_true rfl⟩) | (exact ⟨rfl, rfl, rfl, Nat.le_of_ble_eq_true rfl, by first | rfl | omega | exact Nat.le_of_ble_eq_true rfl | (dsimp only; omega) | (simp; done) | (simp; omega), by first | rfl | omega | exact Nat.le_of_ble_eq_true rfl | (dsimp only; omega) | (simp; done) | (simp; omega), by omega, Nat.le_of_ble_eq_true rfl⟩) | exact Eq.refl true) ?_) | refine Exists.intro _ (And.intro rfl ?_) | refine And.intro (And.intro rfl (chk_rowI _ _ _ _)) ?_ | refine br_t (by omega) ?_ | refine br_f (by omega) ?_ | refine bs_t (by omega) ?_ | refine bs_f (by omega) ?_ | refine fun (K' : K3) hK' => ?_ | (refine hK' _ _ _ ?_; clear hK' K') | refine draw_auto tok mixed (by kernel_rfl) ?_ | refine bs_bt (Eq.refl true) ?_ | refine bs_bf (Eq.refl false) ?_ | refine br_bt (Eq.refl true) ?_ | refine br_bf (Eq.refl false) ?_ | refine CallK.m ?_ | refine Two.l ?_ | refine And.intro (And.intro rfl rfl) ?_)
      intro ρ; rfl
    | succ k =>
      have hld : ((fnL f N).map C.i)[mulS (((k + 1 : Nat) : Int) - 1).toNat 1]? = some (C.i (f k)) := by
        rw [intLz (k := k) (by omega) (by rw [fnL_len]; omega), fnL_get (by omega)]
      have hst : horn f x k (N - k) = horn f x (k + 1) (N - (k + 1)) * x + f k := by
        rw [show N - k = (N - (k + 1)) + 1 by omega]; rfl
      have h1 := hh (k + 1) hm
      have h2 := hh k (by omega)
      have h3 := mul_bd (A := 100000000000000000) (B := 20) h1 hx (by omega) (by omega)
      have h4 := hf k (by omega)
      rw [hst] at h2
      have hk0 : ((k + 1 : Nat) : Int) - 1 = (k : Int) := by omega
      obtain ⟨u, hu⟩ : ∃ u, u = horn f x (k + 1) (N - (k + 1)) := ⟨_, rfl⟩
      rw [← hu] at hst h1 h2 h3 ⊢
      obtain ⟨c, hc⟩ : ∃ c, c = f k := ⟨_, rfl⟩
      rw [← hc] at hst hld h2 h4
      repeat ((conv => whnf); first | (refine And.intro (by first | omega | exact Nat.le_of_ble_eq_true rfl | (dsimp only [inK]; omega) | (simp only [mulS_eq]; omega) | (simp only [mulS_eq, setL_length]; omega) | (simp only [setL_length]; omega) | (simp only [setL_length, List.length_map]; omega) | (exact ⟨by omega, by omega, by first | exact Nat.le_of_ble_eq_true rfl | (dsimp only; omega) | (simp only [setL_length]; omega) | (simp only [setL_length, List.length_map]; omega)⟩) | (exact ⟨by omega, by first | rfl | omega, by omega, Nat.le_of_ble_eq_true rfl, Nat.le_of_ble_eq_true rfl⟩) | (exact ⟨rfl, rfl, rfl, Nat.le_of_ble_eq_true rfl, by first | rfl | omega | exact Nat.le_of_ble_eq_true rfl | (dsimp only; omega) | (simp; done) | (simp; omega), by first | rfl | omega | exact Nat.le_of_ble_eq_true rfl | (dsimp only; omega) | (simp; done) | (simp; omega), by omega, Nat.le_of_ble_eq_true rfl⟩) | exact Eq.refl true) ?_) | with_reducible refine ld (hld) ?_ | refine Exists.intro _ (And.intro rfl ?_) | refine And.intro (And.intro rfl (chk_rowI _ _ _ _)) ?_ | refine br_t (by omega) ?_ | refine br_f (by omega) ?_ | refine bs_t (by omega) ?_ | refine bs_f (by omega) ?_ | refine fun (K' : K3) hK' => ?_ | (refine hK' _ _ _ ?_; clear hK' K') | refine draw_auto tok mixed (by kernel_rfl) ?_ | refine bs_bt (Eq.refl true) ?_ | refine bs_bf (Eq.refl false) ?_ | refine br_bt (Eq.refl true) ?_ | refine br_bf (Eq.refl false) ?_ | refine CallK.m ?_ | refine Two.l ?_ | refine And.intro (And.intro rfl rfl) ?_)
      refine hY _ _ _ _ (Nat.le_of_ble_eq_true rfl) rfl ⟨rfl, trivial⟩ ?_
      intro cxb hcx
      refine vc_ok tok ?_
      repeat ((conv => whnf); first | (refine And.intro (by first | omega | exact Nat.le_of_ble_eq_true rfl | (dsimp only [inK]; omega) | (simp only [mulS_eq]; omega) | (simp only [mulS_eq, setL_length]; omega) | (simp only [setL_length]; omega) | (simp only [setL_length, List.length_map]; omega) | (exact ⟨by omega, by omega, by first | exact Nat.le_of_ble_eq_true rfl | (dsimp only; omega) | (simp only [setL_length]; omega) | (simp only [setL_length, List.length_map]; omega)⟩) | (exact ⟨by omega, by first | rfl | omega, by omega, Nat.le_of_ble_eq_true rfl, Nat.le_of_ble_eq_true rfl⟩) | (exact ⟨rfl, rfl, rfl, Nat.le_of_ble_eq_true rfl, by first | rfl | omega | exact Nat.le_of_ble_eq_true rfl | (dsimp only; omega) | (simp; done) | (simp; omega), by first | rfl | omega | exact Nat.le_of_ble_eq_true rfl | (dsimp only; omega) | (simp; done) | (simp; omega), by omega, Nat.le_of_ble_eq_true rfl⟩) | exact Eq.refl true) ?_) | refine Exists.intro _ (And.intro rfl ?_) | refine And.intro (And.intro rfl (chk_rowI _ _ _ _)) ?_ | refine br_t (by omega) ?_ | refine br_f (by omega) ?_ | refine bs_t (by omega) ?_ | refine bs_f (by omega) ?_ | refine fun (K' : K3) hK' => ?_ | (refine hK' _ _ _ ?_; clear hK' K') | refine draw_auto tok mixed (by kernel_rfl) ?_ | refine And.intro (Eq.refl oo) ?_ | refine bs_bt (Eq.refl true) ?_ | refine bs_bf (Eq.refl false) ?_ | refine br_bt (Eq.refl true) ?_ | refine br_bf (Eq.refl false) ?_ | refine CallK.m ?_ | refine Two.l ?_ | refine And.intro (And.intro rfl rfl) ?_)
      refine vc_ok tok ?_
      repeat ((conv => whnf); first | (refine And.intro (by first | omega | exact Nat.le_of_ble_eq_true rfl | (dsimp only [inK]; omega) | (simp only [mulS_eq]; omega) | (simp only [mulS_eq, setL_length]; omega) | (simp only [setL_length]; omega) | (simp only [setL_length, List.length_map]; omega) | (exact ⟨by omega, by omega, by first | exact Nat.le_of_ble_eq_true rfl | (dsimp only; omega) | (simp only [setL_length]; omega) | (simp only [setL_length, List.length_map]; omega)⟩) | (exact ⟨by omega, by first | rfl | omega, by omega, Nat.le_of_ble_eq_true rfl, Nat.le_of_ble_eq_true rfl⟩) | (exact ⟨rfl, rfl, rfl, Nat.le_of_ble_eq_true rfl, by first | rfl | omega | exact Nat.le_of_ble_eq_true rfl | (dsimp only; omega) | (simp; done) | (simp; omega), by first | rfl | omega | exact Nat.le_of_ble_eq_true rfl | (dsimp only; omega) | (simp; done) | (simp; omega), by omega, Nat.le_of_ble_eq_true rfl⟩) | exact Eq.refl true) ?_) | refine Exists.intro _ (And.intro rfl ?_) | refine And.intro (And.intro rfl (chk_rowI _ _ _ _)) ?_ | refine br_t (by omega) ?_ | refine br_f (by omega) ?_ | refine bs_t (by omega) ?_ | refine bs_f (by omega) ?_ | refine fun (K' : K3) hK' => ?_ | (refine hK' _ _ _ ?_; clear hK' K') | refine draw_auto tok mixed (by kernel_rfl) ?_ | refine And.intro (Eq.refl ob) ?_ | refine bs_bt (Eq.refl true) ?_ | refine bs_bf (Eq.refl false) ?_ | refine br_bt (Eq.refl true) ?_ | refine br_bf (Eq.refl false) ?_ | refine CallK.m ?_ | refine Two.l ?_ | refine And.intro (And.intro rfl rfl) ?_)
      refine ⟨k, [], by omega, Nat.lt_succ_self k, ?_⟩
      refine ⟨?_, ?_, rfl, rfl, by first | exact Nat.le_of_ble_eq_true rfl | exact Nat.le_refl _ | omega⟩
      · repeat (first | exact trivial | (refine And.intro (covS_syn (by first | rfl | (refine congrArg some (congrArg V.i ?_); omega)) rfl (by first | exact trivial | exact Nat.le_of_ble_eq_true rfl | exact hy | exact (fun p hp => nomatch hp) | (show (_ : Nat) < _; omega))) ?_) | refine And.intro (covS_bool rfl rfl (by rfl)) ?_)
      · repeat (first | exact trivial | (refine And.intro (covE_id (Nat.le_of_ble_eq_true rfl) (by first | exact wf_ints _ _ | exact wf_bools _ _ | first | exact wf_us _ _ | (simp [C.wf]; done) | simp [C.wf]) rfl (by first | rfl | ((rw [hst]; rfl)))) ?_))
end Go.Proofs.YtijnimgmpocmaaaDoor

/- Waste: the polynomial of a table of kinds. -/
namespace Go.Proofs.YtijnimgmpocmaaaDoor
open Go.RowKit
set_option linter.unusedVariables false
set_option linter.unusedSimpArgs false
/-- The numbers so far: behind j groups, and i numbers of the next. -/
def plF (t : List Nat) (j d : Nat) : Int := sumN (fun k => srtW t k * fallC k d) j
def plG (t : List Nat) (j i d : Nat) : Int := plF t j d + if d < i then srtW t j * fallC j d else 0
theorem plG_zero (t : List Nat) (j d : Nat) : plG t j 0 d = plF t j d := by unfold plG; rw [if_neg (by omega)]; omega
theorem plG_end (t : List Nat) (j d : Nat) : plG t j (j + 1) d = plF t (j + 1) d := by
  unfold plG
  simp only [plF, sumN]
  congr 1
  by_cases h : d < j + 1
  · rw [if_pos h]
  · rw [if_neg h, fallC_high (by omega)]; simp
def polyP (t : List Nat) (d : Nat) : Int := plF t (t.length + 1) d
theorem mul_nn {u x A B : Int} (hu : 0 ≤ u ∧ u ≤ A) (hx : -B ≤ x ∧ x ≤ B) (hA : 0 ≤ A) (hB : 0 ≤ B) : -(A * B) ≤ u * x ∧ u * x ≤ A * B := mul_bd ⟨by omega, hu.2⟩ hx hA hB
theorem srt_mul (t : List Nat) (h : t.length ≤ 8) {j d : Nat} (hj : j ≤ t.length) (hd : d ≤ 9) : -2000000000 ≤ srtW t j * fallC j d ∧ srtW t j * fallC j d ≤ 2000000000 := by
  have h1 := srtW_bd t h j hj
  have h2 := fallC_bd j (by omega) d hd
  have := mul_nn (A := 100000) (B := 20000) h1 ⟨h2.1, h2.2.1⟩ (by omega) (by omega)
  omega
theorem plF_bd (t : List Nat) (h : t.length ≤ 8) {d : Nat} (hd : d ≤ 9) : ∀ j, j ≤ t.length + 1 → -((j : Int) * 2000000000) ≤ plF t j d ∧ plF t j d ≤ (j : Int) * 2000000000
  | 0, _ => by simp [plF, sumN]
  | j + 1, hj => by
    have h1 := plF_bd t h hd j (by omega)
    have h2 := srt_mul t h (j := j) (by omega) hd
    have e : plF t (j + 1) d = plF t j d + srtW t j * fallC j d := rfl
    rw [e]
    omega
set_option maxRecDepth 10000 in
set_option maxHeartbeats 4000000 in
theorem polynomial_spec (t : List Nat) (n : Nat) (htl : t.length = n) (hn : n ≤ 8) (ht : ∀ s ∈ t, s < 256) : Spec Tryd.prog 61 [V.c (.sl 0 n)] [⟨0, .ro 0, t.map C.u⟩] 1
    (fun v L' _ => ∃ l, v = V.c (.sl l (n + 1)) ∧ find L' l = some ⟨l, .vec 3 1, (fnL (polyP t) (n + 1)).map C.i⟩) := by
  have hsp := sorts_spec t n htl hn ht
  have hz : repC (n + 1) [C.int .i64 0] = (fnL (plF t 0) (n + 1)).map C.i := by rw [repI, fnL_zero]; rfl
  refine Spec.of tok Tryd.func61 rfl rfl rfl fun n0 cx => vc_ok tok ?_
  repeat ((conv => whnf); first | (refine And.intro (by first | omega | exact Nat.le_of_ble_eq_true rfl | (dsimp only [inK]; omega) | (simp only [mulS_eq]; omega) | (simp only [mulS_eq, setL_length]; omega) | (simp only [setL_length]; omega) | (simp only [setL_length, List.length_map]; omega) | (exact ⟨by omega, by omega, by first | exact Nat.le_of_ble_eq_true rfl | (dsimp only; omega) | (simp only [setL_length]; omega) | (simp only [setL_length, List.length_map]; omega)⟩) | (exact ⟨by omega, by first | rfl | omega, by omega, Nat.le_of_ble_eq_true rfl, Nat.le_of_ble_eq_true rfl⟩) | (exact ⟨rfl, rfl, rfl, Nat.le_of_ble_eq_true rfl, by first | rfl | omega | exact Nat.le_of_ble_eq_true rfl | (dsimp only; omega) | (simp; done) | (simp; omega), by first | rfl | omega | exact Nat.le_of_ble_eq_true rfl | (dsimp only; omega) | (simp; done) | (simp; omega), by omega, Nat.le_of_ble_eq_true rfl⟩) | exact Eq.refl true) ?_) | refine Exists.intro _ (And.intro rfl ?_) | refine And.intro (And.intro rfl (chk_rowI _ _ _ _)) ?_ | refine br_t (by omega) ?_ | refine br_f (by omega) ?_ | refine bs_t (by omega) ?_ | refine bs_f (by omega) ?_ | refine fun (K' : K3) hK' => ?_ | (refine hK' _ _ _ ?_; clear hK' K') | refine draw_auto tok mixed (by kernel_rfl) ?_ | refine CallK.rowF (R := []) (flat_i _) hsp (by kernel_rfl) rfl (by simp [V.wf, A.wf, C.wf]) ⟨roE_f (flat_u _) (l := 0) rfl (by omega) rfl (.inl rfl), trivial⟩ rfl ?_ | refine bs_bt (Eq.refl true) ?_ | refine bs_bf (Eq.refl false) ?_ | refine br_bt (Eq.refl true) ?_ | refine br_bf (Eq.refl false) ?_ | refine CallK.m ?_ | refine Two.l ?_ | refine And.intro (And.intro rfl rfl) ?_)
  refine Tri.loop (γ := Nat) (fun j => j ≤ n + 1) (fun j => [(2, V.c .nil), (3, V.c (.sl 1 (n + 1))), (4, V.c (.sl 2 (j + 1))), (15, V.c (.sl 3 (n + 1))), (16, V.i ((n + 1 : Nat) : Int)), (17, V.i (j : Nat))])
    (fun j => [⟨3, .vec 3 1, (fnL (srtW t) (n + 1)).map C.i⟩, ⟨2, .vec 3 1, (fnL (fallC j) (j + 1)).map C.i⟩, ⟨1, .vec 3 1, (fnL (plF t j) (n + 1)).map C.i⟩, ⟨0, .ro 0, t.map C.u⟩]) 4 (fun j => n + 1 - j) 0 (R0 := []) ?_ ?_ ?_
  · omega
  · skip
    refine ⟨?_, ?_, rfl, rfl, by first | exact Nat.le_of_ble_eq_true rfl | exact Nat.le_refl _ | omega⟩
    · repeat (first | exact trivial | (refine And.intro (covS_syn (by rfl) rfl (by first | exact trivial | exact Nat.le_of_ble_eq_true rfl | exact hy | exact (fun p hp => nomatch hp) | (show (_ : Nat) < _; omega))) ?_) | refine And.intro (covS_bool rfl rfl (by rfl)) ?_)
    · repeat (first | exact trivial | (refine And.intro (covE_id (Nat.le_of_ble_eq_true rfl) (by first | exact wf_ints _ _ | exact wf_bools _ _ | first | exact wf_us _ _ | (simp [C.wf]; done) | simp [C.wf]) rfl (by first | rfl | exact hz)) ?_))
  · intro j hj
    refine vc_ok tok ?_
    have hsl : ((fnL (srtW t) (n + 1)).map C.i).length = n + 1 := by rw [List.length_map, fnL_len]
    by_cases hlt : j < n + 1
    · have hld : ((fnL (srtW t) (n + 1)).map C.i)[mulS ((j : Nat) : Int).toNat 1]? = some (C.i (srtW t j)) := by
        rw [intLz rfl (by rw [fnL_len]; omega), fnL_get (by omega)]
      have hti := times_spec j (by omega)
      repeat ((conv => whnf); first | (refine And.intro (by first | omega | exact Nat.le_of_ble_eq_true rfl | (dsimp only [inK]; omega) | (simp only [mulS_eq]; omega) | (simp only [mulS_eq, setL_length]; omega) | (simp only [setL_length]; omega) | (simp only [setL_length, List.length_map]; omega) | (exact ⟨by omega, by omega, by first | exact Nat.le_of_ble_eq_true rfl | (dsimp only; omega) | (simp only [setL_length]; omega) | (simp only [setL_length, List.length_map]; omega)⟩) | (exact ⟨by omega, by first | rfl | omega, by omega, Nat.le_of_ble_eq_true rfl, Nat.le_of_ble_eq_true rfl⟩) | (exact ⟨rfl, rfl, rfl, Nat.le_of_ble_eq_true rfl, by first | rfl | omega | exact Nat.le_of_ble_eq_true rfl | (dsimp only; omega) | (simp; done) | (simp; omega), by first | rfl | omega | exact Nat.le_of_ble_eq_true rfl | (dsimp only; omega) | (simp; done) | (simp; omega), by omega, Nat.le_of_ble_eq_true rfl⟩) | exact Eq.refl true) ?_) | with_reducible refine ld (hld) ?_ | refine Exists.intro _ (And.intro rfl ?_) | refine And.intro (And.intro rfl (chk_rowI _ _ _ _)) ?_ | refine br_t (by omega) ?_ | refine br_f (by omega) ?_ | refine bs_t (by omega) ?_ | refine bs_f (by omega) ?_ | refine fun (K' : K3) hK' => ?_ | (refine hK' _ _ _ ?_; clear hK' K') | refine draw_auto tok mixed (by kernel_rfl) ?_ | refine bs_bt (Eq.refl true) ?_ | refine bs_bf (Eq.refl false) ?_ | refine br_bt (Eq.refl true) ?_ | refine br_bf (Eq.refl false) ?_ | refine CallK.m ?_ | refine Two.l ?_ | refine And.intro (And.intro rfl rfl) ?_)
      refine Tri.loop (γ := Nat) (fun i => i ≤ j + 1) (fun i => [(2, V.c .nil), (3, V.c (.sl 1 (n + 1))), (4, V.c (.sl 2 (j + 1))), (5, V.i (j : Nat)), (6, V.i (srtW t j)), (15, V.c (.sl 3 (n + 1))), (16, V.i ((n + 1 : Nat) : Int)), (17, V.i (j : Nat)), (22, V.c (.sl 2 (j + 1))), (23, V.i ((j + 1 : Nat) : Int)), (24, V.i (i : Nat))])
        (fun i => [⟨3, .vec 3 1, (fnL (srtW t) (n + 1)).map C.i⟩, ⟨2, .vec 3 1, (fnL (fallC j) (j + 1)).map C.i⟩, ⟨1, .vec 3 1, (fnL (plG t j i) (n + 1)).map C.i⟩, ⟨0, .ro 0, t.map C.u⟩]) 4 (fun i => j + 1 - i) 0 (R0 := []) ?_ ?_ ?_
      · omega
      · skip
        refine ⟨?_, ?_, rfl, rfl, by first | exact Nat.le_of_ble_eq_true rfl | exact Nat.le_refl _ | omega⟩
        · repeat (first | exact trivial | (refine And.intro (covS_syn (by rfl) rfl (by first | exact trivial | exact Nat.le_of_ble_eq_true rfl | exact hy | exact (fun p hp => nomatch hp) | (show (_ : Nat) < _; omega))) ?_) | refine And.intro (covS_bool rfl rfl (by rfl)) ?_)
        · repeat (first | exact trivial | (refine And.intro (covE_id (Nat.le_of_ble_eq_true rfl) (by first | exact wf_ints _ _ | exact wf_bools _ _ | first | exact wf_us _ _ | (simp [C.wf]; done) | simp [C.wf]) rfl (by first | rfl | exact congrArg _ (fnL_congr fun d _ => (plG_zero t j d).symm))) ?_))
      · intro i hi
        refine vc_ok tok ?_
        have hfl : ((fnL (fallC j) (j + 1)).map C.i).length = j + 1 := by rw [List.length_map, fnL_len]
        have hgl : ((fnL (plG t j i) (n + 1)).map C.i).length = n + 1 := by rw [List.length_map, fnL_len]
        by_cases hil : i < j + 1
        · have hl1 : ((fnL (fallC j) (j + 1)).map C.i)[mulS ((i : Nat) : Int).toNat 1]? = some (C.i (fallC j i)) := by
            rw [intLz rfl (by rw [fnL_len]; omega), fnL_get (by omega)]
          have e1 : plG t j i i = plF t j i := by unfold plG; rw [if_neg (by omega)]; omega
          have hl2 : ((fnL (plG t j i) (n + 1)).map C.i)[mulS ((i : Nat) : Int).toNat 1]? = some (C.i (plF t j i)) := by
            rw [intLz rfl (by rw [fnL_len]; omega), fnL_get (by omega), e1]
          have hb1 := srt_mul t (by omega) (j := j) (d := i) (by omega) (by omega)
          have hb2 := plF_bd t (by omega) (d := i) (by omega) j (by omega)
          have hfin : setL ((fnL (plG t j i) (n + 1)).map C.i) (mulS ((i : Nat) : Int).toNat 1) [C.i (plF t j i + srtW t j * fallC j i)] = (fnL (plG t j (i + 1)) (n + 1)).map C.i := by
            rw [setI rfl, fnL_set]
            refine congrArg _ (fnL_congr fun d _ => ?_)
            by_cases h : d = i
            · subst h; rw [if_pos rfl]; unfold plG; rw [if_pos (by omega)]
            · rw [if_neg h]; unfold plG
              by_cases h2 : d < i
              · rw [if_pos h2, if_pos (by omega)]
              · rw [if_neg h2, if_neg (by omega)]
          obtain ⟨u, hu⟩ : ∃ u, u = plF t j i := ⟨_, rfl⟩
          rw [← hu] at hl2 hb2 hfin
          repeat ((conv => whnf); first | (refine And.intro (by first | omega | exact Nat.le_of_ble_eq_true rfl | (dsimp only [inK]; omega) | (simp only [mulS_eq]; omega) | (simp only [mulS_eq, setL_length]; omega) | (simp only [setL_length]; omega) | (simp only [setL_length, List.length_map]; omega) | (exact ⟨by omega, by omega, by first | exact Nat.le_of_ble_eq_true rfl | (dsimp only; omega) | (simp only [setL_length]; omega) | (simp only [setL_length, List.length_map]; omega)⟩) | (exact ⟨by omega, by first | rfl | omega, by omega, Nat.le_of_ble_eq_true rfl, Nat.le_of_ble_eq_true rfl⟩) | (exact ⟨rfl, rfl, rfl, Nat.le_of_ble_eq_true rfl, by first | rfl | omega | exact Nat.le_of_ble_eq_true rfl | (dsimp only; omega) | (simp; done) | (simp; omega), by first | rfl | omega | exact Nat.le_of_ble_eq_true rfl | (dsimp only; omega) | (simp; done) | (simp; omega), by omega, Nat.le_of_ble_eq_true rfl⟩) | exact Eq.refl true) ?_) | with_reducible refine ld (hl1) ?_ | with_reducible refine ld (hl2) ?_ | refine Exists.intro _ (And.intro rfl ?_) | refine And.intro (And.intro rfl (chk_rowI _ _ _ _)) ?_ | refine br_t (by omega) ?_ | refine br_f (by omega) ?_ | refine bs_t (by omega) ?_ | refine bs_f (by omega) ?_ | refine fun (K' : K3) hK' => ?_ | (refine hK' _ _ _ ?_; clear hK' K') | refine draw_auto tok mixed (by kernel_rfl) ?_ | refine And.intro ⟨by omega, by omega⟩ ?_ | refine bs_bt (Eq.refl true) ?_ | refine bs_bf (Eq.refl false) ?_ | refine br_bt (Eq.refl true) ?_ | refine br_bf (Eq.refl false) ?_ | refine CallK.m ?_ | refine Two.l ?_ | refine And.intro (And.intro rfl rfl) ?_)
          refine ⟨i + 1, [], by omega, by omega, ?_⟩
          refine ⟨?_, ?_, rfl, rfl, by first | exact Nat.le_of_ble_eq_true rfl | exact Nat.le_refl _ | omega⟩
          · repeat (first | exact trivial | (refine And.intro (covS_syn (by first | rfl | (refine congrArg some (congrArg V.i ?_); omega)) rfl (by first | exact trivial | exact Nat.le_of_ble_eq_true rfl | exact hy | exact (fun p hp => nomatch hp) | (show (_ : Nat) < _; omega))) ?_) | refine And.intro (covS_bool rfl rfl (by rfl)) ?_)
          · repeat (first | exact trivial | (refine And.intro (covE_id (Nat.le_of_ble_eq_true rfl) (by first | exact wf_ints _ _ | exact wf_bools _ _ | first | exact wf_us _ _ | (simp [C.wf]; done) | simp [C.wf]) rfl (by first | rfl | exact hfin)) ?_))
        · obtain rfl : i = j + 1 := by omega
          have hpe : fnL (plG t j (j + 1)) (n + 1) = fnL (plF t (j + 1)) (n + 1) := fnL_congr fun d _ => plG_end t j d
          rw [hpe]
          repeat ((conv => whnf); first | (refine And.intro (by first | omega | exact Nat.le_of_ble_eq_true rfl | (dsimp only [inK]; omega) | (simp only [mulS_eq]; omega) | (simp only [mulS_eq, setL_length]; omega) | (simp only [setL_length]; omega) | (simp only [setL_length, List.length_map]; omega) | (exact ⟨by omega, by omega, by first | exact Nat.le_of_ble_eq_true rfl | (dsimp only; omega) | (simp only [setL_length]; omega) | (simp only [setL_length, List.length_map]; omega)⟩) | (exact ⟨by omega, by first | rfl | omega, by omega, Nat.le_of_ble_eq_true rfl, Nat.le_of_ble_eq_true rfl⟩) | (exact ⟨rfl, rfl, rfl, Nat.le_of_ble_eq_true rfl, by first | rfl | omega | exact Nat.le_of_ble_eq_true rfl | (dsimp only; omega) | (simp; done) | (simp; omega), by first | rfl | omega | exact Nat.le_of_ble_eq_true rfl | (dsimp only; omega) | (simp; done) | (simp; omega), by omega, Nat.le_of_ble_eq_true rfl⟩) | exact Eq.refl true) ?_) | refine Exists.intro _ (And.intro rfl ?_) | refine And.intro (And.intro rfl (chk_rowI _ _ _ _)) ?_ | refine br_t (by omega) ?_ | refine br_f (by omega) ?_ | refine bs_t (by omega) ?_ | refine bs_f (by omega) ?_ | refine fun (K' : K3) hK' => ?_ | (refine hK' _ _ _ ?_; clear hK' K') | refine draw_auto tok mixed (by kernel_rfl) ?_ | refine CallK.rowF (R := [(0, some 2)]) (flat_i _) hti (by kernel_rfl) rfl (by simp [V.wf, A.wf, C.wf, V.i]) ⟨roE_f (flat_i _) (l := 2) rfl (by omega) rfl (.inl rfl), trivial⟩ rfl ?_ | refine bs_bt (Eq.refl true) ?_ | refine bs_bf (Eq.refl false) ?_ | refine br_bt (Eq.refl true) ?_ | refine br_bf (Eq.refl false) ?_ | refine CallK.m ?_ | refine Two.l ?_ | refine And.intro (And.intro rfl rfl) ?_)
          refine ⟨j + 1, [(2, some 4)], by omega, by omega, ?_⟩
          refine ⟨?_, ?_, rfl, rfl, by first | exact Nat.le_of_ble_eq_true rfl | exact Nat.le_refl _ | omega⟩
          · repeat (first | exact trivial | (refine And.intro (covS_syn (by first | rfl | (refine congrArg some (congrArg V.i ?_); omega)) rfl (by first | exact trivial | exact Nat.le_of_ble_eq_true rfl | exact hy | exact (fun p hp => nomatch hp) | (show (_ : Nat) < _; omega))) ?_) | refine And.intro (covS_bool rfl rfl (by rfl)) ?_)
          · repeat (first | exact trivial | refine And.intro (covE_i rfl (Nat.le_of_ble_eq_true rfl) rfl rfl) ?_ | refine And.intro (covE_u rfl (Nat.le_of_ble_eq_true rfl) rfl rfl) ?_ | refine And.intro (covE_nil rfl (Nat.le_of_ble_eq_true rfl) rfl rfl) ?_ | (refine And.intro (covE_some rfl (Nat.le_of_ble_eq_true rfl) (by first | exact wf_ints _ _ | exact wf_bools _ _ | first | exact wf_us _ _ | (simp [C.wf]; done) | simp [C.wf]) rfl (by first | exact ren_ints _ _ | exact ren_bools _ _ | exact ren_shares _ _ | rfl)) ?_))
    · obtain rfl : j = n + 1 := by omega
      have hpe : fnL (plF t (n + 1)) (n + 1) = fnL (polyP t) (n + 1) := by unfold polyP; rw [htl]
      rw [hpe]
      repeat ((conv => whnf); first | (refine And.intro (by first | omega | exact Nat.le_of_ble_eq_true rfl | (dsimp only [inK]; omega) | (simp only [mulS_eq]; omega) | (simp only [mulS_eq, setL_length]; omega) | (simp only [setL_length]; omega) | (simp only [setL_length, List.length_map]; omega) | (exact ⟨by omega, by omega, by first | exact Nat.le_of_ble_eq_true rfl | (dsimp only; omega) | (simp only [setL_length]; omega) | (simp only [setL_length, List.length_map]; omega)⟩) | (exact ⟨by omega, by first | rfl | omega, by omega, Nat.le_of_ble_eq_true rfl, Nat.le_of_ble_eq_true rfl⟩) | (exact ⟨rfl, rfl, rfl, Nat.le_of_ble_eq_true rfl, by first | rfl | omega | exact Nat.le_of_ble_eq_true rfl | (dsimp only; omega) | (simp; done) | (simp; omega), by first | rfl | omega | exact Nat.le_of_ble_eq_true rfl | (dsimp only; omega) | (simp; done) | (simp; omega), by omega, Nat.le_of_ble_eq_true rfl⟩) | exact Eq.refl true) ?_) | refine Exists.intro _ (And.intro rfl ?_) | refine And.intro (And.intro rfl (chk_rowI _ _ _ _)) ?_ | refine br_t (by omega) ?_ | refine br_f (by omega) ?_ | refine bs_t (by omega) ?_ | refine bs_f (by omega) ?_ | refine fun (K' : K3) hK' => ?_ | (refine hK' _ _ _ ?_; clear hK' K') | refine draw_auto tok mixed (by kernel_rfl) ?_ | refine bs_bt (Eq.refl true) ?_ | refine bs_bf (Eq.refl false) ?_ | refine br_bt (Eq.refl true) ?_ | refine br_bf (Eq.refl false) ?_ | refine CallK.m ?_ | refine Two.l ?_ | refine And.intro (And.intro rfl rfl) ?_)
      rfl
end Go.Proofs.YtijnimgmpocmaaaDoor

/- Waste: Poly and Count. -/
namespace Go.Proofs.YtijnimgmpocmaaaDoor
open Go.RowKit
set_option linter.unusedVariables false
set_option linter.unusedSimpArgs false
theorem sumN_abs {f : Nat → Int} {g : Nat → Int} (h : ∀ i, -(g i) ≤ f i ∧ f i ≤ g i) : ∀ n, -(sumN g n) ≤ sumN f n ∧ sumN f n ≤ sumN g n
  | 0 => by simp [sumN]
  | n + 1 => by
    have := sumN_abs h n; have := h n
    simp only [sumN]; omega
theorem polyP_coef (t : List Nat) (d : Nat) : -(coefB t.length d) ≤ polyP t d ∧ polyP t d ≤ coefB t.length d := by
  unfold polyP plF coefB
  refine sumN_abs (fun j => ?_) _
  have h1 : 0 ≤ srtW t j := waysB_nonneg _ _ _ _ _
  have h2 : srtW t j ≤ st t.length 0 j := waysB_st t j t.length 0 []
  have h3 : -((fallC j d).natAbs : Int) ≤ fallC j d ∧ fallC j d ≤ ((fallC j d).natAbs : Int) := by omega
  have := mul_nn ⟨h1, h2⟩ h3 (Int.le_trans h1 h2) (by omega)
  exact this
theorem polyP_high (t : List Nat) {d : Nat} (h : t.length < d) : polyP t d = 0 := sumN_zero fun j hj => by rw [fallC_high (by omega)]; simp
theorem polyP_bd (t : List Nat) (h : t.length ≤ 8) (d : Nat) : -600000 ≤ polyP t d ∧ polyP t d ≤ 600000 := by
  by_cases hd : d ≤ t.length
  · have h1 := polyP_coef t d
    have h2 := coefB_le t.length h d (by omega)
    omega
  · rw [polyP_high t (by omega)]; omega
theorem horn_max : ∀ m, m ≤ 9 → horn (fun _ => 600000) 20 0 m ≤ 100000000000000000 := by decide +kernel
theorem horn_shift (B X : Int) : ∀ m k, horn (fun _ => B) X k m = horn (fun _ => B) X 0 m
  | 0, _ => rfl
  | m + 1, k => by simp only [horn]; rw [horn_shift B X m (k + 1), horn_shift B X m (0 + 1)]
theorem hornB_of (t : List Nat) (h : t.length ≤ 8) {x : Int} (hx : -20 ≤ x ∧ x ≤ 20) : HornB (polyP t) x (t.length + 1) := by
  refine ⟨hx, fun m _ => by have := polyP_bd t h m; omega, fun m hm => ?_⟩
  have h1 := horn_abs (B := 600000) (X := 20) (polyP_bd t h) hx (by omega) (t.length + 1 - m) m
  rw [horn_shift] at h1
  have h2 := horn_max (t.length + 1 - m) (by omega)
  omega
/-- The polynomial of valid kinds. -/
def pol (n : Nat) (qs : List (Nat × Nat)) : Nat → Int := polyP (tabS n qs)
def cntO (n : Nat) (qs : List (Nat × Nat)) (x : Int) : Int := horn (pol n qs) x 0 (n + 1)
theorem tabS_256 {n : Nat} {qs : List (Nat × Nat)} (h : Knd n qs) : ∀ s ∈ tabS n qs, s < 256 := fun s hs => Nat.lt_of_lt_of_le (tabS_lt h.ok s hs) (pow_8 h.rng.2)
theorem tabS_cl {n : Nat} {qs : List (Nat × Nat)} (h : Knd n qs) (a b : Nat) : ((tabS n qs).getD a 0).testBit b = symC (clP qs) a b := tabS_bit h.ok a b
theorem pol_pc {n : Nat} {qs : List (Nat × Nat)} (h : Knd n qs) (d : Nat) : pol n qs d = pc (clP qs) n d := by
  have hl := tabS_len n qs
  unfold pol polyP plF pc polyC
  rw [hl, List.length_range]
  refine sumN_congr fun j _ => ?_
  have : srtW (tabS n qs) j = sig (symC (clP qs)) (List.range n) j := by
    have := waysB_sig (cl := symC (clP qs)) (t := tabS n qs) (fun a b _ _ => tabS_cl h a b) j
    rw [hl] at this
    unfold srtW; rw [hl]; exact this
  rw [this]
theorem cnt_pv {n : Nat} {qs : List (Nat × Nat)} (h : Knd n qs) (x : Int) : cntO n qs x = pv (clP qs) n x := by
  unfold cntO
  rw [horn_eq, pv_coef]
  refine sumN_congr fun d _ => ?_
  rw [Nat.zero_add, pol_pc h]
set_option maxRecDepth 10000 in
set_option maxHeartbeats 4000000 in
theorem count_spec (n : Nat) (x : Int) (qs : List (Nat × Nat)) (hk : Knd n qs) : Spec Tryd.prog 25 [V.agg [C.i n, C.sl 0 (castP qs).length], V.i x] [⟨0, .ro 2, cellC (castP qs)⟩] 1
    (Is (if -10 ≤ x ∧ x ≤ 20 then V.tup [A.c (C.i (cntO n qs x)), A.c (C.i 0)] else V.tup [A.c (C.i 0), A.c (C.i 2)])) := by
  have hnt := newTable_spec n qs hk
  have htl := tabS_len n qs
  have hpo := polynomial_spec (tabS n qs) n htl hk.rng.2 (tabS_256 hk)
  have hbt := between_spec (-10) x 20
  refine Spec.of tok Tryd.func25 rfl rfl rfl fun n0 cx => vc_ok tok ?_
  by_cases hx : -10 ≤ x ∧ x ≤ 20
  · have hat := at_spec (polyP (tabS n qs)) x (n + 1) (by have := hk.rng; omega) (by have := hornB_of (tabS n qs) (by rw [htl]; exact hk.rng.2) (x := x) (by omega); rw [htl] at this; exact this)
    rw [if_pos hx]
    repeat ((conv => whnf); first | (refine And.intro (by first | omega | exact Nat.le_of_ble_eq_true rfl | (dsimp only [inK]; omega) | (simp only [mulS_eq]; omega) | (simp only [mulS_eq, setL_length]; omega) | (simp only [setL_length]; omega) | (simp only [setL_length, List.length_map]; omega) | (exact ⟨by omega, by omega, by first | exact Nat.le_of_ble_eq_true rfl | (dsimp only; omega) | (simp only [setL_length]; omega) | (simp only [setL_length, List.length_map]; omega)⟩) | (exact ⟨by omega, by first | rfl | omega, by omega, Nat.le_of_ble_eq_true rfl, Nat.le_of_ble_eq_true rfl⟩) | (exact ⟨rfl, rfl, rfl, Nat.le_of_ble_eq_true rfl, by first | rfl | omega | exact Nat.le_of_ble_eq_true rfl | (dsimp only; omega) | (simp; done) | (simp; omega), by first | rfl | omega | exact Nat.le_of_ble_eq_true rfl | (dsimp only; omega) | (simp; done) | (simp; omega), by omega, Nat.le_of_ble_eq_true rfl⟩) | exact Eq.refl true) ?_) | refine Exists.intro _ (And.intro rfl ?_) | refine And.intro (And.intro rfl (chk_rowI _ _ _ _)) ?_ | refine br_t (by omega) ?_ | refine br_f (by omega) ?_ | refine bs_t (by omega) ?_ | refine bs_f (by omega) ?_ | refine fun (K' : K3) hK' => ?_ | (refine hK' _ _ _ ?_; clear hK' K') | refine draw_auto tok mixed (by kernel_rfl) ?_ | refine CallK.rowE (R := []) (flat_u _) hnt (by kernel_rfl) rfl (by simp [V.wf, A.wf, C.wf]) ⟨roE_f (flat_c _) (l := 0) rfl (by omega) rfl (.inr rfl), trivial⟩ rfl ?_ | refine CallK.val (R := []) hbt (by kernel_rfl) rfl (by simp [V.wf, A.wf, C.wf, V.i]) trivial rfl rfl trivial ?_ | refine br_bf (nd_f hx) ?_ | refine CallK.rowF (R := [(0, some 2)]) (flat_i _) hpo (by kernel_rfl) rfl (by simp [V.wf, A.wf, C.wf]) ⟨roE_f (flat_u _) (l := 2) rfl (by omega) rfl (.inl rfl), trivial⟩ rfl ?_ | refine CallK.val (R := [(0, some 3)]) hat (by kernel_rfl) rfl (by simp [V.wf, A.wf, C.wf, V.i]) ⟨roE_f (flat_i _) (l := 3) rfl (by omega) rfl (.inl rfl), trivial⟩ rfl rfl trivial ?_ | refine bs_bt (Eq.refl true) ?_ | refine bs_bf (Eq.refl false) ?_ | refine br_bt (Eq.refl true) ?_ | refine br_bf (Eq.refl false) ?_ | refine CallK.m ?_ | refine Two.l ?_ | refine And.intro (And.intro rfl rfl) ?_)
    intro ρ; rfl
  · rw [if_neg hx]
    repeat ((conv => whnf); first | (refine And.intro (by first | omega | exact Nat.le_of_ble_eq_true rfl | (dsimp only [inK]; omega) | (simp only [mulS_eq]; omega) | (simp only [mulS_eq, setL_length]; omega) | (simp only [setL_length]; omega) | (simp only [setL_length, List.length_map]; omega) | (exact ⟨by omega, by omega, by first | exact Nat.le_of_ble_eq_true rfl | (dsimp only; omega) | (simp only [setL_length]; omega) | (simp only [setL_length, List.length_map]; omega)⟩) | (exact ⟨by omega, by first | rfl | omega, by omega, Nat.le_of_ble_eq_true rfl, Nat.le_of_ble_eq_true rfl⟩) | (exact ⟨rfl, rfl, rfl, Nat.le_of_ble_eq_true rfl, by first | rfl | omega | exact Nat.le_of_ble_eq_true rfl | (dsimp only; omega) | (simp; done) | (simp; omega), by first | rfl | omega | exact Nat.le_of_ble_eq_true rfl | (dsimp only; omega) | (simp; done) | (simp; omega), by omega, Nat.le_of_ble_eq_true rfl⟩) | exact Eq.refl true) ?_) | refine Exists.intro _ (And.intro rfl ?_) | refine And.intro (And.intro rfl (chk_rowI _ _ _ _)) ?_ | refine br_t (by omega) ?_ | refine br_f (by omega) ?_ | refine bs_t (by omega) ?_ | refine bs_f (by omega) ?_ | refine fun (K' : K3) hK' => ?_ | (refine hK' _ _ _ ?_; clear hK' K') | refine draw_auto tok mixed (by kernel_rfl) ?_ | refine CallK.rowE (R := []) (flat_u _) hnt (by kernel_rfl) rfl (by simp [V.wf, A.wf, C.wf]) ⟨roE_f (flat_c _) (l := 0) rfl (by omega) rfl (.inr rfl), trivial⟩ rfl ?_ | refine CallK.val (R := []) hbt (by kernel_rfl) rfl (by simp [V.wf, A.wf, C.wf, V.i]) trivial rfl rfl trivial ?_ | refine br_bt (nd_t hx) ?_ | refine bs_bt (Eq.refl true) ?_ | refine bs_bf (Eq.refl false) ?_ | refine br_bt (Eq.refl true) ?_ | refine br_bf (Eq.refl false) ?_ | refine CallK.m ?_ | refine Two.l ?_ | refine And.intro (And.intro rfl rfl) ?_)
    intro ρ; rfl
end Go.Proofs.YtijnimgmpocmaaaDoor

/- Waste: the document's Valid. -/
namespace Go.Proofs.YtijnimgmpocmaaaDoor
open Go.RowKit
set_option linter.unusedVariables false
set_option linter.unusedSimpArgs false
set_option maxRecDepth 10000 in
set_option maxHeartbeats 4000000 in
theorem rvalid_spec (N : Int) (ps : List Cell) (hl : ps.length ≤ 100) : Spec Tryd.prog 22 [V.agg [C.i N, C.sl 0 ps.length]] [⟨0, .ro 2, cellC ps⟩] 1 (Is (V.c (.bool (okK' N ps)))) := by
  have hcl := cellC_len ps
  have hlen : okK' N ps = true → ps.length ≤ 28 := fun h => by
    obtain ⟨n, qs, rfl, rfl, hk⟩ := knd_of h
    rw [castP_len]; exact knd_len hk
  refine Spec.of tok Tryd.func22 rfl rfl rfl fun n0 cx => vc_ok tok ?_
  by_cases h1 : N < 1
  · repeat ((conv => whnf); first | (refine And.intro (by first | omega | exact Nat.le_of_ble_eq_true rfl | (dsimp only [inK]; omega) | (simp only [mulS_eq]; omega) | (simp only [mulS_eq, setL_length]; omega) | (simp only [setL_length]; omega) | (simp only [setL_length, List.length_map]; omega) | (exact ⟨by omega, by omega, by first | exact Nat.le_of_ble_eq_true rfl | (dsimp only; omega) | (simp only [setL_length]; omega) | (simp only [setL_length, List.length_map]; omega)⟩) | (exact ⟨by omega, by first | rfl | omega, by omega, Nat.le_of_ble_eq_true rfl, Nat.le_of_ble_eq_true rfl⟩) | (exact ⟨rfl, rfl, rfl, Nat.le_of_ble_eq_true rfl, by first | rfl | omega | exact Nat.le_of_ble_eq_true rfl | (dsimp only; omega) | (simp; done) | (simp; omega), by first | rfl | omega | exact Nat.le_of_ble_eq_true rfl | (dsimp only; omega) | (simp; done) | (simp; omega), by omega, Nat.le_of_ble_eq_true rfl⟩) | exact Eq.refl true) ?_) | refine Exists.intro _ (And.intro rfl ?_) | refine And.intro (And.intro rfl (chk_rowI _ _ _ _)) ?_ | refine br_t (by omega) ?_ | refine br_f (by omega) ?_ | refine bs_t (by omega) ?_ | refine bs_f (by omega) ?_ | refine fun (K' : K3) hK' => ?_ | (refine hK' _ _ _ ?_; clear hK' K') | refine draw_auto tok mixed (by kernel_rfl) ?_ | refine bs_t h1 ?_ | refine br_t h1 ?_ | refine bs_bt (Eq.refl true) ?_ | refine bs_bf (Eq.refl false) ?_ | refine br_bt (Eq.refl true) ?_ | refine br_bf (Eq.refl false) ?_ | refine CallK.m ?_ | refine Two.l ?_ | refine And.intro (And.intro rfl rfl) ?_)
    intro ρ; show Value.bool _ = Value.bool _; unfold okK'; rw [decide_eq_false (by omega)]; rfl
  by_cases h2 : N > 8
  · repeat ((conv => whnf); first | (refine And.intro (by first | omega | exact Nat.le_of_ble_eq_true rfl | (dsimp only [inK]; omega) | (simp only [mulS_eq]; omega) | (simp only [mulS_eq, setL_length]; omega) | (simp only [setL_length]; omega) | (simp only [setL_length, List.length_map]; omega) | (exact ⟨by omega, by omega, by first | exact Nat.le_of_ble_eq_true rfl | (dsimp only; omega) | (simp only [setL_length]; omega) | (simp only [setL_length, List.length_map]; omega)⟩) | (exact ⟨by omega, by first | rfl | omega, by omega, Nat.le_of_ble_eq_true rfl, Nat.le_of_ble_eq_true rfl⟩) | (exact ⟨rfl, rfl, rfl, Nat.le_of_ble_eq_true rfl, by first | rfl | omega | exact Nat.le_of_ble_eq_true rfl | (dsimp only; omega) | (simp; done) | (simp; omega), by first | rfl | omega | exact Nat.le_of_ble_eq_true rfl | (dsimp only; omega) | (simp; done) | (simp; omega), by omega, Nat.le_of_ble_eq_true rfl⟩) | exact Eq.refl true) ?_) | refine Exists.intro _ (And.intro rfl ?_) | refine And.intro (And.intro rfl (chk_rowI _ _ _ _)) ?_ | refine br_t (by omega) ?_ | refine br_f (by omega) ?_ | refine bs_t (by omega) ?_ | refine bs_f (by omega) ?_ | refine fun (K' : K3) hK' => ?_ | (refine hK' _ _ _ ?_; clear hK' K') | refine draw_auto tok mixed (by kernel_rfl) ?_ | refine bs_f h1 ?_ | refine br_f h1 ?_ | refine bs_t h2 ?_ | refine br_t h2 ?_ | refine bs_bt (Eq.refl true) ?_ | refine bs_bf (Eq.refl false) ?_ | refine br_bt (Eq.refl true) ?_ | refine br_bf (Eq.refl false) ?_ | refine CallK.m ?_ | refine Two.l ?_ | refine And.intro (And.intro rfl rfl) ?_)
    intro ρ; show Value.bool _ = Value.bool _; unfold okK'; rw [decide_eq_false (by omega)]; rfl
  by_cases h3 : (ps.length : Int) > 28
  · repeat ((conv => whnf); first | (refine And.intro (by first | omega | exact Nat.le_of_ble_eq_true rfl | (dsimp only [inK]; omega) | (simp only [mulS_eq]; omega) | (simp only [mulS_eq, setL_length]; omega) | (simp only [setL_length]; omega) | (simp only [setL_length, List.length_map]; omega) | (exact ⟨by omega, by omega, by first | exact Nat.le_of_ble_eq_true rfl | (dsimp only; omega) | (simp only [setL_length]; omega) | (simp only [setL_length, List.length_map]; omega)⟩) | (exact ⟨by omega, by first | rfl | omega, by omega, Nat.le_of_ble_eq_true rfl, Nat.le_of_ble_eq_true rfl⟩) | (exact ⟨rfl, rfl, rfl, Nat.le_of_ble_eq_true rfl, by first | rfl | omega | exact Nat.le_of_ble_eq_true rfl | (dsimp only; omega) | (simp; done) | (simp; omega), by first | rfl | omega | exact Nat.le_of_ble_eq_true rfl | (dsimp only; omega) | (simp; done) | (simp; omega), by omega, Nat.le_of_ble_eq_true rfl⟩) | exact Eq.refl true) ?_) | refine Exists.intro _ (And.intro rfl ?_) | refine And.intro (And.intro rfl (chk_rowI _ _ _ _)) ?_ | refine br_t (by omega) ?_ | refine br_f (by omega) ?_ | refine bs_t (by omega) ?_ | refine bs_f (by omega) ?_ | refine fun (K' : K3) hK' => ?_ | (refine hK' _ _ _ ?_; clear hK' K') | refine draw_auto tok mixed (by kernel_rfl) ?_ | refine bs_f h1 ?_ | refine br_f h1 ?_ | refine bs_f h2 ?_ | refine br_f h2 ?_ | refine bs_t h3 ?_ | refine br_t h3 ?_ | refine bs_bt (Eq.refl true) ?_ | refine bs_bf (Eq.refl false) ?_ | refine br_bt (Eq.refl true) ?_ | refine br_bf (Eq.refl false) ?_ | refine CallK.m ?_ | refine Two.l ?_ | refine And.intro (And.intro rfl rfl) ?_)
    intro ρ; show Value.bool _ = Value.bool _
    cases h : okK' N ps with
    | false => rfl
    | true => have := hlen h; omega
  repeat ((conv => whnf); first | (refine And.intro (by first | omega | exact Nat.le_of_ble_eq_true rfl | (dsimp only [inK]; omega) | (simp only [mulS_eq]; omega) | (simp only [mulS_eq, setL_length]; omega) | (simp only [setL_length]; omega) | (simp only [setL_length, List.length_map]; omega) | (exact ⟨by omega, by omega, by first | exact Nat.le_of_ble_eq_true rfl | (dsimp only; omega) | (simp only [setL_length]; omega) | (simp only [setL_length, List.length_map]; omega)⟩) | (exact ⟨by omega, by first | rfl | omega, by omega, Nat.le_of_ble_eq_true rfl, Nat.le_of_ble_eq_true rfl⟩) | (exact ⟨rfl, rfl, rfl, Nat.le_of_ble_eq_true rfl, by first | rfl | omega | exact Nat.le_of_ble_eq_true rfl | (dsimp only; omega) | (simp; done) | (simp; omega), by first | rfl | omega | exact Nat.le_of_ble_eq_true rfl | (dsimp only; omega) | (simp; done) | (simp; omega), by omega, Nat.le_of_ble_eq_true rfl⟩) | exact Eq.refl true) ?_) | refine Exists.intro _ (And.intro rfl ?_) | refine And.intro (And.intro rfl (chk_rowI _ _ _ _)) ?_ | refine br_t (by omega) ?_ | refine br_f (by omega) ?_ | refine bs_t (by omega) ?_ | refine bs_f (by omega) ?_ | refine fun (K' : K3) hK' => ?_ | (refine hK' _ _ _ ?_; clear hK' K') | refine draw_auto tok mixed (by kernel_rfl) ?_ | refine bs_f h1 ?_ | refine br_f h1 ?_ | refine bs_f h2 ?_ | refine br_f h2 ?_ | refine bs_f h3 ?_ | refine br_f h3 ?_ | refine bs_bt (Eq.refl true) ?_ | refine bs_bf (Eq.refl false) ?_ | refine br_bt (Eq.refl true) ?_ | refine br_bf (Eq.refl false) ?_ | refine CallK.m ?_ | refine Two.l ?_ | refine And.intro (And.intro rfl rfl) ?_)
  refine Tri.loop (γ := Nat) (fun k => k ≤ ps.length ∧ okPk N ps k = true) (fun k => [(1, V.c (.ptr 1 0)), (2, V.c .ff), (22, V.c (.sl 0 ps.length)), (23, V.i ps.length), (24, V.i (k : Nat))])
    (fun k => [⟨1, .own 24, [C.i N, .sl 0 ps.length]⟩, ⟨0, .ro 2, cellC ps⟩]) 2 (fun k => ps.length - k) 0 (R0 := []) ?_ ?_ ?_
  · exact ⟨by omega, rfl⟩
  · skip
    refine ⟨?_, ?_, rfl, rfl, by first | exact Nat.le_of_ble_eq_true rfl | exact Nat.le_refl _ | omega⟩
    · repeat (first | exact trivial | (refine And.intro (covS_syn (by rfl) rfl (by first | exact trivial | exact Nat.le_of_ble_eq_true rfl | exact hy | exact (fun p hp => nomatch hp) | (show (_ : Nat) < _; omega))) ?_) | refine And.intro (covS_bool rfl rfl (by rfl)) ?_)
    · repeat (first | exact trivial | (refine And.intro (covE_id (Nat.le_of_ble_eq_true rfl) (by first | exact wf_ints _ _ | exact wf_bools _ _ | first | exact wf_us _ _ | exact wf_cells _ _ | (simp [C.wf]; done) | simp [C.wf]) rfl (by rfl)) ?_))
  · rintro k ⟨hk, hok⟩
    refine vc_ok tok ?_
    by_cases hlt : k < ps.length
    · have hbad : badP N ps k = (decide ((ps.getD k cz).1 < 0) || (decide ((ps.getD k cz).1 ≥ (ps.getD k cz).2) || (decide ((ps.getD k cz).2 ≥ N) || seenP ps k (ps.getD k cz)))) := rfl
      have hld := cellT (l := ps) (k := k) rfl hlt
      change takeC (cellC ps) (mulS ((k : Nat) : Int).toNat 2) 2 = some [C.i (ps.getD k cz).1, C.i (ps.getD k cz).2] at hld
      have fails : badP N ps k = true → okK' N ps = false := fun h => by
        unfold okK'; rw [okPk_false hlt h]; simp
      obtain ⟨p, hp⟩ : ∃ p, p = ps.getD k cz := ⟨_, rfl⟩
      rw [← hp] at hbad hld
      by_cases h4 : p.1 < 0
      · repeat ((conv => whnf); first | (refine And.intro (by first | omega | exact Nat.le_of_ble_eq_true rfl | (dsimp only [inK]; omega) | (simp only [mulS_eq]; omega) | (simp only [mulS_eq, setL_length]; omega) | (simp only [setL_length]; omega) | (simp only [setL_length, List.length_map]; omega) | (exact ⟨by omega, by omega, by first | exact Nat.le_of_ble_eq_true rfl | (dsimp only; omega) | (simp only [setL_length]; omega) | (simp only [setL_length, List.length_map]; omega)⟩) | (exact ⟨by omega, by first | rfl | omega, by omega, Nat.le_of_ble_eq_true rfl, Nat.le_of_ble_eq_true rfl⟩) | (exact ⟨rfl, rfl, rfl, Nat.le_of_ble_eq_true rfl, by first | rfl | omega | exact Nat.le_of_ble_eq_true rfl | (dsimp only; omega) | (simp; done) | (simp; omega), by first | rfl | omega | exact Nat.le_of_ble_eq_true rfl | (dsimp only; omega) | (simp; done) | (simp; omega), by omega, Nat.le_of_ble_eq_true rfl⟩) | exact Eq.refl true) ?_) | with_reducible refine ld (hld) ?_ | refine Exists.intro _ (And.intro rfl ?_) | refine And.intro (And.intro rfl (chk_rowI _ _ _ _)) ?_ | refine br_t (by omega) ?_ | refine br_f (by omega) ?_ | refine bs_t (by omega) ?_ | refine bs_f (by omega) ?_ | refine fun (K' : K3) hK' => ?_ | (refine hK' _ _ _ ?_; clear hK' K') | refine draw_auto tok mixed (by kernel_rfl) ?_ | refine bs_t h4 ?_ | refine br_t h4 ?_ | refine bs_bt (Eq.refl true) ?_ | refine bs_bf (Eq.refl false) ?_ | refine br_bt (Eq.refl true) ?_ | refine br_bf (Eq.refl false) ?_ | refine CallK.m ?_ | refine Two.l ?_ | refine And.intro (And.intro rfl rfl) ?_)
        intro ρ; rw [fails (by rw [hbad]; simp [h4])]; rfl
      by_cases h5 : p.1 ≥ p.2
      · repeat ((conv => whnf); first | (refine And.intro (by first | omega | exact Nat.le_of_ble_eq_true rfl | (dsimp only [inK]; omega) | (simp only [mulS_eq]; omega) | (simp only [mulS_eq, setL_length]; omega) | (simp only [setL_length]; omega) | (simp only [setL_length, List.length_map]; omega) | (exact ⟨by omega, by omega, by first | exact Nat.le_of_ble_eq_true rfl | (dsimp only; omega) | (simp only [setL_length]; omega) | (simp only [setL_length, List.length_map]; omega)⟩) | (exact ⟨by omega, by first | rfl | omega, by omega, Nat.le_of_ble_eq_true rfl, Nat.le_of_ble_eq_true rfl⟩) | (exact ⟨rfl, rfl, rfl, Nat.le_of_ble_eq_true rfl, by first | rfl | omega | exact Nat.le_of_ble_eq_true rfl | (dsimp only; omega) | (simp; done) | (simp; omega), by first | rfl | omega | exact Nat.le_of_ble_eq_true rfl | (dsimp only; omega) | (simp; done) | (simp; omega), by omega, Nat.le_of_ble_eq_true rfl⟩) | exact Eq.refl true) ?_) | with_reducible refine ld (hld) ?_ | refine Exists.intro _ (And.intro rfl ?_) | refine And.intro (And.intro rfl (chk_rowI _ _ _ _)) ?_ | refine br_t (by omega) ?_ | refine br_f (by omega) ?_ | refine bs_t (by omega) ?_ | refine bs_f (by omega) ?_ | refine fun (K' : K3) hK' => ?_ | (refine hK' _ _ _ ?_; clear hK' K') | refine draw_auto tok mixed (by kernel_rfl) ?_ | refine bs_f h4 ?_ | refine br_f h4 ?_ | refine bs_t h5 ?_ | refine br_t h5 ?_ | refine bs_bt (Eq.refl true) ?_ | refine bs_bf (Eq.refl false) ?_ | refine br_bt (Eq.refl true) ?_ | refine br_bf (Eq.refl false) ?_ | refine CallK.m ?_ | refine Two.l ?_ | refine And.intro (And.intro rfl rfl) ?_)
        intro ρ; rw [fails (by rw [hbad]; simp [h5])]; rfl
      by_cases h6 : p.2 ≥ N
      · repeat ((conv => whnf); first | (refine And.intro (by first | omega | exact Nat.le_of_ble_eq_true rfl | (dsimp only [inK]; omega) | (simp only [mulS_eq]; omega) | (simp only [mulS_eq, setL_length]; omega) | (simp only [setL_length]; omega) | (simp only [setL_length, List.length_map]; omega) | (exact ⟨by omega, by omega, by first | exact Nat.le_of_ble_eq_true rfl | (dsimp only; omega) | (simp only [setL_length]; omega) | (simp only [setL_length, List.length_map]; omega)⟩) | (exact ⟨by omega, by first | rfl | omega, by omega, Nat.le_of_ble_eq_true rfl, Nat.le_of_ble_eq_true rfl⟩) | (exact ⟨rfl, rfl, rfl, Nat.le_of_ble_eq_true rfl, by first | rfl | omega | exact Nat.le_of_ble_eq_true rfl | (dsimp only; omega) | (simp; done) | (simp; omega), by first | rfl | omega | exact Nat.le_of_ble_eq_true rfl | (dsimp only; omega) | (simp; done) | (simp; omega), by omega, Nat.le_of_ble_eq_true rfl⟩) | exact Eq.refl true) ?_) | with_reducible refine ld (hld) ?_ | refine Exists.intro _ (And.intro rfl ?_) | refine And.intro (And.intro rfl (chk_rowI _ _ _ _)) ?_ | refine br_t (by omega) ?_ | refine br_f (by omega) ?_ | refine bs_t (by omega) ?_ | refine bs_f (by omega) ?_ | refine fun (K' : K3) hK' => ?_ | (refine hK' _ _ _ ?_; clear hK' K') | refine draw_auto tok mixed (by kernel_rfl) ?_ | refine bs_f h4 ?_ | refine br_f h4 ?_ | refine bs_f h5 ?_ | refine br_f h5 ?_ | refine bs_t h6 ?_ | refine br_t h6 ?_ | refine bs_bt (Eq.refl true) ?_ | refine bs_bf (Eq.refl false) ?_ | refine br_bt (Eq.refl true) ?_ | refine br_bf (Eq.refl false) ?_ | refine CallK.m ?_ | refine Two.l ?_ | refine And.intro (And.intro rfl rfl) ?_)
        intro ρ; rw [fails (by rw [hbad]; simp [h6])]; rfl
      repeat ((conv => whnf); first | (refine And.intro (by first | omega | exact Nat.le_of_ble_eq_true rfl | (dsimp only [inK]; omega) | (simp only [mulS_eq]; omega) | (simp only [mulS_eq, setL_length]; omega) | (simp only [setL_length]; omega) | (simp only [setL_length, List.length_map]; omega) | (exact ⟨by omega, by omega, by first | exact Nat.le_of_ble_eq_true rfl | (dsimp only; omega) | (simp only [setL_length]; omega) | (simp only [setL_length, List.length_map]; omega)⟩) | (exact ⟨by omega, by first | rfl | omega, by omega, Nat.le_of_ble_eq_true rfl, Nat.le_of_ble_eq_true rfl⟩) | (exact ⟨rfl, rfl, rfl, Nat.le_of_ble_eq_true rfl, by first | rfl | omega | exact Nat.le_of_ble_eq_true rfl | (dsimp only; omega) | (simp; done) | (simp; omega), by first | rfl | omega | exact Nat.le_of_ble_eq_true rfl | (dsimp only; omega) | (simp; done) | (simp; omega), by omega, Nat.le_of_ble_eq_true rfl⟩) | exact Eq.refl true) ?_) | with_reducible refine ld (hld) ?_ | refine Exists.intro _ (And.intro rfl ?_) | refine And.intro (And.intro rfl (chk_rowI _ _ _ _)) ?_ | refine br_t (by omega) ?_ | refine br_f (by omega) ?_ | refine bs_t (by omega) ?_ | refine bs_f (by omega) ?_ | refine fun (K' : K3) hK' => ?_ | (refine hK' _ _ _ ?_; clear hK' K') | refine draw_auto tok mixed (by kernel_rfl) ?_ | refine bs_f h4 ?_ | refine br_f h4 ?_ | refine bs_f h5 ?_ | refine br_f h5 ?_ | refine bs_f h6 ?_ | refine br_f h6 ?_ | refine bs_bt (Eq.refl true) ?_ | refine bs_bf (Eq.refl false) ?_ | refine br_bt (Eq.refl true) ?_ | refine br_bf (Eq.refl false) ?_ | refine CallK.m ?_ | refine Two.l ?_ | refine And.intro (And.intro rfl rfl) ?_)
      refine Tri.loop (γ := Nat) (fun j => j ≤ k ∧ ∀ i, i < j → ps.getD i cz ≠ p) (fun j => [(1, V.c (.ptr 1 0)), (2, V.c .ff), (3, V.i (k : Nat)), (4, V.c (.ptr 2 0)), (22, V.c (.sl 0 ps.length)), (23, V.i ps.length), (24, V.i (k : Nat)), (49, V.c (.sl 0 k)), (50, V.i (k : Nat)), (51, V.i (j : Nat))])
        (fun j => [⟨2, .own 59, [C.i p.1, C.i p.2]⟩, ⟨1, .own 24, [C.i N, .sl 0 ps.length]⟩, ⟨0, .ro 2, cellC ps⟩]) 3 (fun j => k - j) 0 (R0 := []) ?_ ?_ ?_
      · exact ⟨by omega, by omega⟩
      · skip
        refine ⟨?_, ?_, rfl, rfl, by first | exact Nat.le_of_ble_eq_true rfl | exact Nat.le_refl _ | omega⟩
        · repeat (first | exact trivial | (refine And.intro (covS_syn (by rfl) rfl (by first | exact trivial | exact Nat.le_of_ble_eq_true rfl | exact hy | exact (fun p hp => nomatch hp) | (show (_ : Nat) < _; omega))) ?_) | refine And.intro (covS_bool rfl rfl (by rfl)) ?_)
        · repeat (first | exact trivial | (refine And.intro (covE_id (Nat.le_of_ble_eq_true rfl) (by first | exact wf_ints _ _ | exact wf_bools _ _ | first | exact wf_us _ _ | exact wf_cells _ _ | (simp [C.wf]; done) | simp [C.wf]) rfl (by rfl)) ?_))
      · rintro j ⟨hj, hne⟩
        refine vc_ok tok ?_
        by_cases hjk : j < k
        · have hlj := cellT (l := ps) (k := j) rfl (by omega)
          change takeC (cellC ps) (mulS ((j : Nat) : Int).toNat 2) 2 = some [C.i (ps.getD j cz).1, C.i (ps.getD j cz).2] at hlj
          cases he : (decide (p.1 = (ps.getD j cz).1) && (decide (p.2 = (ps.getD j cz).2) && true)) with
          | true =>
            repeat ((conv => whnf); first | (refine And.intro (by first | omega | exact Nat.le_of_ble_eq_true rfl | (dsimp only [inK]; omega) | (simp only [mulS_eq]; omega) | (simp only [mulS_eq, setL_length]; omega) | (simp only [setL_length]; omega) | (simp only [setL_length, List.length_map]; omega) | (exact ⟨by omega, by omega, by first | exact Nat.le_of_ble_eq_true rfl | (dsimp only; omega) | (simp only [setL_length]; omega) | (simp only [setL_length, List.length_map]; omega)⟩) | (exact ⟨by omega, by first | rfl | omega, by omega, Nat.le_of_ble_eq_true rfl, Nat.le_of_ble_eq_true rfl⟩) | (exact ⟨rfl, rfl, rfl, Nat.le_of_ble_eq_true rfl, by first | rfl | omega | exact Nat.le_of_ble_eq_true rfl | (dsimp only; omega) | (simp; done) | (simp; omega), by first | rfl | omega | exact Nat.le_of_ble_eq_true rfl | (dsimp only; omega) | (simp; done) | (simp; omega), by omega, Nat.le_of_ble_eq_true rfl⟩) | exact Eq.refl true) ?_) | with_reducible refine ld (hlj) ?_ | refine Exists.intro _ (And.intro rfl ?_) | refine And.intro (And.intro rfl (chk_rowI _ _ _ _)) ?_ | refine br_t (by omega) ?_ | refine br_f (by omega) ?_ | refine bs_t (by omega) ?_ | refine bs_f (by omega) ?_ | refine fun (K' : K3) hK' => ?_ | (refine hK' _ _ _ ?_; clear hK' K') | refine draw_auto tok mixed (by kernel_rfl) ?_ | refine br_bt he ?_ | refine bs_bt (Eq.refl true) ?_ | refine bs_bf (Eq.refl false) ?_ | refine br_bt (Eq.refl true) ?_ | refine br_bf (Eq.refl false) ?_ | refine CallK.m ?_ | refine Two.l ?_ | refine And.intro (And.intro rfl rfl) ?_)
            intro ρ; rw [fails]; rfl
            rw [hbad]
            have : seenP ps k p = true := by
              unfold seenP
              rw [List.any_eq_true]
              refine ⟨ps.getD j cz, ?_, ?_⟩
              · rw [List.mem_take_iff_getElem]; exact ⟨j, by omega, by simp [List.getD_eq_getElem?_getD, show j < ps.length by omega]⟩
              · simp at he; simp; exact Prod.ext he.1.symm he.2.symm
            rw [this]; simp
          | false =>
            repeat ((conv => whnf); first | (refine And.intro (by first | omega | exact Nat.le_of_ble_eq_true rfl | (dsimp only [inK]; omega) | (simp only [mulS_eq]; omega) | (simp only [mulS_eq, setL_length]; omega) | (simp only [setL_length]; omega) | (simp only [setL_length, List.length_map]; omega) | (exact ⟨by omega, by omega, by first | exact Nat.le_of_ble_eq_true rfl | (dsimp only; omega) | (simp only [setL_length]; omega) | (simp only [setL_length, List.length_map]; omega)⟩) | (exact ⟨by omega, by first | rfl | omega, by omega, Nat.le_of_ble_eq_true rfl, Nat.le_of_ble_eq_true rfl⟩) | (exact ⟨rfl, rfl, rfl, Nat.le_of_ble_eq_true rfl, by first | rfl | omega | exact Nat.le_of_ble_eq_true rfl | (dsimp only; omega) | (simp; done) | (simp; omega), by first | rfl | omega | exact Nat.le_of_ble_eq_true rfl | (dsimp only; omega) | (simp; done) | (simp; omega), by omega, Nat.le_of_ble_eq_true rfl⟩) | exact Eq.refl true) ?_) | with_reducible refine ld (hlj) ?_ | refine Exists.intro _ (And.intro rfl ?_) | refine And.intro (And.intro rfl (chk_rowI _ _ _ _)) ?_ | refine br_t (by omega) ?_ | refine br_f (by omega) ?_ | refine bs_t (by omega) ?_ | refine bs_f (by omega) ?_ | refine fun (K' : K3) hK' => ?_ | (refine hK' _ _ _ ?_; clear hK' K') | refine draw_auto tok mixed (by kernel_rfl) ?_ | refine br_bf he ?_ | refine bs_bt (Eq.refl true) ?_ | refine bs_bf (Eq.refl false) ?_ | refine br_bt (Eq.refl true) ?_ | refine br_bf (Eq.refl false) ?_ | refine CallK.m ?_ | refine Two.l ?_ | refine And.intro (And.intro rfl rfl) ?_)
            refine ⟨j + 1, [], ⟨by omega, fun i hi => ?_⟩, by omega, ?_⟩
            · by_cases h : i = j
              · rw [h]; intro hh; rw [hh] at he; simp at he
              · exact hne i (by omega)
            refine ⟨?_, ?_, rfl, rfl, by first | exact Nat.le_of_ble_eq_true rfl | exact Nat.le_refl _ | omega⟩
            · repeat (first | exact trivial | (refine And.intro (covS_syn (by first | rfl | (refine congrArg some (congrArg V.i ?_); omega)) rfl (by first | exact trivial | exact Nat.le_of_ble_eq_true rfl | exact hy | exact (fun p hp => nomatch hp) | (show (_ : Nat) < _; omega))) ?_) | refine And.intro (covS_bool rfl rfl (by rfl)) ?_)
            · repeat (first | exact trivial | (refine And.intro (covE_id (Nat.le_of_ble_eq_true rfl) (by first | exact wf_ints _ _ | exact wf_bools _ _ | first | exact wf_us _ _ | exact wf_cells _ _ | (simp [C.wf]; done) | simp [C.wf]) rfl (by rfl)) ?_))
        · obtain rfl : j = k := by omega
          have hsn : seenP ps j p = false := by
            unfold seenP
            rw [List.any_eq_false]
            intro q hq
            rw [List.mem_take_iff_getElem] at hq
            obtain ⟨i, hi, rfl⟩ := hq
            have := hne i (by omega)
            simpa [List.getD_eq_getElem?_getD, show i < ps.length by omega] using this
          repeat ((conv => whnf); first | (refine And.intro (by first | omega | exact Nat.le_of_ble_eq_true rfl | (dsimp only [inK]; omega) | (simp only [mulS_eq]; omega) | (simp only [mulS_eq, setL_length]; omega) | (simp only [setL_length]; omega) | (simp only [setL_length, List.length_map]; omega) | (exact ⟨by omega, by omega, by first | exact Nat.le_of_ble_eq_true rfl | (dsimp only; omega) | (simp only [setL_length]; omega) | (simp only [setL_length, List.length_map]; omega)⟩) | (exact ⟨by omega, by first | rfl | omega, by omega, Nat.le_of_ble_eq_true rfl, Nat.le_of_ble_eq_true rfl⟩) | (exact ⟨rfl, rfl, rfl, Nat.le_of_ble_eq_true rfl, by first | rfl | omega | exact Nat.le_of_ble_eq_true rfl | (dsimp only; omega) | (simp; done) | (simp; omega), by first | rfl | omega | exact Nat.le_of_ble_eq_true rfl | (dsimp only; omega) | (simp; done) | (simp; omega), by omega, Nat.le_of_ble_eq_true rfl⟩) | exact Eq.refl true) ?_) | refine Exists.intro _ (And.intro rfl ?_) | refine And.intro (And.intro rfl (chk_rowI _ _ _ _)) ?_ | refine br_t (by omega) ?_ | refine br_f (by omega) ?_ | refine bs_t (by omega) ?_ | refine bs_f (by omega) ?_ | refine fun (K' : K3) hK' => ?_ | (refine hK' _ _ _ ?_; clear hK' K') | refine draw_auto tok mixed (by kernel_rfl) ?_ | refine bs_bt (Eq.refl true) ?_ | refine bs_bf (Eq.refl false) ?_ | refine br_bt (Eq.refl true) ?_ | refine br_bf (Eq.refl false) ?_ | refine CallK.m ?_ | refine Two.l ?_ | refine And.intro (And.intro rfl rfl) ?_)
          refine ⟨j + 1, [], ⟨by omega, by rw [okPk_succ, hok, hbad, dd_f h4, dd_f h5, dd_f h6, hsn]; rfl⟩, by omega, ?_⟩
          refine ⟨?_, ?_, rfl, rfl, by first | exact Nat.le_of_ble_eq_true rfl | exact Nat.le_refl _ | omega⟩
          · repeat (first | exact trivial | (refine And.intro (covS_syn (by first | rfl | (refine congrArg some (congrArg V.i ?_); omega)) rfl (by first | exact trivial | exact Nat.le_of_ble_eq_true rfl | exact hy | exact (fun p hp => nomatch hp) | (show (_ : Nat) < _; omega))) ?_) | refine And.intro (covS_bool rfl rfl (by rfl)) ?_)
          · repeat (first | exact trivial | (refine And.intro (covE_id (Nat.le_of_ble_eq_true rfl) (by first | exact wf_ints _ _ | exact wf_bools _ _ | first | exact wf_us _ _ | exact wf_cells _ _ | (simp [C.wf]; done) | simp [C.wf]) rfl (by rfl)) ?_))
    · have hkl : k = ps.length := by omega
      subst hkl
      repeat ((conv => whnf); first | (refine And.intro (by first | omega | exact Nat.le_of_ble_eq_true rfl | (dsimp only [inK]; omega) | (simp only [mulS_eq]; omega) | (simp only [mulS_eq, setL_length]; omega) | (simp only [setL_length]; omega) | (simp only [setL_length, List.length_map]; omega) | (exact ⟨by omega, by omega, by first | exact Nat.le_of_ble_eq_true rfl | (dsimp only; omega) | (simp only [setL_length]; omega) | (simp only [setL_length, List.length_map]; omega)⟩) | (exact ⟨by omega, by first | rfl | omega, by omega, Nat.le_of_ble_eq_true rfl, Nat.le_of_ble_eq_true rfl⟩) | (exact ⟨rfl, rfl, rfl, Nat.le_of_ble_eq_true rfl, by first | rfl | omega | exact Nat.le_of_ble_eq_true rfl | (dsimp only; omega) | (simp; done) | (simp; omega), by first | rfl | omega | exact Nat.le_of_ble_eq_true rfl | (dsimp only; omega) | (simp; done) | (simp; omega), by omega, Nat.le_of_ble_eq_true rfl⟩) | exact Eq.refl true) ?_) | refine Exists.intro _ (And.intro rfl ?_) | refine And.intro (And.intro rfl (chk_rowI _ _ _ _)) ?_ | refine br_t (by omega) ?_ | refine br_f (by omega) ?_ | refine bs_t (by omega) ?_ | refine bs_f (by omega) ?_ | refine fun (K' : K3) hK' => ?_ | (refine hK' _ _ _ ?_; clear hK' K') | refine draw_auto tok mixed (by kernel_rfl) ?_ | refine bs_bt (Eq.refl true) ?_ | refine bs_bf (Eq.refl false) ?_ | refine br_bt (Eq.refl true) ?_ | refine br_bf (Eq.refl false) ?_ | refine CallK.m ?_ | refine Two.l ?_ | refine And.intro (And.intro rfl rfl) ?_)
      intro ρ; show Value.bool _ = Value.bool _; unfold okK'; rw [hok, decide_eq_true (by omega)]; rfl
end Go.Proofs.YtijnimgmpocmaaaDoor

/- Waste: SameInts. -/
namespace Go.Proofs.YtijnimgmpocmaaaDoor
open Go.RowKit
set_option linter.unusedVariables false
set_option linter.unusedSimpArgs false
end Go.Proofs.YtijnimgmpocmaaaDoor

/- Waste: the document's clash, At, SameInts. -/
namespace Go.Proofs.YtijnimgmpocmaaaDoor
open Go.RowKit
set_option linter.unusedVariables false
set_option linter.unusedSimpArgs false
def clashI (ps : List Cell) (a b : Int) : Bool := ps.any fun p => decide (p.1 = (if b < a then b else a)) && (decide (p.2 = (if b > a then b else a)) && true)
end Go.Proofs.YtijnimgmpocmaaaDoor

/- Waste: how kinds, fillings and numbers that came in read. -/
namespace Go.Proofs.YtijnimgmpocmaaaDoor
open Go.RowKit
set_option linter.unusedVariables false
set_option linter.unusedSimpArgs false
open Go.ChangeShapes Go.WideShapes Go.ChangeAt Go.RowKit Go.Deep Go.Joins
theorem ro_at {w : World} {a : Addr} {cs : List Value} (h : ∀ i, i < cs.length → w.cell? (a.add i) = some (cs.getD i undef)) : RoAt w (some a) cs := by
  intro hne
  have hp : 0 < cs.length := List.length_pos_iff.2 hne
  obtain ⟨b, off, spot⟩ := a
  have hspot : spot = none := by simpa [Addr.add] using World.cell?_spot (h 0 hp)
  subst hspot
  refine ⟨b, off, rfl, ?_, fun j hj => by rw [← Go.WideShapes.add_plain]; exact h j hj⟩
  have := World.block_lt_of_cell? _ _ (h 0 hp)
  simpa [Addr.add] using this
theorem add_add (a : Addr) (i j : Nat) : (a.add i).add j = a.add (i + j) := by
  unfold Addr.add
  by_cases hi : i = 0
  · subst hi; simp
  · by_cases hj : j = 0
    · subst hj; simp [hi]
    · simp [hi, hj, Nat.add_assoc]
def cellV (l : List Cell) : List Value := l.flatMap fun x => [.int .i64 x.1, .int .i64 x.2]
theorem cellV_len (l : List Cell) : (cellV l).length = 2 * l.length := by
  induction l with
  | nil => rfl
  | cons x l ih => simp only [cellV, List.flatMap_cons, List.length_append] at *; simp [ih]; omega
theorem cellV_get : ∀ {l : List Cell} {k : Nat}, k < l.length → (cellV l).getD (k * 2) undef = .int .i64 (l.getD k (0, 0)).1 ∧ (cellV l).getD (k * 2 + 1) undef = .int .i64 (l.getD k (0, 0)).2
  | x :: l, 0, _ => ⟨rfl, rfl⟩
  | x :: l, k + 1, h => by
    have := cellV_get (l := l) (k := k) (by simpa using h)
    simp only [cellV, List.flatMap_cons] at *
    rw [show (k + 1) * 2 + 1 = k * 2 + 1 + 1 + 1 by omega, show (k + 1) * 2 = k * 2 + 1 + 1 by omega]
    simpa using this
theorem den_cells (ρ : Env) (l : List Cell) : (cellC l).map (C.den ρ) = cellV l := by
  induction l with
  | nil => rfl
  | cons x l ih => simp only [cellC, cellV, List.flatMap_cons, List.map_append] at *; rw [ih]; rfl
def CellsAt (W : World) (ao : Option Addr) (c : Nat) (l : List Cell) : Prop := RoAt W ao (cellV l) ∧ l.length ≤ c ∧ l.length < 9223372036854775808
def IntsAt (W : World) (ao : Option Addr) (l : List Int) : Prop := RoAt W ao (l.map (Value.int .i64)) ∧ l.length < 9223372036854775808
section
variable {H : Type} {enc : TypeId × Value → H} {W : World} {sp : Nat → Bool}
set_option maxRecDepth 10000 in
theorem open_cells22 {n : Nat} {v : Value} {x : DataW H × List MemPlace} (h : DataW.trod enc Tryd.prog W 0 sp true n 22 [v] = some x) :
    ∃ (ao : Option Addr) (c : Nat) (l : List Cell), v = .slice ao l.length c ∧ CellsAt W ao c l := by
  rcases open_slice Tryd.underlying22 h with ⟨hcs, _⟩ | ⟨a, len, cap, m, f, D, Pl, hcs, _, hl, hmax, hm, _, hx⟩
  · cases hcs
    exact ⟨none, 0, [], rfl, fun hne => absurd rfl hne, by simp, by simp⟩
  · cases hcs
    have hc2 : Tryd.prog.cellsOf 59 = 2 := by kernel_rfl
    have hc1 : Tryd.prog.cellsOf 3 = 1 := by kernel_rfl
    have hlm : len ≤ m := by rw [hm]; split <;> omega
    have hlen : len < 9223372036854775808 := by unfold maxLen at hmax; omega
    rw [hc2] at hx
    obtain ⟨b, hb⟩ := choose_lt (α := Cell) (n := len) (p := fun i y => W.cell? (a.add (i * 2)) = some (.int .i64 y.1) ∧ W.cell? (a.add (i * 2 + 1)) = some (.int .i64 y.2)) (fun i hi => by
      obtain ⟨cs', h1, h2⟩ := hx i (by omega)
      obtain ⟨_, hlen, hcell⟩ := World.cells?_some h1
      obtain ⟨xs, k, _, _, hl2, hxl, hgo⟩ := DataW.trod_array Tryd.underlying59 h2
      match cs', hlen with
      | [c0, c1], _ =>
        have h3 := hgo 0 (by omega)
        have h4 := hgo 1 (by omega)
        simp [hc1] at h3 h4
        obtain ⟨y0, hy0⟩ : ∃ y, xs[0]? = some y := ⟨xs[0]'(by omega), List.getElem?_eq_getElem _⟩
        obtain ⟨y1, hy1⟩ : ∃ y, xs[1]? = some y := ⟨xs[1]'(by omega), List.getElem?_eq_getElem _⟩
        rw [hy0] at h3
        rw [hy1] at h4
        obtain ⟨z0, e0, _, _⟩ := DataW.trod_int Tryd.underlying3 h3
        obtain ⟨z1, e1, _, _⟩ := DataW.trod_int Tryd.underlying3 h4
        cases e0
        cases e1
        have g0 := hcell 0 (by omega)
        have g1 := hcell 1 (by omega)
        rw [add_add] at g0 g1
        exact ⟨(z0, z1), by simpa using g0, by simpa using g1⟩)
    refine ⟨some a, cap, (List.range len).map b, by simp, ro_at (fun i hi => ?_), by simpa using hl, by simpa using hlen⟩
    rw [cellV_len] at hi
    simp only [List.length_map, List.length_range] at hi
    have hq : i / 2 < len := by omega
    obtain ⟨g0, g1⟩ := hb (i / 2) hq
    obtain ⟨k0, k1⟩ := cellV_get (l := (List.range len).map b) (k := i / 2) (by simpa using hq)
    have hgd : ((List.range len).map b).getD (i / 2) (0, 0) = b (i / 2) := by simp [List.getD_eq_getElem?_getD, hq]
    rw [hgd] at k0 k1
    rcases Nat.mod_two_eq_zero_or_one i with hi2 | hi2
    · rw [show i / 2 * 2 = i by omega] at g0 k0
      rw [g0, k0]
    · rw [show i / 2 * 2 + 1 = i by omega] at g1 k1
      rw [g1, k1]
theorem open_ints25 {n : Nat} {v : Value} {x : DataW H × List MemPlace} (h : DataW.trod enc Tryd.prog W 0 sp true n 25 [v] = some x) :
    ∃ (ao : Option Addr) (c : Nat) (l : List Int), v = .slice ao l.length c ∧ IntsAt W ao l := by
  rcases open_slice1 Tryd.underlying25 (by kernel_rfl) h with ⟨hcs, _⟩ | ⟨a, len, cap, m, f, V, D, Pl, hcs, _, hl, hmax, hm, _, hx⟩
  · cases hcs
    exact ⟨none, 0, [], rfl, fun hne => absurd rfl hne, by simp⟩
  · cases hcs
    have hlm : len ≤ m := by rw [hm]; split <;> omega
    have hlen : len < 9223372036854775808 := by unfold maxLen at hmax; omega
    obtain ⟨b, hb⟩ := choose_lt (α := Int) (n := len) (p := fun i b => V i = .int .i64 b) (fun i hi => by
      obtain ⟨b, hb, _, hw⟩ := DataW.trod_int Tryd.underlying3 (hx i (by omega)).2
      exact ⟨b, by simpa using hb⟩)
    refine ⟨some a, cap, (List.range len).map b, by simp, ro_at (fun i hi => ?_), by simpa using hlen⟩
    have hi' : i < len := by simpa using hi
    rw [(hx i (by omega)).1, hb i hi']
    simp [List.getD_eq_getElem?_getD, hi']
set_option maxRecDepth 100000 in
theorem open_kinds {v : Value} {d : DataW H} {p : List MemPlace} {r : Reach} {b0 : Nat} (hv : Value.okWide Tryd.prog W r b0 24 v) (h : DataW.Trod enc Tryd.prog W 0 sp true 24 v d p) :
    ∃ (N : Int) (ps : List Cell) (ao : Option Addr) (c : Nat), v = .agg #[.int .i64 N, .slice ao ps.length c] ∧ CellsAt W ao c ps := by
  obtain ⟨v0, v1, y0, y1, n, rfl, _, _, h0, h1⟩ := open_agg2 Tryd.underlying24 (by kernel_rfl) (by kernel_rfl) hv h
  obtain ⟨k, e0, _, f0⟩ := DataW.trod_int Tryd.underlying3 h0
  obtain ⟨ao, c, l, rfl, hl⟩ := open_cells22 h1
  cases e0
  exact ⟨k, l, ao, c, rfl, hl⟩
set_option maxRecDepth 100000 in
theorem open_intsv {v : Value} {d : DataW H} {p : List MemPlace} {r : Reach} {b0 : Nat} (hv : Value.okWide Tryd.prog W r b0 25 v) (h : DataW.Trod enc Tryd.prog W 0 sp true 25 v d p) :
    ∃ (ao : Option Addr) (c : Nat) (l : List Int), v = .slice ao l.length c ∧ IntsAt W ao l := by
  obtain ⟨fuel, hf⟩ := h
  obtain ⟨ao, n, cp, rfl⟩ := okWide_slice Tryd.underlying25 hv
  simp only [Value.cells] at hf
  exact open_ints25 hf
end
/-- Memory that comes in, with the room behind it. -/
theorem Hp.rosz {ρ : Env} {w : World} {L : List E} {nx : Nat} (h : ∀ e ∈ L, (∃ z, e.kd = .ro z ∧ (z = 0 ∨ e.cs.length ≤ (ρ e.lab).2 * z)) ∧ e.lab < nx ∧ (∀ c ∈ e.cs, c.wf nx) ∧ RoAt w (ρ e.lab).1 (e.cs.map (C.den ρ))) (hd : injB [] L = true) (hF : Fct w.heap.size w) : Hp w.heap.size ρ w L nx := by
  refine ⟨⟨Nat.le_refl _, hF⟩, fun e he => ?_, fun e he => ⟨(h e he).2.1, (h e he).2.2.1⟩, fun e he e' he' hl => injB_spec hd e he e' he' (.inl hl), fun e he e' he' hro => ?_⟩
  · obtain ⟨⟨z, h1, h2⟩, h3, h4, h5⟩ := h e he
    obtain ⟨lab, kd, cs⟩ := e
    simp only at h1 h2
    subst h1
    exact ⟨h5, h2⟩
  · obtain ⟨⟨z, h1, _⟩, _⟩ := h e he
    rw [h1] at hro; cases hro
/-- Where what came in lies: label k at place k. -/
def envL (l : List (Option Addr × Nat)) : Env := fun k => l.getD k (none, 0)
theorem ent_ints {W : World} {ρ : Env} {l : List Int} {k nx : Nat} {ao : Option Addr} (h : IntsAt W ao l) (hk : k < nx) (hr : (ρ k).1 = ao) : (∃ z, (Kd.ro 0) = .ro z ∧ (z = 0 ∨ (l.map C.i).length ≤ (ρ k).2 * z)) ∧ k < nx ∧ (∀ c ∈ l.map C.i, c.wf nx) ∧ RoAt W (ρ k).1 ((l.map C.i).map (C.den ρ)) := by
  refine ⟨⟨0, rfl, .inl rfl⟩, hk, wf_ints _ _, ?_⟩
  rw [List.map_map, hr]; exact h.1
theorem ent_cells {W : World} {ρ : Env} {l : List Cell} {k nx c : Nat} {ao : Option Addr} (h : CellsAt W ao c l) (hk : k < nx) (hr : ρ k = (ao, c)) : (∃ z, (Kd.ro 2) = .ro z ∧ (z = 0 ∨ (cellC l).length ≤ (ρ k).2 * z)) ∧ k < nx ∧ (∀ c ∈ cellC l, c.wf nx) ∧ RoAt W (ρ k).1 ((cellC l).map (C.den ρ)) := by
  refine ⟨⟨2, rfl, .inr ?_⟩, hk, wf_cells _ _, ?_⟩
  · rw [hr, cellC_len]; have := h.2.1; simp only; omega
  · rw [den_cells, hr]; exact h.1
theorem hp_ki {W : World} {l : List Int} {ps : List Cell} {ao bo : Option Addr} {c d : Nat} (h : CellsAt W ao c ps) (h2 : IntsAt W bo l) (hF : Fct W.heap.size W) : Hp W.heap.size (envL [(ao, c), (bo, d)]) W [⟨0, .ro 2, cellC ps⟩, ⟨1, .ro 0, l.map C.i⟩] 2 := by
  refine Hp.rosz (fun e he => ?_) rfl hF
  simp only [List.mem_cons, List.not_mem_nil, or_false] at he
  rcases he with rfl | rfl
  · exact ent_cells h (by show 0 < 2; omega) rfl
  · exact ent_ints h2 (by show 1 < 2; omega) rfl
theorem isTrue_any {f : FuncId} {vs : List V} {L : List E} {na : Nat} {ρ : Env} {w : World} {args : Array Value} (spec : Spec Tryd.prog f vs L na (Is (V.c (.bool true)))) (hp : Hp w.heap.size ρ w L na) (hv : ∀ v ∈ vs, v.wf na) (ha : (vs.map (V.den ρ)).toArray = args) :
    Calls Tryd.prog f args w fun e w' => e = .returned (.bool true) ∧ Below w.heap.size w w' := by
  subst ha
  refine (spec ρ w hp hv).mono ?_
  rintro e w' ⟨v, ρ', L', nx', rfl, h1, h2, h3, h4, h5, h6⟩
  exact ⟨by rw [h6 ρ']; rfl, h4⟩
end Go.Proofs.YtijnimgmpocmaaaDoor

/- Waste: what the laws share: Wide, Awake. -/
namespace Go.Proofs.YtijnimgmpocmaaaDoor
open Go.RowKit
set_option linter.unusedVariables false
set_option linter.unusedSimpArgs false
theorem wide_spec (N : Int) (n : Nat) (hn : n < 9223372036854775808) : Spec Tryd.prog 14 [V.agg [C.i N, C.sl 0 n]] [] 1 (Is (V.c (.bool (decide ((n : Int) > 60))))) := by
  refine Spec.of tok Tryd.func14 rfl rfl rfl fun n0 cx => vc_ok tok ?_
  repeat ((conv => whnf); first | (refine And.intro (by first | omega | exact Nat.le_of_ble_eq_true rfl | (dsimp only [inK]; omega) | (simp only [mulS_eq]; omega) | (simp only [mulS_eq, setL_length]; omega) | (simp only [setL_length]; omega) | (simp only [setL_length, List.length_map]; omega) | (exact ⟨by omega, by omega, by first | exact Nat.le_of_ble_eq_true rfl | (dsimp only; omega) | (simp only [setL_length]; omega) | (simp only [setL_length, List.length_map]; omega)⟩) | (exact ⟨by omega, by first | rfl | omega, by omega, Nat.le_of_ble_eq_true rfl, Nat.le_of_ble_eq_true rfl⟩) | (exact ⟨rfl, rfl, rfl, Nat.le_of_ble_eq_true rfl, by first | rfl | omega | exact Nat.le_of_ble_eq_true rfl | (dsimp only; omega) | (simp; done) | (simp; omega), by first | rfl | omega | exact Nat.le_of_ble_eq_true rfl | (dsimp only; omega) | (simp; done) | (simp; omega), by omega, Nat.le_of_ble_eq_true rfl⟩) | exact Eq.refl true) ?_) | refine Exists.intro _ (And.intro rfl ?_) | refine And.intro (And.intro rfl (chk_rowI _ _ _ _)) ?_ | refine br_t (by omega) ?_ | refine br_f (by omega) ?_ | refine bs_t (by omega) ?_ | refine bs_f (by omega) ?_ | refine fun (K' : K3) hK' => ?_ | (refine hK' _ _ _ ?_; clear hK' K') | refine draw_auto tok mixed (by kernel_rfl) ?_ | refine bs_bt (Eq.refl true) ?_ | refine bs_bf (Eq.refl false) ?_ | refine br_bt (Eq.refl true) ?_ | refine br_bf (Eq.refl false) ?_ | refine CallK.m ?_ | refine Two.l ?_ | refine And.intro (And.intro rfl rfl) ?_)
  intro ρ; rfl
theorem three_knd : Knd 3 [(0, 1), (1, 2), (0, 2)] := ⟨by omega, fun p hp => by simp only [List.mem_cons, List.not_mem_nil, or_false] at hp; rcases hp with rfl | rfl | rfl <;> simp, by decide⟩
theorem three_cnt : cntO 3 [(0, 1), (1, 2), (0, 2)] 3 = 6 := by decide +kernel
set_option maxRecDepth 10000 in
theorem awake_spec : Spec Tryd.prog 16 [] [] 0 (Is (V.c (.bool true))) := by
  have hc := count_spec 3 3 [(0, 1), (1, 2), (0, 2)] three_knd
  rw [if_pos (by omega), three_cnt] at hc
  have hc : Spec Tryd.prog 25 [V.agg [C.i 3, C.sl 0 3], V.i 3] [⟨0, .ro 2, [C.i 0, C.i 1, C.i 1, C.i 2, C.i 0, C.i 2]⟩] 1 (Is (V.tup [A.c (C.i 6), A.c (C.i 0)])) := hc
  refine Spec.of tok Tryd.func16 rfl rfl rfl fun n0 cx => vc_ok tok ?_
  repeat ((conv => whnf); first | (refine And.intro (by first | omega | exact Nat.le_of_ble_eq_true rfl | (dsimp only [inK]; omega) | (simp only [mulS_eq]; omega) | (simp only [mulS_eq, setL_length]; omega) | (simp only [setL_length]; omega) | (simp only [setL_length, List.length_map]; omega) | (exact ⟨by omega, by omega, by first | exact Nat.le_of_ble_eq_true rfl | (dsimp only; omega) | (simp only [setL_length]; omega) | (simp only [setL_length, List.length_map]; omega)⟩) | (exact ⟨by omega, by first | rfl | omega, by omega, Nat.le_of_ble_eq_true rfl, Nat.le_of_ble_eq_true rfl⟩) | (exact ⟨rfl, rfl, rfl, Nat.le_of_ble_eq_true rfl, by first | rfl | omega | exact Nat.le_of_ble_eq_true rfl | (dsimp only; omega) | (simp; done) | (simp; omega), by first | rfl | omega | exact Nat.le_of_ble_eq_true rfl | (dsimp only; omega) | (simp; done) | (simp; omega), by omega, Nat.le_of_ble_eq_true rfl⟩) | exact Eq.refl true) ?_) | refine Exists.intro _ (And.intro rfl ?_) | refine And.intro (And.intro rfl (chk_rowI _ _ _ _)) ?_ | refine br_t (by omega) ?_ | refine br_f (by omega) ?_ | refine bs_t (by omega) ?_ | refine bs_f (by omega) ?_ | refine fun (K' : K3) hK' => ?_ | (refine hK' _ _ _ ?_; clear hK' K') | refine draw_auto tok mixed (by kernel_rfl) ?_ | refine CallK.val (R := [(0, some 0)]) hc (by kernel_rfl) rfl (by simp [V.wf, A.wf, C.wf, V.i]) ⟨roE_f (k := .vec 59 2) (flat_c [(0, 1), (1, 2), (0, 2)]) (l := 0) rfl (by omega) rfl (.inr rfl), trivial⟩ rfl rfl (by simp [V.wf, A.wf, C.wf]) ?_ | refine bs_bt (Eq.refl true) ?_ | refine bs_bf (Eq.refl false) ?_ | refine br_bt (Eq.refl true) ?_ | refine br_bf (Eq.refl false) ?_ | refine CallK.m ?_ | refine Two.l ?_ | refine And.intro (And.intro rfl rfl) ?_)
  intro ρ; rfl
section
variable {n0 nx : Nat} {L : List E} {K : V → List E → Nat → Prop}
theorem awake_k (hK : K (V.c (.bool true)) [] nx) : CallK Tryd.prog n0 16 [] L nx K :=
  CallK.val (R := []) awake_spec (by kernel_rfl) rfl (by simp) trivial rfl rfl trivial hK
theorem wide_k {N : Int} {n a : Nat} (hn : n < 9223372036854775808) (hK : K (V.c (.bool (decide ((n : Int) > 60)))) [] nx) : CallK Tryd.prog n0 14 [V.agg [C.i N, C.sl a n]] L nx K :=
  CallK.val (R := [(0, some a)]) (wide_spec N n hn) (by kernel_rfl) rfl (by simp [V.wf, A.wf, C.wf]) trivial rfl rfl trivial hK
end
end Go.Proofs.YtijnimgmpocmaaaDoor

/- Waste: the lowest bit of a set. -/
namespace Go.Proofs.YtijnimgmpocmaaaDoor
open Go.RowKit
set_option linter.unusedVariables false
set_option linter.unusedSimpArgs false
set_option maxHeartbeats 1000000 in
theorem tz_core (x k idx : Nat) (w : World) (hx0 : ((x : Int) == 0) = false)
    (key : IntKind.u64.wrap (bits BinOp.and IntKind.u64 (x : Int) (IntKind.u64.wrap (-(x : Int))) * 285870213051353865) / 288230376151711744 = (idx : Int))
    (hi : idx < 64) (hk : k < 64) (hcell : w.cell? ⟨1, idx, none⟩ = some (.int .u8 k)) :
    Calls Tryd.prog 115 #[.int .u64 x] w fun e w' => e = .returned (.int .i64 k) ∧ w' = w := by
  go_enter Tryd.func115, Tryd.ntmps115
  go_wp2_with (simp only [key])
  go_ret
  exact ⟨rfl, rfl⟩
theorem tz64_any (x : Nat) (hx0 : x ≠ 0) (hx : x < 18446744073709551616) (w : World) (hT : ∀ j, j < Lib.deBruijn64tab.length → w.cell? ⟨1, j, none⟩ = some (.int .u8 (Lib.deBruijn64tab.getD j 0))) :
    Calls Tryd.prog 115 #[.int .u64 x] w fun e w' => e = .returned (.int .i64 (Lib.ctz 64 x)) ∧ w' = w := by
  obtain ⟨hlow, hk⟩ := Lib.lowest_bit 64 x hx0 hx
  obtain ⟨hi, htab⟩ := Lib.deBruijn64_at _ hk
  have hcell := hT _ hi
  rw [htab] at hcell
  exact tz_core x _ _ w (by simp; omega) (tz64_key x _ hx hx0 hlow) hi hk hcell
theorem tz_any (x : Nat) (hx0 : x ≠ 0) (hx : x < 18446744073709551616) (w : World) (hT : ∀ j, j < Lib.deBruijn64tab.length → w.cell? ⟨1, j, none⟩ = some (.int .u8 (Lib.deBruijn64tab.getD j 0))) :
    Calls Tryd.prog 101 #[.int .u64 x] w fun e w' => e = .returned (.int .i64 (Lib.ctz 64 x)) ∧ w' = w := by
  go_enter Tryd.func101, Tryd.ntmps101
  go_wp2_with fail
  refine (tz64_any x hx0 hx w hT).mono ?_
  rintro e w1 ⟨rfl, rfl⟩
  go_wp2
  go_ret
  exact ⟨rfl, rfl⟩
theorem tz_k {n0 nx s : Nat} {L : List E} {K : V → List E → Nat → Prop} (h0 : s ≠ 0) (hs : s < 256) (hK : K (V.i (Lib.ctz 64 s : Nat)) [] nx) : CallK Tryd.prog n0 101 [V.u s] L nx K := by
  refine ⟨by kernel_rfl, fun ρ w hp _ => ?_⟩
  obtain ⟨_, cs, t, fr, _, hT⟩ := hp.bs.fct
  refine Calls.mono (show Calls Tryd.prog _ ([V.u s].map (V.den ρ)).toArray w _ from tz_any s h0 (by omega) w hT) ?_
  rintro e w' ⟨rfl, rfl⟩
  exact ⟨V.i (Lib.ctz 64 s : Nat), [], nx, ρ, rfl, Nat.le_refl _, trivial, Agr.refl _ _, Below.refl _ _, News.nil, hK⟩
end Go.Proofs.YtijnimgmpocmaaaDoor

/- Waste: the kinds of a set, one by one; apart. -/
namespace Go.Proofs.YtijnimgmpocmaaaDoor
open Go.RowKit
set_option linter.unusedVariables false
set_option linter.unusedSimpArgs false
/-- The kinds of a set. -/
def bitsL (s : Nat) : List Nat := (List.range 8).filter fun b => s.testBit b
def rs (s : Nat) : Nat → Nat
  | 0 => s
  | k + 1 => rs s k &&& (rs s k - 1)
theorem all_fact : ∀ s, s < 256 → ∀ k, k < 9 → rs s k < 256 ∧ (k < (bitsL s).length → rs s k ≠ 0 ∧ Lib.ctz 64 (rs s k) = (bitsL s).getD k 0) ∧ ((bitsL s).length ≤ k → rs s k = 0) := by decide +kernel
theorem bitsL_len (s : Nat) : (bitsL s).length ≤ 8 := by
  have := List.length_filter_le (fun b => s.testBit b) (List.range 8)
  rw [List.length_range] at this; exact this
theorem mem_bitsL {s b : Nat} : b ∈ bitsL s ↔ b < 8 ∧ s.testBit b = true := by simp [bitsL]
theorem bitsL_get {s k : Nat} (h : k < (bitsL s).length) : (bitsL s).getD k 0 ∈ bitsL s := by
  rw [List.getD_eq_getElem?_getD, List.getElem?_eq_getElem h]; exact List.getElem_mem h
theorem bit_lt {s n b : Nat} (hs : s < 2 ^ n) (h : s.testBit b = true) : b < n := by
  rcases Nat.lt_or_ge b n with h1 | h1
  · exact h1
  · have := Nat.testBit_lt_two_pow (Nat.lt_of_lt_of_le hs (Nat.pow_le_pow_right (by omega) h1)); rw [this] at h; cases h
theorem all_spec (s nx : Nat) (L : List E) : SpecM Tryd.prog 74 [V.u s] L nx (fun v L' nx' => v = V.c (.fn 100 [(nx, 0)]) ∧ L' = ⟨nx, .own 75, [C.u s]⟩ :: L ∧ nx' = nx + 1) := by
  refine SpecM.of tok Tryd.func74 rfl rfl rfl fun n0 cx => vc_ok tok ?_
  repeat ((conv => whnf); first | (refine And.intro (by first | omega | exact Nat.le_of_ble_eq_true rfl | (dsimp only [inK]; omega) | (simp only [mulS_eq]; omega) | (simp only [mulS_eq, setL_length]; omega) | (simp only [setL_length]; omega) | (simp only [setL_length, List.length_map]; omega) | (exact ⟨by omega, by omega, by first | exact Nat.le_of_ble_eq_true rfl | (dsimp only; omega) | (simp only [setL_length]; omega) | (simp only [setL_length, List.length_map]; omega)⟩) | (exact ⟨by omega, by first | rfl | omega, by omega, Nat.le_of_ble_eq_true rfl, Nat.le_of_ble_eq_true rfl⟩) | (exact ⟨rfl, rfl, rfl, Nat.le_of_ble_eq_true rfl, by first | rfl | omega | exact Nat.le_of_ble_eq_true rfl | (dsimp only; omega) | (simp; done) | (simp; omega), by first | rfl | omega | exact Nat.le_of_ble_eq_true rfl | (dsimp only; omega) | (simp; done) | (simp; omega), by omega, Nat.le_of_ble_eq_true rfl⟩) | exact Eq.refl true) ?_) | refine Exists.intro _ (And.intro rfl ?_) | refine And.intro (And.intro rfl (chk_rowI _ _ _ _)) ?_ | refine br_t (by omega) ?_ | refine br_f (by omega) ?_ | refine bs_t (by omega) ?_ | refine bs_f (by omega) ?_ | refine fun (K' : K3) hK' => ?_ | (refine hK' _ _ _ ?_; clear hK' K') | refine draw_auto tok mixed (by kernel_rfl) ?_ | refine bs_bt (Eq.refl true) ?_ | refine bs_bf (Eq.refl false) ?_ | refine br_bt (Eq.refl true) ?_ | refine br_bf (Eq.refl false) ?_ | refine CallK.m ?_ | refine Two.l ?_ | refine And.intro (And.intro rfl rfl) ?_)
  exact ⟨rfl, rfl, rfl⟩
theorem and_dec {r : Nat} (h : r < 256) (h0 : r ≠ 0) : bitI .and .u64 (r : Int) ((r : Int) - 1) = ((r &&& (r - 1) : Nat) : Int) := by
  rw [show ((r : Int) - 1) = ((r - 1 : Nat) : Int) by omega]; exact bit_and (by omega) (by omega)
/-- No two kinds of a set clash. -/
def aptS (t : List Nat) (s : Nat) : Bool := (bitsL s).all fun a => decide (t.getD a 0 &&& s = 0)
def aptK (t : List Nat) (s k : Nat) : Bool := ((bitsL s).take k).all fun a => decide (t.getD a 0 &&& s = 0)
theorem aptK_succ {t : List Nat} {s k : Nat} (h : k < (bitsL s).length) : aptK t s (k + 1) = (aptK t s k && decide (t.getD ((bitsL s).getD k 0) 0 &&& s = 0)) := by
  unfold aptK
  rw [List.take_add_one, show (bitsL s)[k]?.toList = [(bitsL s).getD k 0] by rw [List.getElem?_eq_getElem h, List.getD_eq_getElem?_getD, List.getElem?_eq_getElem h]; rfl, List.all_append]
  simp
set_option maxRecDepth 10000 in
set_option maxHeartbeats 4000000 in
theorem apart_spec (t : List Nat) (n s : Nat) (htl : t.length = n) (hn : n ≤ 8) (ht : ∀ x ∈ t, x < 256) (hs : s < 2 ^ n) : Spec Tryd.prog 95 [V.c (.sl 0 n), V.u s] [⟨0, .ro 0, t.map C.u⟩] 1 (Is (V.c (.bool (aptS t s)))) := by
  have hs8 : s < 256 := Nat.lt_of_lt_of_le hs (pow_8 hn)
  have htm : (t.map C.u).length = n := by rw [List.length_map, htl]
  have hbl := bitsL_len s
  refine Spec.of tok Tryd.func95 rfl rfl rfl fun n0 cx => vc_ok tok ?_
  repeat ((conv => whnf); first | (refine And.intro (by first | omega | exact Nat.le_of_ble_eq_true rfl | (dsimp only [inK]; omega) | (simp only [mulS_eq]; omega) | (simp only [mulS_eq, setL_length]; omega) | (simp only [setL_length]; omega) | (simp only [setL_length, List.length_map]; omega) | (exact ⟨by omega, by omega, by first | exact Nat.le_of_ble_eq_true rfl | (dsimp only; omega) | (simp only [setL_length]; omega) | (simp only [setL_length, List.length_map]; omega)⟩) | (exact ⟨by omega, by first | rfl | omega, by omega, Nat.le_of_ble_eq_true rfl, Nat.le_of_ble_eq_true rfl⟩) | (exact ⟨rfl, rfl, rfl, Nat.le_of_ble_eq_true rfl, by first | rfl | omega | exact Nat.le_of_ble_eq_true rfl | (dsimp only; omega) | (simp; done) | (simp; omega), by first | rfl | omega | exact Nat.le_of_ble_eq_true rfl | (dsimp only; omega) | (simp; done) | (simp; omega), by omega, Nat.le_of_ble_eq_true rfl⟩) | exact Eq.refl true) ?_) | refine Exists.intro _ (And.intro rfl ?_) | refine And.intro (And.intro rfl (chk_rowI _ _ _ _)) ?_ | refine br_t (by omega) ?_ | refine br_f (by omega) ?_ | refine bs_t (by omega) ?_ | refine bs_f (by omega) ?_ | refine fun (K' : K3) hK' => ?_ | (refine hK' _ _ _ ?_; clear hK' K') | refine draw_auto tok mixed (by kernel_rfl) ?_ | refine CallK.fresh (by kernel_rfl) (all_spec _ _ _) rfl ?_ | refine bs_bt (Eq.refl true) ?_ | refine bs_bf (Eq.refl false) ?_ | refine br_bt (Eq.refl true) ?_ | refine br_bf (Eq.refl false) ?_ | refine CallK.m ?_ | refine Two.l ?_ | refine And.intro (And.intro rfl rfl) ?_)
  refine Tri.opq fun K' hK' => ?_
  refine Tri.rangeFunc tok (by exact rfl) (by kernel_rfl) (by exact rfl) (by exact rfl) (by exact rfl) (by exact rfl) (by exact rfl) (by exact rfl) ?_
  intro y cxi oo ob od hy hY
  refine vc_ok tok ?_
  repeat ((conv => whnf); first | (refine And.intro (by first | omega | exact Nat.le_of_ble_eq_true rfl | (dsimp only [inK]; omega) | (simp only [mulS_eq]; omega) | (simp only [mulS_eq, setL_length]; omega) | (simp only [setL_length]; omega) | (simp only [setL_length, List.length_map]; omega) | (exact ⟨by omega, by omega, by first | exact Nat.le_of_ble_eq_true rfl | (dsimp only; omega) | (simp only [setL_length]; omega) | (simp only [setL_length, List.length_map]; omega)⟩) | (exact ⟨by omega, by first | rfl | omega, by omega, Nat.le_of_ble_eq_true rfl, Nat.le_of_ble_eq_true rfl⟩) | (exact ⟨rfl, rfl, rfl, Nat.le_of_ble_eq_true rfl, by first | rfl | omega | exact Nat.le_of_ble_eq_true rfl | (dsimp only; omega) | (simp; done) | (simp; omega), by first | rfl | omega | exact Nat.le_of_ble_eq_true rfl | (dsimp only; omega) | (simp; done) | (simp; omega), by omega, Nat.le_of_ble_eq_true rfl⟩) | exact Eq.refl true) ?_) | refine Exists.intro _ (And.intro rfl ?_) | refine And.intro (And.intro rfl (chk_rowI _ _ _ _)) ?_ | refine br_t (by omega) ?_ | refine br_f (by omega) ?_ | refine bs_t (by omega) ?_ | refine bs_f (by omega) ?_ | refine fun (K' : K3) hK' => ?_ | (refine hK' _ _ _ ?_; clear hK' K') | refine draw_auto tok mixed (by kernel_rfl) ?_ | refine bs_bt (Eq.refl true) ?_ | refine bs_bf (Eq.refl false) ?_ | refine br_bt (Eq.refl true) ?_ | refine br_bf (Eq.refl false) ?_ | refine CallK.m ?_ | refine Two.l ?_ | refine And.intro (And.intro rfl rfl) ?_)
  refine Tri.loop (γ := Nat) (fun k => k ≤ (bitsL s).length ∧ aptK t s k = true) (fun k => [(0, V.c (.v y)), (1, V.c (.ptr 4 0)), (3, V.u (rs s k))])
    (fun k => [⟨5, .obj oo, []⟩, ⟨4, .own 75, [C.u s]⟩, ⟨3, .own 4, [.ff]⟩, ⟨2, .own 75, [C.u s]⟩, ⟨1, .own 61, [.sl 0 n]⟩, ⟨0, .ro 0, t.map C.u⟩]) 6 (fun k => (bitsL s).length - k) 0 (R0 := []) ?_ ?_ ?_
  · exact ⟨by omega, rfl⟩
  · skip
    refine ⟨?_, ?_, rfl, rfl, by first | exact Nat.le_of_ble_eq_true rfl | exact Nat.le_refl _ | omega⟩
    · repeat (first | exact trivial | (refine And.intro (covS_syn (by rfl) rfl (by first | exact trivial | exact Nat.le_of_ble_eq_true rfl | exact hy | exact (fun p hp => nomatch hp) | (show (_ : Nat) < _; omega))) ?_) | refine And.intro (covS_bool rfl rfl (by rfl)) ?_)
    · repeat (first | exact trivial | (refine And.intro (covE_id (Nat.le_of_ble_eq_true rfl) (by first | exact wf_ints _ _ | exact wf_bools _ _ | first | exact wf_us _ _ | (simp [C.wf]; done) | simp [C.wf]) rfl (by rfl)) ?_))
  · rintro k ⟨hk, hok⟩
    refine vc_ok tok ?_
    obtain ⟨f1, f2, f3⟩ := all_fact s hs8 k (by omega)
    by_cases hlt : k < (bitsL s).length
    · obtain ⟨f4, f5⟩ := f2 hlt
      have hmem := mem_bitsL.1 (bitsL_get hlt)
      have han := bit_lt hs hmem.2
      have hrs : rs s (k + 1) = rs s k &&& (rs s k - 1) := rfl
      have hsucc := aptK_succ (t := t) hlt
      obtain ⟨a, ha⟩ : ∃ a, a = (bitsL s).getD k 0 := ⟨_, rfl⟩
      obtain ⟨r, hr⟩ : ∃ r, r = rs s k := ⟨_, rfl⟩
      rw [← ha] at f5 han hsucc
      rw [← hr] at f1 f4 f5 hrs ⊢
      have hne : (r : Int) ≠ 0 := by omega
      have hde := and_dec f1 f4
      rw [← hrs] at hde
      have htz := fun {n0 nx : Nat} {L : List E} {K : V → List E → Nat → Prop} => tz_k (n0 := n0) (nx := nx) (L := L) (K := K) f4 f1
      rw [f5] at htz
      have hta := getD_lt (by omega) ht a
      have hld : (t.map C.u)[mulS ((a : Nat) : Int).toNat 1]? = some (C.u (t.getD a 0)) := uLz rfl (by omega)
      have hba := bit_and (x := t.getD a 0) (y := s) (by omega) (by omega)
      by_cases hc : bitI .and .u64 ((t.getD a 0 : Nat) : Int) (s : Int) ≠ 0
      · have hres : aptS t s = false := by
          unfold aptS
          rw [List.all_eq_false]
          exact ⟨a, by rw [ha]; exact bitsL_get hlt, by rw [hba] at hc; rw [decide_eq_false (by omega)]; simp⟩
        repeat ((conv => whnf); first | (refine And.intro (by first | omega | exact Nat.le_of_ble_eq_true rfl | (dsimp only [inK]; omega) | (simp only [mulS_eq]; omega) | (simp only [mulS_eq, setL_length]; omega) | (simp only [setL_length]; omega) | (simp only [setL_length, List.length_map]; omega) | (exact ⟨by omega, by omega, by first | exact Nat.le_of_ble_eq_true rfl | (dsimp only; omega) | (simp only [setL_length]; omega) | (simp only [setL_length, List.length_map]; omega)⟩) | (exact ⟨by omega, by first | rfl | omega, by omega, Nat.le_of_ble_eq_true rfl, Nat.le_of_ble_eq_true rfl⟩) | (exact ⟨rfl, rfl, rfl, Nat.le_of_ble_eq_true rfl, by first | rfl | omega | exact Nat.le_of_ble_eq_true rfl | (dsimp only; omega) | (simp; done) | (simp; omega), by first | rfl | omega | exact Nat.le_of_ble_eq_true rfl | (dsimp only; omega) | (simp; done) | (simp; omega), by omega, Nat.le_of_ble_eq_true rfl⟩) | exact Eq.refl true) ?_) | refine Exists.intro _ (And.intro rfl ?_) | refine And.intro (And.intro rfl (chk_rowI _ _ _ _)) ?_ | refine br_t (by omega) ?_ | refine br_f (by omega) ?_ | refine bs_t (by omega) ?_ | refine bs_f (by omega) ?_ | refine fun (K' : K3) hK' => ?_ | (refine hK' _ _ _ ?_; clear hK' K') | refine draw_auto tok mixed (by kernel_rfl) ?_ | refine bs_t hne ?_ | refine br_t hne ?_ | refine htz ?_ | refine bs_bt (Eq.refl true) ?_ | refine bs_bf (Eq.refl false) ?_ | refine br_bt (Eq.refl true) ?_ | refine br_bf (Eq.refl false) ?_ | refine CallK.m ?_ | refine Two.l ?_ | refine And.intro (And.intro rfl rfl) ?_)
        refine hY _ _ _ _ (Nat.le_of_ble_eq_true rfl) rfl ⟨rfl, trivial⟩ ?_
        intro cxb hcx
        refine vc_ok tok ?_
        repeat ((conv => whnf); first | (refine And.intro (by first | omega | exact Nat.le_of_ble_eq_true rfl | (dsimp only [inK]; omega) | (simp only [mulS_eq]; omega) | (simp only [mulS_eq, setL_length]; omega) | (simp only [setL_length]; omega) | (simp only [setL_length, List.length_map]; omega) | (exact ⟨by omega, by omega, by first | exact Nat.le_of_ble_eq_true rfl | (dsimp only; omega) | (simp only [setL_length]; omega) | (simp only [setL_length, List.length_map]; omega)⟩) | (exact ⟨by omega, by first | rfl | omega, by omega, Nat.le_of_ble_eq_true rfl, Nat.le_of_ble_eq_true rfl⟩) | (exact ⟨rfl, rfl, rfl, Nat.le_of_ble_eq_true rfl, by first | rfl | omega | exact Nat.le_of_ble_eq_true rfl | (dsimp only; omega) | (simp; done) | (simp; omega), by first | rfl | omega | exact Nat.le_of_ble_eq_true rfl | (dsimp only; omega) | (simp; done) | (simp; omega), by omega, Nat.le_of_ble_eq_true rfl⟩) | exact Eq.refl true) ?_) | refine Exists.intro _ (And.intro rfl ?_) | refine And.intro (And.intro rfl (chk_rowI _ _ _ _)) ?_ | refine br_t (by omega) ?_ | refine br_f (by omega) ?_ | refine bs_t (by omega) ?_ | refine bs_f (by omega) ?_ | refine fun (K' : K3) hK' => ?_ | (refine hK' _ _ _ ?_; clear hK' K') | refine draw_auto tok mixed (by kernel_rfl) ?_ | refine And.intro (Eq.refl oo) ?_ | refine bs_bt (Eq.refl true) ?_ | refine bs_bf (Eq.refl false) ?_ | refine br_bt (Eq.refl true) ?_ | refine br_bf (Eq.refl false) ?_ | refine CallK.m ?_ | refine Two.l ?_ | refine And.intro (And.intro rfl rfl) ?_)
        refine vc_ok tok ?_
        repeat ((conv => whnf); first | (refine And.intro (by first | omega | exact Nat.le_of_ble_eq_true rfl | (dsimp only [inK]; omega) | (simp only [mulS_eq]; omega) | (simp only [mulS_eq, setL_length]; omega) | (simp only [setL_length]; omega) | (simp only [setL_length, List.length_map]; omega) | (exact ⟨by omega, by omega, by first | exact Nat.le_of_ble_eq_true rfl | (dsimp only; omega) | (simp only [setL_length]; omega) | (simp only [setL_length, List.length_map]; omega)⟩) | (exact ⟨by omega, by first | rfl | omega, by omega, Nat.le_of_ble_eq_true rfl, Nat.le_of_ble_eq_true rfl⟩) | (exact ⟨rfl, rfl, rfl, Nat.le_of_ble_eq_true rfl, by first | rfl | omega | exact Nat.le_of_ble_eq_true rfl | (dsimp only; omega) | (simp; done) | (simp; omega), by first | rfl | omega | exact Nat.le_of_ble_eq_true rfl | (dsimp only; omega) | (simp; done) | (simp; omega), by omega, Nat.le_of_ble_eq_true rfl⟩) | exact Eq.refl true) ?_) | with_reducible refine ld (hld) ?_ | refine Exists.intro _ (And.intro rfl ?_) | refine And.intro (And.intro rfl (chk_rowI _ _ _ _)) ?_ | refine br_t (by omega) ?_ | refine br_f (by omega) ?_ | refine bs_t (by omega) ?_ | refine bs_f (by omega) ?_ | refine fun (K' : K3) hK' => ?_ | (refine hK' _ _ _ ?_; clear hK' K') | refine draw_auto tok mixed (by kernel_rfl) ?_ | refine bs_t hc ?_ | refine br_t hc ?_ | refine And.intro (Eq.refl ob) ?_ | refine bs_bt (Eq.refl true) ?_ | refine bs_bf (Eq.refl false) ?_ | refine br_bt (Eq.refl true) ?_ | refine br_bf (Eq.refl false) ?_ | refine CallK.m ?_ | refine Two.l ?_ | refine And.intro (And.intro rfl rfl) ?_)
        refine Or.inr (Or.inl ?_)
        repeat ((conv => whnf); first | (refine And.intro (by first | omega | exact Nat.le_of_ble_eq_true rfl | (dsimp only [inK]; omega) | (simp only [mulS_eq]; omega) | (simp only [mulS_eq, setL_length]; omega) | (simp only [setL_length]; omega) | (simp only [setL_length, List.length_map]; omega) | (exact ⟨by omega, by omega, by first | exact Nat.le_of_ble_eq_true rfl | (dsimp only; omega) | (simp only [setL_length]; omega) | (simp only [setL_length, List.length_map]; omega)⟩) | (exact ⟨by omega, by first | rfl | omega, by omega, Nat.le_of_ble_eq_true rfl, Nat.le_of_ble_eq_true rfl⟩) | (exact ⟨rfl, rfl, rfl, Nat.le_of_ble_eq_true rfl, by first | rfl | omega | exact Nat.le_of_ble_eq_true rfl | (dsimp only; omega) | (simp; done) | (simp; omega), by first | rfl | omega | exact Nat.le_of_ble_eq_true rfl | (dsimp only; omega) | (simp; done) | (simp; omega), by omega, Nat.le_of_ble_eq_true rfl⟩) | exact Eq.refl true) ?_) | refine Exists.intro _ (And.intro rfl ?_) | refine And.intro (And.intro rfl (chk_rowI _ _ _ _)) ?_ | refine br_t (by omega) ?_ | refine br_f (by omega) ?_ | refine bs_t (by omega) ?_ | refine bs_f (by omega) ?_ | refine fun (K' : K3) hK' => ?_ | (refine hK' _ _ _ ?_; clear hK' K') | refine draw_auto tok mixed (by kernel_rfl) ?_ | refine And.intro (Eq.refl (od Code.ret)) ?_ | refine bs_bt (Eq.refl true) ?_ | refine bs_bf (Eq.refl false) ?_ | refine br_bt (Eq.refl true) ?_ | refine br_bf (Eq.refl false) ?_ | refine CallK.m ?_ | refine Two.l ?_ | refine And.intro (And.intro rfl rfl) ?_)
        refine hK' _ _ _ _ ?_
        repeat ((conv => whnf); first | (refine And.intro (by first | omega | exact Nat.le_of_ble_eq_true rfl | (dsimp only [inK]; omega) | (simp only [mulS_eq]; omega) | (simp only [mulS_eq, setL_length]; omega) | (simp only [setL_length]; omega) | (simp only [setL_length, List.length_map]; omega) | (exact ⟨by omega, by omega, by first | exact Nat.le_of_ble_eq_true rfl | (dsimp only; omega) | (simp only [setL_length]; omega) | (simp only [setL_length, List.length_map]; omega)⟩) | (exact ⟨by omega, by first | rfl | omega, by omega, Nat.le_of_ble_eq_true rfl, Nat.le_of_ble_eq_true rfl⟩) | (exact ⟨rfl, rfl, rfl, Nat.le_of_ble_eq_true rfl, by first | rfl | omega | exact Nat.le_of_ble_eq_true rfl | (dsimp only; omega) | (simp; done) | (simp; omega), by first | rfl | omega | exact Nat.le_of_ble_eq_true rfl | (dsimp only; omega) | (simp; done) | (simp; omega), by omega, Nat.le_of_ble_eq_true rfl⟩) | exact Eq.refl true) ?_) | refine Exists.intro _ (And.intro rfl ?_) | refine And.intro (And.intro rfl (chk_rowI _ _ _ _)) ?_ | refine br_t (by omega) ?_ | refine br_f (by omega) ?_ | refine bs_t (by omega) ?_ | refine bs_f (by omega) ?_ | refine fun (K' : K3) hK' => ?_ | (refine hK' _ _ _ ?_; clear hK' K') | refine draw_auto tok mixed (by kernel_rfl) ?_ | refine bs_bt (Eq.refl true) ?_ | refine bs_bf (Eq.refl false) ?_ | refine br_bt (Eq.refl true) ?_ | refine br_bf (Eq.refl false) ?_ | refine CallK.m ?_ | refine Two.l ?_ | refine And.intro (And.intro rfl rfl) ?_)
        intro ρ; rw [hres]; rfl
      · repeat ((conv => whnf); first | (refine And.intro (by first | omega | exact Nat.le_of_ble_eq_true rfl | (dsimp only [inK]; omega) | (simp only [mulS_eq]; omega) | (simp only [mulS_eq, setL_length]; omega) | (simp only [setL_length]; omega) | (simp only [setL_length, List.length_map]; omega) | (exact ⟨by omega, by omega, by first | exact Nat.le_of_ble_eq_true rfl | (dsimp only; omega) | (simp only [setL_length]; omega) | (simp only [setL_length, List.length_map]; omega)⟩) | (exact ⟨by omega, by first | rfl | omega, by omega, Nat.le_of_ble_eq_true rfl, Nat.le_of_ble_eq_true rfl⟩) | (exact ⟨rfl, rfl, rfl, Nat.le_of_ble_eq_true rfl, by first | rfl | omega | exact Nat.le_of_ble_eq_true rfl | (dsimp only; omega) | (simp; done) | (simp; omega), by first | rfl | omega | exact Nat.le_of_ble_eq_true rfl | (dsimp only; omega) | (simp; done) | (simp; omega), by omega, Nat.le_of_ble_eq_true rfl⟩) | exact Eq.refl true) ?_) | refine Exists.intro _ (And.intro rfl ?_) | refine And.intro (And.intro rfl (chk_rowI _ _ _ _)) ?_ | refine br_t (by omega) ?_ | refine br_f (by omega) ?_ | refine bs_t (by omega) ?_ | refine bs_f (by omega) ?_ | refine fun (K' : K3) hK' => ?_ | (refine hK' _ _ _ ?_; clear hK' K') | refine draw_auto tok mixed (by kernel_rfl) ?_ | refine bs_t hne ?_ | refine br_t hne ?_ | refine htz ?_ | refine bs_bt (Eq.refl true) ?_ | refine bs_bf (Eq.refl false) ?_ | refine br_bt (Eq.refl true) ?_ | refine br_bf (Eq.refl false) ?_ | refine CallK.m ?_ | refine Two.l ?_ | refine And.intro (And.intro rfl rfl) ?_)
        refine hY _ _ _ _ (Nat.le_of_ble_eq_true rfl) rfl ⟨rfl, trivial⟩ ?_
        intro cxb hcx
        refine vc_ok tok ?_
        repeat ((conv => whnf); first | (refine And.intro (by first | omega | exact Nat.le_of_ble_eq_true rfl | (dsimp only [inK]; omega) | (simp only [mulS_eq]; omega) | (simp only [mulS_eq, setL_length]; omega) | (simp only [setL_length]; omega) | (simp only [setL_length, List.length_map]; omega) | (exact ⟨by omega, by omega, by first | exact Nat.le_of_ble_eq_true rfl | (dsimp only; omega) | (simp only [setL_length]; omega) | (simp only [setL_length, List.length_map]; omega)⟩) | (exact ⟨by omega, by first | rfl | omega, by omega, Nat.le_of_ble_eq_true rfl, Nat.le_of_ble_eq_true rfl⟩) | (exact ⟨rfl, rfl, rfl, Nat.le_of_ble_eq_true rfl, by first | rfl | omega | exact Nat.le_of_ble_eq_true rfl | (dsimp only; omega) | (simp; done) | (simp; omega), by first | rfl | omega | exact Nat.le_of_ble_eq_true rfl | (dsimp only; omega) | (simp; done) | (simp; omega), by omega, Nat.le_of_ble_eq_true rfl⟩) | exact Eq.refl true) ?_) | refine Exists.intro _ (And.intro rfl ?_) | refine And.intro (And.intro rfl (chk_rowI _ _ _ _)) ?_ | refine br_t (by omega) ?_ | refine br_f (by omega) ?_ | refine bs_t (by omega) ?_ | refine bs_f (by omega) ?_ | refine fun (K' : K3) hK' => ?_ | (refine hK' _ _ _ ?_; clear hK' K') | refine draw_auto tok mixed (by kernel_rfl) ?_ | refine And.intro (Eq.refl oo) ?_ | refine bs_bt (Eq.refl true) ?_ | refine bs_bf (Eq.refl false) ?_ | refine br_bt (Eq.refl true) ?_ | refine br_bf (Eq.refl false) ?_ | refine CallK.m ?_ | refine Two.l ?_ | refine And.intro (And.intro rfl rfl) ?_)
        refine vc_ok tok ?_
        repeat ((conv => whnf); first | (refine And.intro (by first | omega | exact Nat.le_of_ble_eq_true rfl | (dsimp only [inK]; omega) | (simp only [mulS_eq]; omega) | (simp only [mulS_eq, setL_length]; omega) | (simp only [setL_length]; omega) | (simp only [setL_length, List.length_map]; omega) | (exact ⟨by omega, by omega, by first | exact Nat.le_of_ble_eq_true rfl | (dsimp only; omega) | (simp only [setL_length]; omega) | (simp only [setL_length, List.length_map]; omega)⟩) | (exact ⟨by omega, by first | rfl | omega, by omega, Nat.le_of_ble_eq_true rfl, Nat.le_of_ble_eq_true rfl⟩) | (exact ⟨rfl, rfl, rfl, Nat.le_of_ble_eq_true rfl, by first | rfl | omega | exact Nat.le_of_ble_eq_true rfl | (dsimp only; omega) | (simp; done) | (simp; omega), by first | rfl | omega | exact Nat.le_of_ble_eq_true rfl | (dsimp only; omega) | (simp; done) | (simp; omega), by omega, Nat.le_of_ble_eq_true rfl⟩) | exact Eq.refl true) ?_) | with_reducible refine ld (hld) ?_ | refine Exists.intro _ (And.intro rfl ?_) | refine And.intro (And.intro rfl (chk_rowI _ _ _ _)) ?_ | refine br_t (by omega) ?_ | refine br_f (by omega) ?_ | refine bs_t (by omega) ?_ | refine bs_f (by omega) ?_ | refine fun (K' : K3) hK' => ?_ | (refine hK' _ _ _ ?_; clear hK' K') | refine draw_auto tok mixed (by kernel_rfl) ?_ | refine bs_f hc ?_ | refine br_f hc ?_ | refine And.intro (Eq.refl ob) ?_ | refine bs_bt (Eq.refl true) ?_ | refine bs_bf (Eq.refl false) ?_ | refine br_bt (Eq.refl true) ?_ | refine br_bf (Eq.refl false) ?_ | refine CallK.m ?_ | refine Two.l ?_ | refine And.intro (And.intro rfl rfl) ?_)
        refine ⟨k + 1, [], ⟨by omega, by rw [hba] at hc; rw [hsucc, hok, decide_eq_true (by omega)]; rfl⟩, by omega, ?_⟩
        refine ⟨?_, ?_, rfl, rfl, by first | exact Nat.le_of_ble_eq_true rfl | exact Nat.le_refl _ | omega⟩
        · repeat (first | exact trivial | (refine And.intro (covS_syn (by first | rfl | exact congrArg (fun z => some (V.c (C.int .u64 z))) hde) rfl (by first | exact trivial | exact Nat.le_of_ble_eq_true rfl | exact hy | exact (fun p hp => nomatch hp) | (show (_ : Nat) < _; omega))) ?_) | refine And.intro (covS_bool rfl rfl (by rfl)) ?_)
        · repeat (first | exact trivial | (refine And.intro (covE_id (Nat.le_of_ble_eq_true rfl) (by first | exact wf_ints _ _ | exact wf_bools _ _ | first | exact wf_us _ _ | (simp [C.wf]; done) | simp [C.wf]) rfl (by rfl)) ?_))
    · have f6 := f3 (by omega)
      rw [f6]
      have hres : aptS t s = true := by
        have : aptK t s k = aptS t s := by unfold aptK aptS; rw [List.take_of_length_le (by omega)]
        rw [← this]; exact hok
      repeat ((conv => whnf); first | (refine And.intro (by first | omega | exact Nat.le_of_ble_eq_true rfl | (dsimp only [inK]; omega) | (simp only [mulS_eq]; omega) | (simp only [mulS_eq, setL_length]; omega) | (simp only [setL_length]; omega) | (simp only [setL_length, List.length_map]; omega) | (exact ⟨by omega, by omega, by first | exact Nat.le_of_ble_eq_true rfl | (dsimp only; omega) | (simp only [setL_length]; omega) | (simp only [setL_length, List.length_map]; omega)⟩) | (exact ⟨by omega, by first | rfl | omega, by omega, Nat.le_of_ble_eq_true rfl, Nat.le_of_ble_eq_true rfl⟩) | (exact ⟨rfl, rfl, rfl, Nat.le_of_ble_eq_true rfl, by first | rfl | omega | exact Nat.le_of_ble_eq_true rfl | (dsimp only; omega) | (simp; done) | (simp; omega), by first | rfl | omega | exact Nat.le_of_ble_eq_true rfl | (dsimp only; omega) | (simp; done) | (simp; omega), by omega, Nat.le_of_ble_eq_true rfl⟩) | exact Eq.refl true) ?_) | refine Exists.intro _ (And.intro rfl ?_) | refine And.intro (And.intro rfl (chk_rowI _ _ _ _)) ?_ | refine br_t (by omega) ?_ | refine br_f (by omega) ?_ | refine bs_t (by omega) ?_ | refine bs_f (by omega) ?_ | refine fun (K' : K3) hK' => ?_ | (refine hK' _ _ _ ?_; clear hK' K') | refine draw_auto tok mixed (by kernel_rfl) ?_ | refine Or.inl ?_ | refine And.intro (Eq.refl oo) ?_ | refine bs_bt (Eq.refl true) ?_ | refine bs_bf (Eq.refl false) ?_ | refine br_bt (Eq.refl true) ?_ | refine br_bf (Eq.refl false) ?_ | refine CallK.m ?_ | refine Two.l ?_ | refine And.intro (And.intro rfl rfl) ?_)
      refine hK' _ _ _ _ ?_
      repeat ((conv => whnf); first | (refine And.intro (by first | omega | exact Nat.le_of_ble_eq_true rfl | (dsimp only [inK]; omega) | (simp only [mulS_eq]; omega) | (simp only [mulS_eq, setL_length]; omega) | (simp only [setL_length]; omega) | (simp only [setL_length, List.length_map]; omega) | (exact ⟨by omega, by omega, by first | exact Nat.le_of_ble_eq_true rfl | (dsimp only; omega) | (simp only [setL_length]; omega) | (simp only [setL_length, List.length_map]; omega)⟩) | (exact ⟨by omega, by first | rfl | omega, by omega, Nat.le_of_ble_eq_true rfl, Nat.le_of_ble_eq_true rfl⟩) | (exact ⟨rfl, rfl, rfl, Nat.le_of_ble_eq_true rfl, by first | rfl | omega | exact Nat.le_of_ble_eq_true rfl | (dsimp only; omega) | (simp; done) | (simp; omega), by first | rfl | omega | exact Nat.le_of_ble_eq_true rfl | (dsimp only; omega) | (simp; done) | (simp; omega), by omega, Nat.le_of_ble_eq_true rfl⟩) | exact Eq.refl true) ?_) | refine Exists.intro _ (And.intro rfl ?_) | refine And.intro (And.intro rfl (chk_rowI _ _ _ _)) ?_ | refine br_t (by omega) ?_ | refine br_f (by omega) ?_ | refine bs_t (by omega) ?_ | refine bs_f (by omega) ?_ | refine fun (K' : K3) hK' => ?_ | (refine hK' _ _ _ ?_; clear hK' K') | refine draw_auto tok mixed (by kernel_rfl) ?_ | refine bs_bt (Eq.refl true) ?_ | refine bs_bf (Eq.refl false) ?_ | refine br_bt (Eq.refl true) ?_ | refine br_bf (Eq.refl false) ?_ | refine CallK.m ?_ | refine Two.l ?_ | refine And.intro (And.intro rfl rfl) ?_)
      intro ρ; rw [hres]; rfl
end Go.Proofs.YtijnimgmpocmaaaDoor

/- Waste: IndexFunc and ContainsFunc, whatever is asked; fillings. -/
namespace Go.Proofs.YtijnimgmpocmaaaDoor
open Go.RowKit
set_option linter.unusedVariables false
set_option linter.unusedSimpArgs false
theorem find_num {l : List Int} {p : Int → Bool} {k : Nat} (hlt : k < l.length) (hbad : p (l.getD k 0) = true) (hb : ∀ i, i < k → p (l.getD i 0) = false) : l.findIdx? p = some k := by
  rw [List.findIdx?_eq_some_iff_getElem]
  refine ⟨hlt, by simpa [List.getD_eq_getElem?_getD, hlt] using hbad, fun i hi => ?_⟩
  have := hb i hi
  simpa [List.getD_eq_getElem?_getD, show i < l.length by omega] using this
theorem find_not {l : List Int} {p : Int → Bool} (hb : ∀ i, i < l.length → p (l.getD i 0) = false) : l.findIdx? p = none := by
  rw [List.findIdx?_eq_none_iff]
  intro x hx
  obtain ⟨i, hi, rfl⟩ := List.mem_iff_getElem.1 hx
  have := hb i (by omega)
  simpa [List.getD_eq_getElem?_getD, hi] using this
def idxV (l : List Int) (p : Int → Bool) : Int := match l.findIdx? p with | some k => (k : Int) | none => -1
theorem index_any {f : FuncId} {caps : List (Nat × Nat)} {Lc : List E} {na : Nat} {p : Int → Bool} {l : List Int} (hl : l.length ≤ 300) (hcb : callB Tryd.prog f = true)
    (hsp : ∀ i, i < l.length → Spec Tryd.prog f ([V.i (l.getD i 0)] ++ caps.map ptrV) Lc na (Is (V.c (.bool (p (l.getD i 0)))))) (hcaps : ∀ q ∈ caps, q.1 < na) (h0 : 0 < na)
    (hw : ∀ e ∈ Lc, e.lab < na ∧ ∀ c ∈ e.cs, c.wf na) (hro : ∀ L, (∀ e ∈ Lc, find L e.lab = some e) → roL [] na L Lc) (hin : injB [] (⟨0, .ro 0, l.map C.i⟩ :: Lc) = true) :
    Spec Tryd.prog 96 [V.c (.sl 0 l.length), V.c (.fn f caps)] (⟨0, .ro 0, l.map C.i⟩ :: Lc) na (Is (V.i (idxV l p))) := by
  have hlm : (l.map C.i).length = l.length := by simp
  have hwL : ∀ e ∈ ((⟨0, .ro 0, l.map C.i⟩ : E) :: Lc), e.lab < na ∧ ∀ c ∈ e.cs, c.wf na := fun e he => by
    rcases List.mem_cons.1 he with rfl | he
    · exact ⟨h0, wf_ints _ _⟩
    · exact hw e he
  have hro' : roL [] na (⟨0, .ro 0, l.map C.i⟩ :: Lc) Lc := hro _ fun e he => find_self hin e (by simp [he])
  have hin' : injB [] Lc = true := by simp only [injB, Bool.and_eq_true] at hin; exact hin.2
  have hfn : (V.c (.fn f caps)).wf na := hcaps
  have hvw : ∀ i, ∀ v ∈ ([V.i (l.getD i 0)] ++ caps.map ptrV), v.wf na := fun i v hv => by
    rcases List.mem_append.1 hv with hv | hv
    · rw [List.mem_singleton.1 hv]; trivial
    · obtain ⟨q, hq, rfl⟩ := List.mem_map.1 hv; exact hcaps q hq
  have hren : ∀ i, renVs [] ([V.i (l.getD i 0)] ++ caps.map ptrV) = some ([V.i (l.getD i 0)] ++ caps.map ptrV) := fun i => by
    have : ∀ m : List (Nat × Nat), seqO ((m.map ptrV).map (V.ren [])) = some (m.map ptrV) := by
      intro m
      induction m with
      | nil => rfl
      | cons q r ih => simp only [List.map_cons, V.ren, A.ren, C.ren, renL, ptrV, V.c] at *; simp only [seqO, ih]
    simp only [renVs, List.singleton_append, List.map_cons, V.ren, A.ren, C.ren, V.i, V.c]
    simp only [seqO, this]
  refine Spec.of tok Tryd.func96 rfl rfl rfl fun n0 cx => vc_ok tok ?_
  repeat ((conv => whnf); first | (refine And.intro (by first | omega | exact Nat.le_of_ble_eq_true rfl | (dsimp only [inK]; omega) | (simp only [mulS_eq]; omega) | (simp only [mulS_eq, setL_length]; omega) | (simp only [setL_length]; omega) | (simp only [setL_length, List.length_map]; omega) | (exact ⟨by omega, by omega, by first | exact Nat.le_of_ble_eq_true rfl | (dsimp only; omega) | (simp only [setL_length]; omega) | (simp only [setL_length, List.length_map]; omega)⟩) | (exact ⟨by omega, by first | rfl | omega, by omega, Nat.le_of_ble_eq_true rfl, Nat.le_of_ble_eq_true rfl⟩) | (exact ⟨rfl, rfl, rfl, Nat.le_of_ble_eq_true rfl, by first | rfl | omega | exact Nat.le_of_ble_eq_true rfl | (dsimp only; omega) | (simp; done) | (simp; omega), by first | rfl | omega | exact Nat.le_of_ble_eq_true rfl | (dsimp only; omega) | (simp; done) | (simp; omega), by omega, Nat.le_of_ble_eq_true rfl⟩) | exact Eq.refl true) ?_) | refine Exists.intro _ (And.intro rfl ?_) | refine And.intro (And.intro rfl (chk_rowI _ _ _ _)) ?_ | refine br_t (by omega) ?_ | refine br_f (by omega) ?_ | refine bs_t (by omega) ?_ | refine bs_f (by omega) ?_ | refine fun (K' : K3) hK' => ?_ | (refine hK' _ _ _ ?_; clear hK' K') | refine draw_auto tok mixed (by kernel_rfl) ?_ | refine bs_bt (Eq.refl true) ?_ | refine bs_bf (Eq.refl false) ?_ | refine br_bt (Eq.refl true) ?_ | refine br_bf (Eq.refl false) ?_ | refine CallK.m ?_ | refine Two.l ?_ | refine And.intro (And.intro rfl rfl) ?_)
  refine Tri.loop (γ := Nat) (fun k => k ≤ l.length ∧ ∀ i, i < k → p (l.getD i 0) = false) (fun k => [(0, V.c (.sl 0 l.length)), (1, V.c (.fn f caps)), (7, V.i l.length), (8, V.i (k : Nat))]) (fun k => ⟨0, .ro 0, l.map C.i⟩ :: Lc) na (fun k => l.length - k) 0 (R0 := []) ?_ ?_ ?_
  · exact ⟨by omega, by omega⟩
  · refine ⟨?_, cov_refl hwL hin, hin, rfl, Nat.le_refl _⟩
    repeat (first | exact trivial | refine And.intro (covS_syn (by first | rfl) rfl (by first | exact trivial | exact h0 | exact hcaps)) ?_)
  · rintro k ⟨hk, hb⟩
    refine vc_ok tok ?_
    by_cases hlt : k < l.length
    · cases hbad : p (l.getD k 0) with
      | true =>
        repeat ((conv => whnf); first | (refine And.intro (by first | omega | exact Nat.le_of_ble_eq_true rfl | (dsimp only [inK]; omega) | (simp only [mulS_eq]; omega) | (simp only [mulS_eq, setL_length]; omega) | (simp only [setL_length]; omega) | (simp only [setL_length, List.length_map]; omega) | (exact ⟨by omega, by omega, by first | exact Nat.le_of_ble_eq_true rfl | (dsimp only; omega) | (simp only [setL_length]; omega) | (simp only [setL_length, List.length_map]; omega)⟩) | (exact ⟨by omega, by first | rfl | omega, by omega, Nat.le_of_ble_eq_true rfl, Nat.le_of_ble_eq_true rfl⟩) | (exact ⟨rfl, rfl, rfl, Nat.le_of_ble_eq_true rfl, by first | rfl | omega | exact Nat.le_of_ble_eq_true rfl | (dsimp only; omega) | (simp; done) | (simp; omega), by first | rfl | omega | exact Nat.le_of_ble_eq_true rfl | (dsimp only; omega) | (simp; done) | (simp; omega), by omega, Nat.le_of_ble_eq_true rfl⟩) | exact Eq.refl true) ?_) | with_reducible refine ld (intL hlt) ?_ | refine Exists.intro _ (And.intro rfl ?_) | refine And.intro (And.intro rfl (chk_rowI _ _ _ _)) ?_ | refine br_t (by omega) ?_ | refine br_f (by omega) ?_ | refine bs_t (by omega) ?_ | refine bs_f (by omega) ?_ | refine fun (K' : K3) hK' => ?_ | (refine hK' _ _ _ ?_; clear hK' K') | refine draw_auto tok mixed (by kernel_rfl) ?_ | refine CallK.val (R := []) (hsp k hlt) hcb (hren k) (hvw k) hro' hin' rfl trivial ?_ | refine br_bt hbad ?_ | refine bs_bt (Eq.refl true) ?_ | refine bs_bf (Eq.refl false) ?_ | refine br_bt (Eq.refl true) ?_ | refine br_bf (Eq.refl false) ?_ | refine CallK.m ?_ | refine Two.l ?_ | refine And.intro (And.intro rfl rfl) ?_)
        intro ρ
        rw [idxV, find_num hlt hbad hb]; rfl
      | false =>
        repeat ((conv => whnf); first | (refine And.intro (by first | omega | exact Nat.le_of_ble_eq_true rfl | (dsimp only [inK]; omega) | (simp only [mulS_eq]; omega) | (simp only [mulS_eq, setL_length]; omega) | (simp only [setL_length]; omega) | (simp only [setL_length, List.length_map]; omega) | (exact ⟨by omega, by omega, by first | exact Nat.le_of_ble_eq_true rfl | (dsimp only; omega) | (simp only [setL_length]; omega) | (simp only [setL_length, List.length_map]; omega)⟩) | (exact ⟨by omega, by first | rfl | omega, by omega, Nat.le_of_ble_eq_true rfl, Nat.le_of_ble_eq_true rfl⟩) | (exact ⟨rfl, rfl, rfl, Nat.le_of_ble_eq_true rfl, by first | rfl | omega | exact Nat.le_of_ble_eq_true rfl | (dsimp only; omega) | (simp; done) | (simp; omega), by first | rfl | omega | exact Nat.le_of_ble_eq_true rfl | (dsimp only; omega) | (simp; done) | (simp; omega), by omega, Nat.le_of_ble_eq_true rfl⟩) | exact Eq.refl true) ?_) | with_reducible refine ld (intL hlt) ?_ | refine Exists.intro _ (And.intro rfl ?_) | refine And.intro (And.intro rfl (chk_rowI _ _ _ _)) ?_ | refine br_t (by omega) ?_ | refine br_f (by omega) ?_ | refine bs_t (by omega) ?_ | refine bs_f (by omega) ?_ | refine fun (K' : K3) hK' => ?_ | (refine hK' _ _ _ ?_; clear hK' K') | refine draw_auto tok mixed (by kernel_rfl) ?_ | refine CallK.val (R := []) (hsp k hlt) hcb (hren k) (hvw k) hro' hin' rfl trivial ?_ | refine br_bf hbad ?_ | refine bs_bt (Eq.refl true) ?_ | refine bs_bf (Eq.refl false) ?_ | refine br_bt (Eq.refl true) ?_ | refine br_bf (Eq.refl false) ?_ | refine CallK.m ?_ | refine Two.l ?_ | refine And.intro (And.intro rfl rfl) ?_)
        refine ⟨k + 1, [], ⟨by omega, fun i hi => ?_⟩, by omega, ?_⟩
        · by_cases h : i = k
          · rw [h]; exact hbad
          · exact hb i (by omega)
        refine ⟨?_, cov_refl hwL hin, hin, rfl, Nat.le_refl _⟩
        repeat (first | exact trivial | refine And.intro (covS_syn (by first | rfl | (refine congrArg some (congrArg V.i ?_); omega)) rfl (by first | exact trivial | exact h0 | exact hcaps)) ?_)
    · have hkl : k = l.length := by omega
      repeat ((conv => whnf); first | (refine And.intro (by first | omega | exact Nat.le_of_ble_eq_true rfl | (dsimp only [inK]; omega) | (simp only [mulS_eq]; omega) | (simp only [mulS_eq, setL_length]; omega) | (simp only [setL_length]; omega) | (simp only [setL_length, List.length_map]; omega) | (exact ⟨by omega, by omega, by first | exact Nat.le_of_ble_eq_true rfl | (dsimp only; omega) | (simp only [setL_length]; omega) | (simp only [setL_length, List.length_map]; omega)⟩) | (exact ⟨by omega, by first | rfl | omega, by omega, Nat.le_of_ble_eq_true rfl, Nat.le_of_ble_eq_true rfl⟩) | (exact ⟨rfl, rfl, rfl, Nat.le_of_ble_eq_true rfl, by first | rfl | omega | exact Nat.le_of_ble_eq_true rfl | (dsimp only; omega) | (simp; done) | (simp; omega), by first | rfl | omega | exact Nat.le_of_ble_eq_true rfl | (dsimp only; omega) | (simp; done) | (simp; omega), by omega, Nat.le_of_ble_eq_true rfl⟩) | exact Eq.refl true) ?_) | refine Exists.intro _ (And.intro rfl ?_) | refine And.intro (And.intro rfl (chk_rowI _ _ _ _)) ?_ | refine br_t (by omega) ?_ | refine br_f (by omega) ?_ | refine bs_t (by omega) ?_ | refine bs_f (by omega) ?_ | refine fun (K' : K3) hK' => ?_ | (refine hK' _ _ _ ?_; clear hK' K') | refine draw_auto tok mixed (by kernel_rfl) ?_ | refine bs_bt (Eq.refl true) ?_ | refine bs_bf (Eq.refl false) ?_ | refine br_bt (Eq.refl true) ?_ | refine br_bf (Eq.refl false) ?_ | refine CallK.m ?_ | refine Two.l ?_ | refine And.intro (And.intro rfl rfl) ?_)
      intro ρ
      rw [idxV, find_not (fun i hi => hb i (by omega))]; rfl
theorem any_idx (l : List Int) (p : Int → Bool) : (decide (idxV l p ≥ 0)) = l.any p := by
  unfold idxV
  cases h : l.findIdx? p with
  | none =>
    have : l.any p = false := by simpa [List.any_eq_false] using List.findIdx?_eq_none_iff.1 h
    simp [this]
  | some k =>
    have : l.any p = true := by
      obtain ⟨h1, h2, _⟩ := List.findIdx?_eq_some_iff_getElem.1 h
      exact List.any_eq_true.2 ⟨_, List.getElem_mem h1, h2⟩
    simp [this]
theorem contains_any {f : FuncId} {caps : List (Nat × Nat)} {Lc : List E} {na : Nat} {p : Int → Bool} {l : List Int} (hl : l.length ≤ 300) (hcb : callB Tryd.prog f = true)
    (hsp : ∀ i, i < l.length → Spec Tryd.prog f ([V.i (l.getD i 0)] ++ caps.map ptrV) Lc na (Is (V.c (.bool (p (l.getD i 0)))))) (hcaps : ∀ q ∈ caps, q.1 < na) (h0 : 0 < na)
    (hw : ∀ e ∈ Lc, e.lab < na ∧ ∀ c ∈ e.cs, c.wf na) (hro : ∀ L, (∀ e ∈ Lc, find L e.lab = some e) → roL [] na L Lc) (hin : injB [] (⟨0, .ro 0, l.map C.i⟩ :: Lc) = true) (hro0 : roL [] na (⟨0, .ro 0, l.map C.i⟩ :: Lc) (⟨0, .ro 0, l.map C.i⟩ :: Lc)) :
    Spec Tryd.prog 88 [V.c (.sl 0 l.length), V.c (.fn f caps)] (⟨0, .ro 0, l.map C.i⟩ :: Lc) na (Is (V.c (.bool (l.any p)))) := by
  have hfn : (V.c (.fn f caps)).wf na := hcaps
  refine Spec.of tok Tryd.func88 rfl rfl rfl fun n0 cx => vc_ok tok ?_
  repeat ((conv => whnf); first | (refine And.intro (by first | omega | exact Nat.le_of_ble_eq_true rfl | (dsimp only [inK]; omega) | (simp only [mulS_eq]; omega) | (simp only [mulS_eq, setL_length]; omega) | (simp only [setL_length]; omega) | (simp only [setL_length, List.length_map]; omega) | (exact ⟨by omega, by omega, by first | exact Nat.le_of_ble_eq_true rfl | (dsimp only; omega) | (simp only [setL_length]; omega) | (simp only [setL_length, List.length_map]; omega)⟩) | (exact ⟨by omega, by first | rfl | omega, by omega, Nat.le_of_ble_eq_true rfl, Nat.le_of_ble_eq_true rfl⟩) | (exact ⟨rfl, rfl, rfl, Nat.le_of_ble_eq_true rfl, by first | rfl | omega | exact Nat.le_of_ble_eq_true rfl | (dsimp only; omega) | (simp; done) | (simp; omega), by first | rfl | omega | exact Nat.le_of_ble_eq_true rfl | (dsimp only; omega) | (simp; done) | (simp; omega), by omega, Nat.le_of_ble_eq_true rfl⟩) | exact Eq.refl true) ?_) | refine Exists.intro _ (And.intro rfl ?_) | refine And.intro (And.intro rfl (chk_rowI _ _ _ _)) ?_ | refine br_t (by omega) ?_ | refine br_f (by omega) ?_ | refine bs_t (by omega) ?_ | refine bs_f (by omega) ?_ | refine fun (K' : K3) hK' => ?_ | (refine hK' _ _ _ ?_; clear hK' K') | refine draw_auto tok mixed (by kernel_rfl) ?_ | (refine CallK.val (R := []) (index_any hl hcb hsp hcaps h0 hw hro hin) (by kernel_rfl) rfl (fun v hv => by simp only [List.mem_cons, List.not_mem_nil, or_false] at hv; rcases hv with rfl | rfl; exact h0; exact hcaps) hro0 hin rfl trivial ?_) | refine bs_bt (Eq.refl true) ?_ | refine bs_bf (Eq.refl false) ?_ | refine br_bt (Eq.refl true) ?_ | refine br_bf (Eq.refl false) ?_ | refine CallK.m ?_ | refine Two.l ?_ | refine And.intro (And.intro rfl rfl) ?_)
  intro ρ
  show Value.bool _ = Value.bool _
  rw [← any_idx]
def fillBad (x : Int) : Bool := !decide (0 ≤ x ∧ x ≤ 1000)
theorem fbad_spec (x : Int) : Spec Tryd.prog 89 [V.i x] [] 1 (Is (V.c (.bool (fillBad x)))) := by
  refine Spec.of tok Tryd.func89 rfl rfl rfl fun n0 cx => vc_ok tok ?_
  by_cases h1 : 0 ≤ x ∧ x ≤ 1000
  · repeat ((conv => whnf); first | (refine And.intro (by first | omega | exact Nat.le_of_ble_eq_true rfl | (dsimp only [inK]; omega) | (simp only [mulS_eq]; omega) | (simp only [mulS_eq, setL_length]; omega) | (simp only [setL_length]; omega) | (simp only [setL_length, List.length_map]; omega) | (exact ⟨by omega, by omega, by first | exact Nat.le_of_ble_eq_true rfl | (dsimp only; omega) | (simp only [setL_length]; omega) | (simp only [setL_length, List.length_map]; omega)⟩) | (exact ⟨by omega, by first | rfl | omega, by omega, Nat.le_of_ble_eq_true rfl, Nat.le_of_ble_eq_true rfl⟩) | (exact ⟨rfl, rfl, rfl, Nat.le_of_ble_eq_true rfl, by first | rfl | omega | exact Nat.le_of_ble_eq_true rfl | (dsimp only; omega) | (simp; done) | (simp; omega), by first | rfl | omega | exact Nat.le_of_ble_eq_true rfl | (dsimp only; omega) | (simp; done) | (simp; omega), by omega, Nat.le_of_ble_eq_true rfl⟩) | exact Eq.refl true) ?_) | refine Exists.intro _ (And.intro rfl ?_) | refine And.intro (And.intro rfl (chk_rowI _ _ _ _)) ?_ | refine br_t (by omega) ?_ | refine br_f (by omega) ?_ | refine bs_t (by omega) ?_ | refine bs_f (by omega) ?_ | refine fun (K' : K3) hK' => ?_ | (refine hK' _ _ _ ?_; clear hK' K') | refine draw_auto tok mixed (by kernel_rfl) ?_ | refine CallK.val (R := []) (between_spec _ _ _) (by kernel_rfl) rfl (by simp [V.wf, A.wf, C.wf, V.i]) trivial rfl rfl trivial ?_ | refine bs_bt (Eq.refl true) ?_ | refine bs_bf (Eq.refl false) ?_ | refine br_bt (Eq.refl true) ?_ | refine br_bf (Eq.refl false) ?_ | refine CallK.m ?_ | refine Two.l ?_ | refine And.intro (And.intro rfl rfl) ?_)
    intro ρ; show Value.bool _ = Value.bool _; simp [fillBad]
  · repeat ((conv => whnf); first | (refine And.intro (by first | omega | exact Nat.le_of_ble_eq_true rfl | (dsimp only [inK]; omega) | (simp only [mulS_eq]; omega) | (simp only [mulS_eq, setL_length]; omega) | (simp only [setL_length]; omega) | (simp only [setL_length, List.length_map]; omega) | (exact ⟨by omega, by omega, by first | exact Nat.le_of_ble_eq_true rfl | (dsimp only; omega) | (simp only [setL_length]; omega) | (simp only [setL_length, List.length_map]; omega)⟩) | (exact ⟨by omega, by first | rfl | omega, by omega, Nat.le_of_ble_eq_true rfl, Nat.le_of_ble_eq_true rfl⟩) | (exact ⟨rfl, rfl, rfl, Nat.le_of_ble_eq_true rfl, by first | rfl | omega | exact Nat.le_of_ble_eq_true rfl | (dsimp only; omega) | (simp; done) | (simp; omega), by first | rfl | omega | exact Nat.le_of_ble_eq_true rfl | (dsimp only; omega) | (simp; done) | (simp; omega), by omega, Nat.le_of_ble_eq_true rfl⟩) | exact Eq.refl true) ?_) | refine Exists.intro _ (And.intro rfl ?_) | refine And.intro (And.intro rfl (chk_rowI _ _ _ _)) ?_ | refine br_t (by omega) ?_ | refine br_f (by omega) ?_ | refine bs_t (by omega) ?_ | refine bs_f (by omega) ?_ | refine fun (K' : K3) hK' => ?_ | (refine hK' _ _ _ ?_; clear hK' K') | refine draw_auto tok mixed (by kernel_rfl) ?_ | refine CallK.val (R := []) (between_spec _ _ _) (by kernel_rfl) rfl (by simp [V.wf, A.wf, C.wf, V.i]) trivial rfl rfl trivial ?_ | refine bs_bt (Eq.refl true) ?_ | refine bs_bf (Eq.refl false) ?_ | refine br_bt (Eq.refl true) ?_ | refine br_bf (Eq.refl false) ?_ | refine CallK.m ?_ | refine Two.l ?_ | refine And.intro (And.intro rfl rfl) ?_)
    intro ρ; show Value.bool _ = Value.bool _; simp [fillBad]
theorem anybad_spec (l : List Int) (hl : l.length ≤ 300) : Spec Tryd.prog 88 [V.c (.sl 0 l.length), V.c (.fn 89 [])] [⟨0, .ro 0, l.map C.i⟩] 1 (Is (V.c (.bool (l.any fillBad)))) :=
  contains_any (Lc := []) hl (by kernel_rfl) (fun i hi => fbad_spec _) (by simp) (by omega) (by simp) (fun _ _ => trivial) rfl ⟨roE_id (by omega) (wf_ints _ _) rfl (.inl rfl) rfl, trivial⟩
/-- A list is a filling. -/
def isF (n : Nat) (l : List Int) : Bool := decide ((l.length : Int) = n) && !(l.any fillBad)
theorem filled_spec (t : List Nat) (n : Nat) (l : List Int) (hl : l.length ≤ 300) (hn : n ≤ 8) : Spec Tryd.prog 56 [V.c (.sl 0 n), V.c (.sl 1 l.length)] [⟨0, .ro 0, t.map C.u⟩, ⟨1, .ro 0, l.map C.i⟩] 2 (Is (V.c (.bool (isF n l)))) := by
  have hc := anybad_spec l hl
  refine Spec.of tok Tryd.func56 rfl rfl rfl fun n0 cx => vc_ok tok ?_
  by_cases h : (l.length : Int) = n
  · repeat ((conv => whnf); first | (refine And.intro (by first | omega | exact Nat.le_of_ble_eq_true rfl | (dsimp only [inK]; omega) | (simp only [mulS_eq]; omega) | (simp only [mulS_eq, setL_length]; omega) | (simp only [setL_length]; omega) | (simp only [setL_length, List.length_map]; omega) | (exact ⟨by omega, by omega, by first | exact Nat.le_of_ble_eq_true rfl | (dsimp only; omega) | (simp only [setL_length]; omega) | (simp only [setL_length, List.length_map]; omega)⟩) | (exact ⟨by omega, by first | rfl | omega, by omega, Nat.le_of_ble_eq_true rfl, Nat.le_of_ble_eq_true rfl⟩) | (exact ⟨rfl, rfl, rfl, Nat.le_of_ble_eq_true rfl, by first | rfl | omega | exact Nat.le_of_ble_eq_true rfl | (dsimp only; omega) | (simp; done) | (simp; omega), by first | rfl | omega | exact Nat.le_of_ble_eq_true rfl | (dsimp only; omega) | (simp; done) | (simp; omega), by omega, Nat.le_of_ble_eq_true rfl⟩) | exact Eq.refl true) ?_) | refine Exists.intro _ (And.intro rfl ?_) | refine And.intro (And.intro rfl (chk_rowI _ _ _ _)) ?_ | refine br_t (by omega) ?_ | refine br_f (by omega) ?_ | refine bs_t (by omega) ?_ | refine bs_f (by omega) ?_ | refine fun (K' : K3) hK' => ?_ | (refine hK' _ _ _ ?_; clear hK' K') | refine draw_auto tok mixed (by kernel_rfl) ?_ | refine bs_t h ?_ | refine br_t h ?_ | refine CallK.val (R := [(0, some 1)]) hc (by kernel_rfl) rfl (by simp [V.wf, A.wf, C.wf]) ⟨roE_f (flat_i _) (l := 1) rfl (by omega) rfl (.inl rfl), trivial⟩ rfl rfl trivial ?_ | refine bs_bt (Eq.refl true) ?_ | refine bs_bf (Eq.refl false) ?_ | refine br_bt (Eq.refl true) ?_ | refine br_bf (Eq.refl false) ?_ | refine CallK.m ?_ | refine Two.l ?_ | refine And.intro (And.intro rfl rfl) ?_)
    intro ρ; show Value.bool _ = Value.bool _; unfold isF; rw [decide_eq_true h]; simp
  · repeat ((conv => whnf); first | (refine And.intro (by first | omega | exact Nat.le_of_ble_eq_true rfl | (dsimp only [inK]; omega) | (simp only [mulS_eq]; omega) | (simp only [mulS_eq, setL_length]; omega) | (simp only [setL_length]; omega) | (simp only [setL_length, List.length_map]; omega) | (exact ⟨by omega, by omega, by first | exact Nat.le_of_ble_eq_true rfl | (dsimp only; omega) | (simp only [setL_length]; omega) | (simp only [setL_length, List.length_map]; omega)⟩) | (exact ⟨by omega, by first | rfl | omega, by omega, Nat.le_of_ble_eq_true rfl, Nat.le_of_ble_eq_true rfl⟩) | (exact ⟨rfl, rfl, rfl, Nat.le_of_ble_eq_true rfl, by first | rfl | omega | exact Nat.le_of_ble_eq_true rfl | (dsimp only; omega) | (simp; done) | (simp; omega), by first | rfl | omega | exact Nat.le_of_ble_eq_true rfl | (dsimp only; omega) | (simp; done) | (simp; omega), by omega, Nat.le_of_ble_eq_true rfl⟩) | exact Eq.refl true) ?_) | refine Exists.intro _ (And.intro rfl ?_) | refine And.intro (And.intro rfl (chk_rowI _ _ _ _)) ?_ | refine br_t (by omega) ?_ | refine br_f (by omega) ?_ | refine bs_t (by omega) ?_ | refine bs_f (by omega) ?_ | refine fun (K' : K3) hK' => ?_ | (refine hK' _ _ _ ?_; clear hK' K') | refine draw_auto tok mixed (by kernel_rfl) ?_ | refine bs_f h ?_ | refine br_f h ?_ | refine bs_bt (Eq.refl true) ?_ | refine bs_bf (Eq.refl false) ?_ | refine br_bt (Eq.refl true) ?_ | refine br_bf (Eq.refl false) ?_ | refine CallK.m ?_ | refine Two.l ?_ | refine And.intro (And.intro rfl rfl) ?_)
    intro ρ; show Value.bool _ = Value.bool _; unfold isF; rw [decide_eq_false h]; rfl
/-- A filling is right: row a against its kinds. -/
def rgtK (t : List Nat) (l : List Int) (a k : Nat) : Bool := ((bitsL (t.getD a 0)).take k).all fun b => !decide (l.getD a 0 = l.getD b 0)
def rgtA (t : List Nat) (l : List Int) (a : Nat) : Bool := (bitsL (t.getD a 0)).all fun b => !decide (l.getD a 0 = l.getD b 0)
def rgtR (t : List Nat) (l : List Int) (k : Nat) : Bool := (List.range k).all fun a => rgtA t l a
theorem all_take_succ {m : List Nat} {p : Nat → Bool} {k : Nat} (h : k < m.length) : (m.take (k + 1)).all p = ((m.take k).all p && p (m.getD k 0)) := by
  have e : m[k]?.toList = [m.getD k 0] := by rw [List.getD_eq_getElem?_getD, List.getElem?_eq_getElem h]; rfl
  rw [List.take_add_one, e, List.all_append]
  simp
theorem rgtK_succ {t : List Nat} {l : List Int} {a k : Nat} (h : k < (bitsL (t.getD a 0)).length) : rgtK t l a (k + 1) = (rgtK t l a k && !decide (l.getD a 0 = l.getD ((bitsL (t.getD a 0)).getD k 0) 0)) := all_take_succ h
theorem rgtR_succ (t : List Nat) (l : List Int) (k : Nat) : rgtR t l (k + 1) = (rgtR t l k && rgtA t l k) := by simp [rgtR, List.range_succ, List.all_append]
theorem rgtR_false {t : List Nat} {l : List Int} {k n : Nat} (hk : k < n) (h : rgtA t l k = false) : rgtR t l n = false := by
  unfold rgtR; rw [List.all_eq_false]; exact ⟨k, by simpa using hk, by simp [h]⟩
set_option maxRecDepth 10000 in
set_option maxHeartbeats 8000000 in
theorem right_spec (t : List Nat) (n : Nat) (l : List Int) (htl : t.length = n) (hn : n ≤ 8) (ht : ∀ x ∈ t, x < 2 ^ n) (hll : l.length = n) : Spec Tryd.prog 57 [V.c (.sl 0 n), V.c (.sl 1 n)] [⟨0, .ro 0, t.map C.u⟩, ⟨1, .ro 0, l.map C.i⟩] 2 (Is (V.c (.bool (rgtR t l n)))) := by
  have htm : (t.map C.u).length = n := by rw [List.length_map, htl]
  have hlm : (l.map C.i).length = n := by rw [List.length_map, hll]
  refine Spec.of tok Tryd.func57 rfl rfl rfl fun n0 cx => vc_ok tok ?_
  repeat ((conv => whnf); first | (refine And.intro (by first | omega | exact Nat.le_of_ble_eq_true rfl | (dsimp only [inK]; omega) | (simp only [mulS_eq]; omega) | (simp only [mulS_eq, setL_length]; omega) | (simp only [setL_length]; omega) | (simp only [setL_length, List.length_map]; omega) | (exact ⟨by omega, by omega, by first | exact Nat.le_of_ble_eq_true rfl | (dsimp only; omega) | (simp only [setL_length]; omega) | (simp only [setL_length, List.length_map]; omega)⟩) | (exact ⟨by omega, by first | rfl | omega, by omega, Nat.le_of_ble_eq_true rfl, Nat.le_of_ble_eq_true rfl⟩) | (exact ⟨rfl, rfl, rfl, Nat.le_of_ble_eq_true rfl, by first | rfl | omega | exact Nat.le_of_ble_eq_true rfl | (dsimp only; omega) | (simp; done) | (simp; omega), by first | rfl | omega | exact Nat.le_of_ble_eq_true rfl | (dsimp only; omega) | (simp; done) | (simp; omega), by omega, Nat.le_of_ble_eq_true rfl⟩) | exact Eq.refl true) ?_) | refine Exists.intro _ (And.intro rfl ?_) | refine And.intro (And.intro rfl (chk_rowI _ _ _ _)) ?_ | refine br_t (by omega) ?_ | refine br_f (by omega) ?_ | refine bs_t (by omega) ?_ | refine bs_f (by omega) ?_ | refine fun (K' : K3) hK' => ?_ | (refine hK' _ _ _ ?_; clear hK' K') | refine draw_auto tok mixed (by kernel_rfl) ?_ | refine bs_bt (Eq.refl true) ?_ | refine bs_bf (Eq.refl false) ?_ | refine br_bt (Eq.refl true) ?_ | refine br_bf (Eq.refl false) ?_ | refine CallK.m ?_ | refine Two.l ?_ | refine And.intro (And.intro rfl rfl) ?_)
  refine Tri.loop (γ := Nat) (fun a => a ≤ n ∧ rgtR t l a = true) (fun a => [(3, V.c (.ptr 2 0)), (4, V.c (.ptr 3 0)), (8, V.c (.sl 0 n)), (9, V.i n), (10, V.i (a : Nat))])
    (fun a => [⟨3, .own 4, [.ff]⟩, ⟨2, .own 25, [.sl 1 n]⟩, ⟨0, .ro 0, t.map C.u⟩, ⟨1, .ro 0, l.map C.i⟩]) 4 (fun a => n - a) 0 (R0 := []) ?_ ?_ ?_
  · exact ⟨by omega, rfl⟩
  · skip
    refine ⟨?_, ?_, rfl, rfl, by first | exact Nat.le_of_ble_eq_true rfl | exact Nat.le_refl _ | omega⟩
    · repeat (first | exact trivial | (refine And.intro (covS_syn (by rfl) rfl (by first | exact trivial | exact Nat.le_of_ble_eq_true rfl | exact hy | exact (fun p hp => nomatch hp) | (show (_ : Nat) < _; omega))) ?_) | refine And.intro (covS_bool rfl rfl (by rfl)) ?_)
    · repeat (first | exact trivial | (refine And.intro (covE_id (Nat.le_of_ble_eq_true rfl) (by first | exact wf_ints _ _ | exact wf_bools _ _ | first | exact wf_us _ _ | exact wf_cells _ _ | (simp [C.wf]; done) | simp [C.wf]) rfl (by rfl)) ?_))
  · rintro a ⟨ha, hok⟩
    refine vc_ok tok ?_
    by_cases hlt : a < n
    · have hld : (t.map C.u)[mulS ((a : Nat) : Int).toNat 1]? = some (C.u (t.getD a 0)) := uLz rfl (by omega)
      have hsn : t.getD a 0 < 2 ^ n := by rw [List.getD_eq_getElem?_getD, List.getElem?_eq_getElem (by omega)]; exact ht _ (List.getElem_mem _)
      have hrA : rgtA t l a = (bitsL (t.getD a 0)).all fun b => !decide (l.getD a 0 = l.getD b 0) := rfl
      have hrK0 : rgtK t l a 0 = true := rfl
      have hrKe : rgtK t l a (bitsL (t.getD a 0)).length = rgtA t l a := by unfold rgtK rgtA; rw [List.take_length]
      have hrKs : ∀ {k}, k < (bitsL (t.getD a 0)).length → rgtK t l a (k + 1) = (rgtK t l a k && !decide (l.getD a 0 = l.getD ((bitsL (t.getD a 0)).getD k 0) 0)) := fun h => rgtK_succ h
      have hsR := rgtR_succ t l a
      have hla : (l.map C.i)[mulS ((a : Nat) : Int).toNat 1]? = some (C.i (l.getD a 0)) := intLz rfl (by omega)
      obtain ⟨s, hs⟩ : ∃ s, s = t.getD a 0 := ⟨_, rfl⟩
      rw [← hs] at hld hsn hrA hrKe hrKs
      have hs8 : s < 256 := Nat.lt_of_lt_of_le hsn (pow_8 hn)
      have hbl := bitsL_len s
      repeat ((conv => whnf); first | (refine And.intro (by first | omega | exact Nat.le_of_ble_eq_true rfl | (dsimp only [inK]; omega) | (simp only [mulS_eq]; omega) | (simp only [mulS_eq, setL_length]; omega) | (simp only [setL_length]; omega) | (simp only [setL_length, List.length_map]; omega) | (exact ⟨by omega, by omega, by first | exact Nat.le_of_ble_eq_true rfl | (dsimp only; omega) | (simp only [setL_length]; omega) | (simp only [setL_length, List.length_map]; omega)⟩) | (exact ⟨by omega, by first | rfl | omega, by omega, Nat.le_of_ble_eq_true rfl, Nat.le_of_ble_eq_true rfl⟩) | (exact ⟨rfl, rfl, rfl, Nat.le_of_ble_eq_true rfl, by first | rfl | omega | exact Nat.le_of_ble_eq_true rfl | (dsimp only; omega) | (simp; done) | (simp; omega), by first | rfl | omega | exact Nat.le_of_ble_eq_true rfl | (dsimp only; omega) | (simp; done) | (simp; omega), by omega, Nat.le_of_ble_eq_true rfl⟩) | exact Eq.refl true) ?_) | with_reducible refine ld (hld) ?_ | refine Exists.intro _ (And.intro rfl ?_) | refine And.intro (And.intro rfl (chk_rowI _ _ _ _)) ?_ | refine br_t (by omega) ?_ | refine br_f (by omega) ?_ | refine bs_t (by omega) ?_ | refine bs_f (by omega) ?_ | refine fun (K' : K3) hK' => ?_ | (refine hK' _ _ _ ?_; clear hK' K') | refine draw_auto tok mixed (by kernel_rfl) ?_ | refine CallK.fresh (by kernel_rfl) (all_spec _ _ _) rfl ?_ | refine bs_bt (Eq.refl true) ?_ | refine bs_bf (Eq.refl false) ?_ | refine br_bt (Eq.refl true) ?_ | refine br_bf (Eq.refl false) ?_ | refine CallK.m ?_ | refine Two.l ?_ | refine And.intro (And.intro rfl rfl) ?_)
      refine Tri.opq fun K' hK' => ?_
      refine Tri.rangeFunc tok (by exact rfl) (by kernel_rfl) (by exact rfl) (by exact rfl) (by exact rfl) (by exact rfl) (by exact rfl) (by exact rfl) ?_
      intro y cxi oo ob od hy hY
      refine vc_ok tok ?_
      repeat ((conv => whnf); first | (refine And.intro (by first | omega | exact Nat.le_of_ble_eq_true rfl | (dsimp only [inK]; omega) | (simp only [mulS_eq]; omega) | (simp only [mulS_eq, setL_length]; omega) | (simp only [setL_length]; omega) | (simp only [setL_length, List.length_map]; omega) | (exact ⟨by omega, by omega, by first | exact Nat.le_of_ble_eq_true rfl | (dsimp only; omega) | (simp only [setL_length]; omega) | (simp only [setL_length, List.length_map]; omega)⟩) | (exact ⟨by omega, by first | rfl | omega, by omega, Nat.le_of_ble_eq_true rfl, Nat.le_of_ble_eq_true rfl⟩) | (exact ⟨rfl, rfl, rfl, Nat.le_of_ble_eq_true rfl, by first | rfl | omega | exact Nat.le_of_ble_eq_true rfl | (dsimp only; omega) | (simp; done) | (simp; omega), by first | rfl | omega | exact Nat.le_of_ble_eq_true rfl | (dsimp only; omega) | (simp; done) | (simp; omega), by omega, Nat.le_of_ble_eq_true rfl⟩) | exact Eq.refl true) ?_) | refine Exists.intro _ (And.intro rfl ?_) | refine And.intro (And.intro rfl (chk_rowI _ _ _ _)) ?_ | refine br_t (by omega) ?_ | refine br_f (by omega) ?_ | refine bs_t (by omega) ?_ | refine bs_f (by omega) ?_ | refine fun (K' : K3) hK' => ?_ | (refine hK' _ _ _ ?_; clear hK' K') | refine draw_auto tok mixed (by kernel_rfl) ?_ | refine bs_bt (Eq.refl true) ?_ | refine bs_bf (Eq.refl false) ?_ | refine br_bt (Eq.refl true) ?_ | refine br_bf (Eq.refl false) ?_ | refine CallK.m ?_ | refine Two.l ?_ | refine And.intro (And.intro rfl rfl) ?_)
      refine Tri.loop (γ := Nat) (fun k => k ≤ (bitsL s).length ∧ rgtK t l a k = true) (fun k => [(0, V.c (.v y)), (1, V.c (.ptr 5 0)), (3, V.u (rs s k))])
        (fun k => [⟨6, .obj oo, []⟩, ⟨5, .own 75, [C.u s]⟩, ⟨4, .own 3, [C.i (a : Nat)]⟩, ⟨3, .own 4, [.ff]⟩, ⟨2, .own 25, [.sl 1 n]⟩, ⟨0, .ro 0, t.map C.u⟩, ⟨1, .ro 0, l.map C.i⟩]) 7 (fun k => (bitsL s).length - k) 0 (R0 := []) ?_ ?_ ?_
      · exact ⟨by omega, hrK0⟩
      · skip
        refine ⟨?_, ?_, rfl, rfl, by first | exact Nat.le_of_ble_eq_true rfl | exact Nat.le_refl _ | omega⟩
        · repeat (first | exact trivial | (refine And.intro (covS_syn (by rfl) rfl (by first | exact trivial | exact Nat.le_of_ble_eq_true rfl | exact hy | exact (fun p hp => nomatch hp) | (show (_ : Nat) < _; omega))) ?_) | refine And.intro (covS_bool rfl rfl (by rfl)) ?_)
        · repeat (first | exact trivial | (refine And.intro (covE_id (Nat.le_of_ble_eq_true rfl) (by first | exact wf_ints _ _ | exact wf_bools _ _ | first | exact wf_us _ _ | exact wf_cells _ _ | (simp [C.wf]; done) | simp [C.wf]) rfl (by rfl)) ?_))
      · rintro k ⟨hk, hokk⟩
        refine vc_ok tok ?_
        obtain ⟨f1, f2, f3⟩ := all_fact s hs8 k (by omega)
        by_cases hkl : k < (bitsL s).length
        · obtain ⟨f4, f5⟩ := f2 hkl
          have hmem := mem_bitsL.1 (bitsL_get hkl)
          have hbn := bit_lt hsn hmem.2
          have hrs : rs s (k + 1) = rs s k &&& (rs s k - 1) := rfl
          have hsucc := hrKs hkl
          have hgm := bitsL_get hkl
          obtain ⟨b, hb⟩ : ∃ b, b = (bitsL s).getD k 0 := ⟨_, rfl⟩
          obtain ⟨r, hr⟩ : ∃ r, r = rs s k := ⟨_, rfl⟩
          rw [← hb] at f5 hbn hsucc hgm
          rw [← hr] at f1 f4 f5 hrs ⊢
          have hne : (r : Int) ≠ 0 := by omega
          have hde := and_dec f1 f4
          rw [← hrs] at hde
          have htz := fun {n0 nx : Nat} {L : List E} {K : V → List E → Nat → Prop} => tz_k (n0 := n0) (nx := nx) (L := L) (K := K) f4 f1
          rw [f5] at htz
          have hlb : (l.map C.i)[mulS ((b : Nat) : Int).toNat 1]? = some (C.i (l.getD b 0)) := intLz rfl (by omega)
          by_cases hc : l.getD a 0 = l.getD b 0
          · have hres : rgtR t l n = false := rgtR_false hlt (by rw [hrA, List.all_eq_false]; exact ⟨b, hgm, by rw [decide_eq_true hc]; simp⟩)
            repeat ((conv => whnf); first | (refine And.intro (by first | omega | exact Nat.le_of_ble_eq_true rfl | (dsimp only [inK]; omega) | (simp only [mulS_eq]; omega) | (simp only [mulS_eq, setL_length]; omega) | (simp only [setL_length]; omega) | (simp only [setL_length, List.length_map]; omega) | (exact ⟨by omega, by omega, by first | exact Nat.le_of_ble_eq_true rfl | (dsimp only; omega) | (simp only [setL_length]; omega) | (simp only [setL_length, List.length_map]; omega)⟩) | (exact ⟨by omega, by first | rfl | omega, by omega, Nat.le_of_ble_eq_true rfl, Nat.le_of_ble_eq_true rfl⟩) | (exact ⟨rfl, rfl, rfl, Nat.le_of_ble_eq_true rfl, by first | rfl | omega | exact Nat.le_of_ble_eq_true rfl | (dsimp only; omega) | (simp; done) | (simp; omega), by first | rfl | omega | exact Nat.le_of_ble_eq_true rfl | (dsimp only; omega) | (simp; done) | (simp; omega), by omega, Nat.le_of_ble_eq_true rfl⟩) | exact Eq.refl true) ?_) | refine Exists.intro _ (And.intro rfl ?_) | refine And.intro (And.intro rfl (chk_rowI _ _ _ _)) ?_ | refine br_t (by omega) ?_ | refine br_f (by omega) ?_ | refine bs_t (by omega) ?_ | refine bs_f (by omega) ?_ | refine fun (K' : K3) hK' => ?_ | (refine hK' _ _ _ ?_; clear hK' K') | refine draw_auto tok mixed (by kernel_rfl) ?_ | refine bs_t hne ?_ | refine br_t hne ?_ | refine htz ?_ | refine bs_bt (Eq.refl true) ?_ | refine bs_bf (Eq.refl false) ?_ | refine br_bt (Eq.refl true) ?_ | refine br_bf (Eq.refl false) ?_ | refine CallK.m ?_ | refine Two.l ?_ | refine And.intro (And.intro rfl rfl) ?_)
            refine hY _ _ _ _ (Nat.le_of_ble_eq_true rfl) rfl ⟨rfl, trivial⟩ ?_
            intro cxb hcx
            refine vc_ok tok ?_
            repeat ((conv => whnf); first | (refine And.intro (by first | omega | exact Nat.le_of_ble_eq_true rfl | (dsimp only [inK]; omega) | (simp only [mulS_eq]; omega) | (simp only [mulS_eq, setL_length]; omega) | (simp only [setL_length]; omega) | (simp only [setL_length, List.length_map]; omega) | (exact ⟨by omega, by omega, by first | exact Nat.le_of_ble_eq_true rfl | (dsimp only; omega) | (simp only [setL_length]; omega) | (simp only [setL_length, List.length_map]; omega)⟩) | (exact ⟨by omega, by first | rfl | omega, by omega, Nat.le_of_ble_eq_true rfl, Nat.le_of_ble_eq_true rfl⟩) | (exact ⟨rfl, rfl, rfl, Nat.le_of_ble_eq_true rfl, by first | rfl | omega | exact Nat.le_of_ble_eq_true rfl | (dsimp only; omega) | (simp; done) | (simp; omega), by first | rfl | omega | exact Nat.le_of_ble_eq_true rfl | (dsimp only; omega) | (simp; done) | (simp; omega), by omega, Nat.le_of_ble_eq_true rfl⟩) | exact Eq.refl true) ?_) | refine Exists.intro _ (And.intro rfl ?_) | refine And.intro (And.intro rfl (chk_rowI _ _ _ _)) ?_ | refine br_t (by omega) ?_ | refine br_f (by omega) ?_ | refine bs_t (by omega) ?_ | refine bs_f (by omega) ?_ | refine fun (K' : K3) hK' => ?_ | (refine hK' _ _ _ ?_; clear hK' K') | refine draw_auto tok mixed (by kernel_rfl) ?_ | refine And.intro (Eq.refl oo) ?_ | refine bs_bt (Eq.refl true) ?_ | refine bs_bf (Eq.refl false) ?_ | refine br_bt (Eq.refl true) ?_ | refine br_bf (Eq.refl false) ?_ | refine CallK.m ?_ | refine Two.l ?_ | refine And.intro (And.intro rfl rfl) ?_)
            refine vc_ok tok ?_
            repeat ((conv => whnf); first | (refine And.intro (by first | omega | exact Nat.le_of_ble_eq_true rfl | (dsimp only [inK]; omega) | (simp only [mulS_eq]; omega) | (simp only [mulS_eq, setL_length]; omega) | (simp only [setL_length]; omega) | (simp only [setL_length, List.length_map]; omega) | (exact ⟨by omega, by omega, by first | exact Nat.le_of_ble_eq_true rfl | (dsimp only; omega) | (simp only [setL_length]; omega) | (simp only [setL_length, List.length_map]; omega)⟩) | (exact ⟨by omega, by first | rfl | omega, by omega, Nat.le_of_ble_eq_true rfl, Nat.le_of_ble_eq_true rfl⟩) | (exact ⟨rfl, rfl, rfl, Nat.le_of_ble_eq_true rfl, by first | rfl | omega | exact Nat.le_of_ble_eq_true rfl | (dsimp only; omega) | (simp; done) | (simp; omega), by first | rfl | omega | exact Nat.le_of_ble_eq_true rfl | (dsimp only; omega) | (simp; done) | (simp; omega), by omega, Nat.le_of_ble_eq_true rfl⟩) | exact Eq.refl true) ?_) | with_reducible refine ld (hla) ?_ | with_reducible refine ld (hlb) ?_ | refine Exists.intro _ (And.intro rfl ?_) | refine And.intro (And.intro rfl (chk_rowI _ _ _ _)) ?_ | refine br_t (by omega) ?_ | refine br_f (by omega) ?_ | refine bs_t (by omega) ?_ | refine bs_f (by omega) ?_ | refine fun (K' : K3) hK' => ?_ | (refine hK' _ _ _ ?_; clear hK' K') | refine draw_auto tok mixed (by kernel_rfl) ?_ | refine bs_t hc ?_ | refine br_t hc ?_ | refine And.intro (Eq.refl ob) ?_ | refine bs_bt (Eq.refl true) ?_ | refine bs_bf (Eq.refl false) ?_ | refine br_bt (Eq.refl true) ?_ | refine br_bf (Eq.refl false) ?_ | refine CallK.m ?_ | refine Two.l ?_ | refine And.intro (And.intro rfl rfl) ?_)
            refine Or.inr (Or.inl ?_)
            repeat ((conv => whnf); first | (refine And.intro (by first | omega | exact Nat.le_of_ble_eq_true rfl | (dsimp only [inK]; omega) | (simp only [mulS_eq]; omega) | (simp only [mulS_eq, setL_length]; omega) | (simp only [setL_length]; omega) | (simp only [setL_length, List.length_map]; omega) | (exact ⟨by omega, by omega, by first | exact Nat.le_of_ble_eq_true rfl | (dsimp only; omega) | (simp only [setL_length]; omega) | (simp only [setL_length, List.length_map]; omega)⟩) | (exact ⟨by omega, by first | rfl | omega, by omega, Nat.le_of_ble_eq_true rfl, Nat.le_of_ble_eq_true rfl⟩) | (exact ⟨rfl, rfl, rfl, Nat.le_of_ble_eq_true rfl, by first | rfl | omega | exact Nat.le_of_ble_eq_true rfl | (dsimp only; omega) | (simp; done) | (simp; omega), by first | rfl | omega | exact Nat.le_of_ble_eq_true rfl | (dsimp only; omega) | (simp; done) | (simp; omega), by omega, Nat.le_of_ble_eq_true rfl⟩) | exact Eq.refl true) ?_) | refine Exists.intro _ (And.intro rfl ?_) | refine And.intro (And.intro rfl (chk_rowI _ _ _ _)) ?_ | refine br_t (by omega) ?_ | refine br_f (by omega) ?_ | refine bs_t (by omega) ?_ | refine bs_f (by omega) ?_ | refine fun (K' : K3) hK' => ?_ | (refine hK' _ _ _ ?_; clear hK' K') | refine draw_auto tok mixed (by kernel_rfl) ?_ | refine And.intro (Eq.refl (od Code.ret)) ?_ | refine bs_bt (Eq.refl true) ?_ | refine bs_bf (Eq.refl false) ?_ | refine br_bt (Eq.refl true) ?_ | refine br_bf (Eq.refl false) ?_ | refine CallK.m ?_ | refine Two.l ?_ | refine And.intro (And.intro rfl rfl) ?_)
            refine hK' _ _ _ _ ?_
            repeat ((conv => whnf); first | (refine And.intro (by first | omega | exact Nat.le_of_ble_eq_true rfl | (dsimp only [inK]; omega) | (simp only [mulS_eq]; omega) | (simp only [mulS_eq, setL_length]; omega) | (simp only [setL_length]; omega) | (simp only [setL_length, List.length_map]; omega) | (exact ⟨by omega, by omega, by first | exact Nat.le_of_ble_eq_true rfl | (dsimp only; omega) | (simp only [setL_length]; omega) | (simp only [setL_length, List.length_map]; omega)⟩) | (exact ⟨by omega, by first | rfl | omega, by omega, Nat.le_of_ble_eq_true rfl, Nat.le_of_ble_eq_true rfl⟩) | (exact ⟨rfl, rfl, rfl, Nat.le_of_ble_eq_true rfl, by first | rfl | omega | exact Nat.le_of_ble_eq_true rfl | (dsimp only; omega) | (simp; done) | (simp; omega), by first | rfl | omega | exact Nat.le_of_ble_eq_true rfl | (dsimp only; omega) | (simp; done) | (simp; omega), by omega, Nat.le_of_ble_eq_true rfl⟩) | exact Eq.refl true) ?_) | refine Exists.intro _ (And.intro rfl ?_) | refine And.intro (And.intro rfl (chk_rowI _ _ _ _)) ?_ | refine br_t (by omega) ?_ | refine br_f (by omega) ?_ | refine bs_t (by omega) ?_ | refine bs_f (by omega) ?_ | refine fun (K' : K3) hK' => ?_ | (refine hK' _ _ _ ?_; clear hK' K') | refine draw_auto tok mixed (by kernel_rfl) ?_ | refine bs_bt (Eq.refl true) ?_ | refine bs_bf (Eq.refl false) ?_ | refine br_bt (Eq.refl true) ?_ | refine br_bf (Eq.refl false) ?_ | refine CallK.m ?_ | refine Two.l ?_ | refine And.intro (And.intro rfl rfl) ?_)
            intro ρ; rw [hres]; rfl
          · repeat ((conv => whnf); first | (refine And.intro (by first | omega | exact Nat.le_of_ble_eq_true rfl | (dsimp only [inK]; omega) | (simp only [mulS_eq]; omega) | (simp only [mulS_eq, setL_length]; omega) | (simp only [setL_length]; omega) | (simp only [setL_length, List.length_map]; omega) | (exact ⟨by omega, by omega, by first | exact Nat.le_of_ble_eq_true rfl | (dsimp only; omega) | (simp only [setL_length]; omega) | (simp only [setL_length, List.length_map]; omega)⟩) | (exact ⟨by omega, by first | rfl | omega, by omega, Nat.le_of_ble_eq_true rfl, Nat.le_of_ble_eq_true rfl⟩) | (exact ⟨rfl, rfl, rfl, Nat.le_of_ble_eq_true rfl, by first | rfl | omega | exact Nat.le_of_ble_eq_true rfl | (dsimp only; omega) | (simp; done) | (simp; omega), by first | rfl | omega | exact Nat.le_of_ble_eq_true rfl | (dsimp only; omega) | (simp; done) | (simp; omega), by omega, Nat.le_of_ble_eq_true rfl⟩) | exact Eq.refl true) ?_) | refine Exists.intro _ (And.intro rfl ?_) | refine And.intro (And.intro rfl (chk_rowI _ _ _ _)) ?_ | refine br_t (by omega) ?_ | refine br_f (by omega) ?_ | refine bs_t (by omega) ?_ | refine bs_f (by omega) ?_ | refine fun (K' : K3) hK' => ?_ | (refine hK' _ _ _ ?_; clear hK' K') | refine draw_auto tok mixed (by kernel_rfl) ?_ | refine bs_t hne ?_ | refine br_t hne ?_ | refine htz ?_ | refine bs_bt (Eq.refl true) ?_ | refine bs_bf (Eq.refl false) ?_ | refine br_bt (Eq.refl true) ?_ | refine br_bf (Eq.refl false) ?_ | refine CallK.m ?_ | refine Two.l ?_ | refine And.intro (And.intro rfl rfl) ?_)
            refine hY _ _ _ _ (Nat.le_of_ble_eq_true rfl) rfl ⟨rfl, trivial⟩ ?_
            intro cxb hcx
            refine vc_ok tok ?_
            repeat ((conv => whnf); first | (refine And.intro (by first | omega | exact Nat.le_of_ble_eq_true rfl | (dsimp only [inK]; omega) | (simp only [mulS_eq]; omega) | (simp only [mulS_eq, setL_length]; omega) | (simp only [setL_length]; omega) | (simp only [setL_length, List.length_map]; omega) | (exact ⟨by omega, by omega, by first | exact Nat.le_of_ble_eq_true rfl | (dsimp only; omega) | (simp only [setL_length]; omega) | (simp only [setL_length, List.length_map]; omega)⟩) | (exact ⟨by omega, by first | rfl | omega, by omega, Nat.le_of_ble_eq_true rfl, Nat.le_of_ble_eq_true rfl⟩) | (exact ⟨rfl, rfl, rfl, Nat.le_of_ble_eq_true rfl, by first | rfl | omega | exact Nat.le_of_ble_eq_true rfl | (dsimp only; omega) | (simp; done) | (simp; omega), by first | rfl | omega | exact Nat.le_of_ble_eq_true rfl | (dsimp only; omega) | (simp; done) | (simp; omega), by omega, Nat.le_of_ble_eq_true rfl⟩) | exact Eq.refl true) ?_) | refine Exists.intro _ (And.intro rfl ?_) | refine And.intro (And.intro rfl (chk_rowI _ _ _ _)) ?_ | refine br_t (by omega) ?_ | refine br_f (by omega) ?_ | refine bs_t (by omega) ?_ | refine bs_f (by omega) ?_ | refine fun (K' : K3) hK' => ?_ | (refine hK' _ _ _ ?_; clear hK' K') | refine draw_auto tok mixed (by kernel_rfl) ?_ | refine And.intro (Eq.refl oo) ?_ | refine bs_bt (Eq.refl true) ?_ | refine bs_bf (Eq.refl false) ?_ | refine br_bt (Eq.refl true) ?_ | refine br_bf (Eq.refl false) ?_ | refine CallK.m ?_ | refine Two.l ?_ | refine And.intro (And.intro rfl rfl) ?_)
            refine vc_ok tok ?_
            repeat ((conv => whnf); first | (refine And.intro (by first | omega | exact Nat.le_of_ble_eq_true rfl | (dsimp only [inK]; omega) | (simp only [mulS_eq]; omega) | (simp only [mulS_eq, setL_length]; omega) | (simp only [setL_length]; omega) | (simp only [setL_length, List.length_map]; omega) | (exact ⟨by omega, by omega, by first | exact Nat.le_of_ble_eq_true rfl | (dsimp only; omega) | (simp only [setL_length]; omega) | (simp only [setL_length, List.length_map]; omega)⟩) | (exact ⟨by omega, by first | rfl | omega, by omega, Nat.le_of_ble_eq_true rfl, Nat.le_of_ble_eq_true rfl⟩) | (exact ⟨rfl, rfl, rfl, Nat.le_of_ble_eq_true rfl, by first | rfl | omega | exact Nat.le_of_ble_eq_true rfl | (dsimp only; omega) | (simp; done) | (simp; omega), by first | rfl | omega | exact Nat.le_of_ble_eq_true rfl | (dsimp only; omega) | (simp; done) | (simp; omega), by omega, Nat.le_of_ble_eq_true rfl⟩) | exact Eq.refl true) ?_) | with_reducible refine ld (hla) ?_ | with_reducible refine ld (hlb) ?_ | refine Exists.intro _ (And.intro rfl ?_) | refine And.intro (And.intro rfl (chk_rowI _ _ _ _)) ?_ | refine br_t (by omega) ?_ | refine br_f (by omega) ?_ | refine bs_t (by omega) ?_ | refine bs_f (by omega) ?_ | refine fun (K' : K3) hK' => ?_ | (refine hK' _ _ _ ?_; clear hK' K') | refine draw_auto tok mixed (by kernel_rfl) ?_ | refine bs_f hc ?_ | refine br_f hc ?_ | refine And.intro (Eq.refl ob) ?_ | refine bs_bt (Eq.refl true) ?_ | refine bs_bf (Eq.refl false) ?_ | refine br_bt (Eq.refl true) ?_ | refine br_bf (Eq.refl false) ?_ | refine CallK.m ?_ | refine Two.l ?_ | refine And.intro (And.intro rfl rfl) ?_)
            refine ⟨k + 1, [], ⟨by omega, by rw [hsucc, hokk, decide_eq_false hc]; rfl⟩, by omega, ?_⟩
            refine ⟨?_, ?_, rfl, rfl, by first | exact Nat.le_of_ble_eq_true rfl | exact Nat.le_refl _ | omega⟩
            · repeat (first | exact trivial | (refine And.intro (covS_syn (by first | rfl | exact congrArg (fun z => some (V.c (C.int .u64 z))) hde) rfl (by first | exact trivial | exact Nat.le_of_ble_eq_true rfl | exact hy | exact (fun p hp => nomatch hp) | (show (_ : Nat) < _; omega))) ?_) | refine And.intro (covS_bool rfl rfl (by rfl)) ?_)
            · repeat (first | exact trivial | (refine And.intro (covE_id (Nat.le_of_ble_eq_true rfl) (by first | exact wf_ints _ _ | exact wf_bools _ _ | first | exact wf_us _ _ | exact wf_cells _ _ | (simp [C.wf]; done) | simp [C.wf]) rfl (by rfl)) ?_))
        · have f6 := f3 (by omega)
          obtain rfl : k = (bitsL s).length := by omega
          rw [f6]
          rw [hrKe] at hokk
          repeat ((conv => whnf); first | (refine And.intro (by first | omega | exact Nat.le_of_ble_eq_true rfl | (dsimp only [inK]; omega) | (simp only [mulS_eq]; omega) | (simp only [mulS_eq, setL_length]; omega) | (simp only [setL_length]; omega) | (simp only [setL_length, List.length_map]; omega) | (exact ⟨by omega, by omega, by first | exact Nat.le_of_ble_eq_true rfl | (dsimp only; omega) | (simp only [setL_length]; omega) | (simp only [setL_length, List.length_map]; omega)⟩) | (exact ⟨by omega, by first | rfl | omega, by omega, Nat.le_of_ble_eq_true rfl, Nat.le_of_ble_eq_true rfl⟩) | (exact ⟨rfl, rfl, rfl, Nat.le_of_ble_eq_true rfl, by first | rfl | omega | exact Nat.le_of_ble_eq_true rfl | (dsimp only; omega) | (simp; done) | (simp; omega), by first | rfl | omega | exact Nat.le_of_ble_eq_true rfl | (dsimp only; omega) | (simp; done) | (simp; omega), by omega, Nat.le_of_ble_eq_true rfl⟩) | exact Eq.refl true) ?_) | refine Exists.intro _ (And.intro rfl ?_) | refine And.intro (And.intro rfl (chk_rowI _ _ _ _)) ?_ | refine br_t (by omega) ?_ | refine br_f (by omega) ?_ | refine bs_t (by omega) ?_ | refine bs_f (by omega) ?_ | refine fun (K' : K3) hK' => ?_ | (refine hK' _ _ _ ?_; clear hK' K') | refine draw_auto tok mixed (by kernel_rfl) ?_ | refine Or.inl ?_ | refine And.intro (Eq.refl oo) ?_ | refine bs_bt (Eq.refl true) ?_ | refine bs_bf (Eq.refl false) ?_ | refine br_bt (Eq.refl true) ?_ | refine br_bf (Eq.refl false) ?_ | refine CallK.m ?_ | refine Two.l ?_ | refine And.intro (And.intro rfl rfl) ?_)
          refine hK' _ _ _ _ ?_
          repeat ((conv => whnf); first | (refine And.intro (by first | omega | exact Nat.le_of_ble_eq_true rfl | (dsimp only [inK]; omega) | (simp only [mulS_eq]; omega) | (simp only [mulS_eq, setL_length]; omega) | (simp only [setL_length]; omega) | (simp only [setL_length, List.length_map]; omega) | (exact ⟨by omega, by omega, by first | exact Nat.le_of_ble_eq_true rfl | (dsimp only; omega) | (simp only [setL_length]; omega) | (simp only [setL_length, List.length_map]; omega)⟩) | (exact ⟨by omega, by first | rfl | omega, by omega, Nat.le_of_ble_eq_true rfl, Nat.le_of_ble_eq_true rfl⟩) | (exact ⟨rfl, rfl, rfl, Nat.le_of_ble_eq_true rfl, by first | rfl | omega | exact Nat.le_of_ble_eq_true rfl | (dsimp only; omega) | (simp; done) | (simp; omega), by first | rfl | omega | exact Nat.le_of_ble_eq_true rfl | (dsimp only; omega) | (simp; done) | (simp; omega), by omega, Nat.le_of_ble_eq_true rfl⟩) | exact Eq.refl true) ?_) | refine Exists.intro _ (And.intro rfl ?_) | refine And.intro (And.intro rfl (chk_rowI _ _ _ _)) ?_ | refine br_t (by omega) ?_ | refine br_f (by omega) ?_ | refine bs_t (by omega) ?_ | refine bs_f (by omega) ?_ | refine fun (K' : K3) hK' => ?_ | (refine hK' _ _ _ ?_; clear hK' K') | refine draw_auto tok mixed (by kernel_rfl) ?_ | refine bs_bt (Eq.refl true) ?_ | refine bs_bf (Eq.refl false) ?_ | refine br_bt (Eq.refl true) ?_ | refine br_bf (Eq.refl false) ?_ | refine CallK.m ?_ | refine Two.l ?_ | refine And.intro (And.intro rfl rfl) ?_)
          refine ⟨a + 1, [], ⟨by omega, by rw [hsR, hok, hokk]; rfl⟩, by omega, ?_⟩
          refine ⟨?_, ?_, rfl, rfl, by first | exact Nat.le_of_ble_eq_true rfl | exact Nat.le_refl _ | omega⟩
          · repeat (first | exact trivial | (refine And.intro (covS_syn (by first | rfl | (refine congrArg some (congrArg V.i ?_); omega)) rfl (by first | exact trivial | exact Nat.le_of_ble_eq_true rfl | exact hy | exact (fun p hp => nomatch hp) | (show (_ : Nat) < _; omega))) ?_) | refine And.intro (covS_bool rfl rfl (by rfl)) ?_)
          · repeat (first | exact trivial | (refine And.intro (covE_id (Nat.le_of_ble_eq_true rfl) (by first | exact wf_ints _ _ | exact wf_bools _ _ | first | exact wf_us _ _ | exact wf_cells _ _ | (simp [C.wf]; done) | simp [C.wf]) rfl (by rfl)) ?_))
    · obtain rfl : a = n := by omega
      repeat ((conv => whnf); first | (refine And.intro (by first | omega | exact Nat.le_of_ble_eq_true rfl | (dsimp only [inK]; omega) | (simp only [mulS_eq]; omega) | (simp only [mulS_eq, setL_length]; omega) | (simp only [setL_length]; omega) | (simp only [setL_length, List.length_map]; omega) | (exact ⟨by omega, by omega, by first | exact Nat.le_of_ble_eq_true rfl | (dsimp only; omega) | (simp only [setL_length]; omega) | (simp only [setL_length, List.length_map]; omega)⟩) | (exact ⟨by omega, by first | rfl | omega, by omega, Nat.le_of_ble_eq_true rfl, Nat.le_of_ble_eq_true rfl⟩) | (exact ⟨rfl, rfl, rfl, Nat.le_of_ble_eq_true rfl, by first | rfl | omega | exact Nat.le_of_ble_eq_true rfl | (dsimp only; omega) | (simp; done) | (simp; omega), by first | rfl | omega | exact Nat.le_of_ble_eq_true rfl | (dsimp only; omega) | (simp; done) | (simp; omega), by omega, Nat.le_of_ble_eq_true rfl⟩) | exact Eq.refl true) ?_) | refine Exists.intro _ (And.intro rfl ?_) | refine And.intro (And.intro rfl (chk_rowI _ _ _ _)) ?_ | refine br_t (by omega) ?_ | refine br_f (by omega) ?_ | refine bs_t (by omega) ?_ | refine bs_f (by omega) ?_ | refine fun (K' : K3) hK' => ?_ | (refine hK' _ _ _ ?_; clear hK' K') | refine draw_auto tok mixed (by kernel_rfl) ?_ | refine bs_bt (Eq.refl true) ?_ | refine bs_bf (Eq.refl false) ?_ | refine br_bt (Eq.refl true) ?_ | refine br_bf (Eq.refl false) ?_ | refine CallK.m ?_ | refine Two.l ?_ | refine And.intro (And.intro rfl rfl) ?_)
      intro ρ; rw [hok]; rfl
end Go.Proofs.YtijnimgmpocmaaaDoor

/- Waste: the document's fillings. -/
namespace Go.Proofs.YtijnimgmpocmaaaDoor
open Go.RowKit
set_option linter.unusedVariables false
set_option linter.unusedSimpArgs false
/-- A filling is right: pair by pair. -/
def rgtPk (qs : List (Nat × Nat)) (l : List Int) (k : Nat) : Bool := (qs.take k).all fun p => !decide (l.getD p.1 0 = l.getD p.2 0)
def rgtP (qs : List (Nat × Nat)) (l : List Int) : Bool := qs.all fun p => !decide (l.getD p.1 0 = l.getD p.2 0)
theorem rgt_eq {n : Nat} {qs : List (Nat × Nat)} (hk : Knd n qs) (l : List Int) : rgtR (tabS n qs) l n = rgtP qs l := by
  rw [Bool.eq_iff_iff]
  simp only [rgtR, rgtA, rgtP, List.all_eq_true, List.mem_range, Bool.not_eq_true', decide_eq_false_iff_not]
  constructor
  · rintro h ⟨a, b⟩ hp
    have hab := hk.ok _ hp
    simp only at hab ⊢
    refine h a (by omega) b (mem_bitsL.2 ⟨by have := hk.rng; omega, ?_⟩)
    rw [tabS_cl hk, symC_lt _ hab.1, clP_iff]; exact hp
  · intro h a ha b hb
    have h1 := (mem_bitsL.1 hb).2
    rw [tabS_cl hk] at h1
    unfold symC at h1
    split at h1
    · exact h _ (clP_iff.1 h1)
    · split at h1
      · exact fun e => h _ (clP_iff.1 h1) e.symm
      · cases h1
theorem Knd.get {n : Nat} {qs : List (Nat × Nat)} (hk : Knd n qs) {k : Nat} (h : k < qs.length) : (qs.getD k (0, 0)).1 < (qs.getD k (0, 0)).2 ∧ (qs.getD k (0, 0)).2 < n := hk.ok _ (getD_mem h)
end Go.Proofs.YtijnimgmpocmaaaDoor

/- Waste: Right and Clears, and the document's. -/
namespace Go.Proofs.YtijnimgmpocmaaaDoor
open Go.RowKit
set_option linter.unusedVariables false
set_option linter.unusedSimpArgs false
/-- Numbers and booleans. -/
def SimC : C → Prop
  | .int _ _ => True
  | .bool _ => True
  | .tt => True
  | .ff => True
  | _ => False
theorem sim_b (l : List Bool) : ∀ c ∈ l.map C.bool, SimC c := fun c hc => by obtain ⟨x, _, rfl⟩ := List.mem_map.1 hc; trivial
theorem sim_c (l : List Cell) : ∀ c ∈ cellC l, SimC c := fun c hc => by obtain ⟨x, rfl⟩ := cellC_mem hc; trivial
theorem sim_wf {cs : List C} (h : ∀ c ∈ cs, SimC c) (n : Nat) : ∀ c ∈ cs, c.wf n := fun c hc => by
  have := h c hc
  cases c <;> first | trivial | exact this.elim
theorem sim_chk {cs : List C} (h : ∀ c ∈ cs, SimC c) (p : Nat → Bool) : cs.all (C.chk p) = true := List.all_eq_true.2 fun c hc => by
  have := h c hc
  cases c <;> first | rfl | exact this.elim
theorem sim_ren {cs : List C} (h : ∀ c ∈ cs, SimC c) (R : Rn) : seqO (cs.map (C.ren R)) = some cs := seqO_fix fun c hc => by
  have := h c hc
  cases c <;> first | rfl | exact this.elim
theorem chk_s {cs cs' : List C} (he : cs' = cs) (h : ∀ c ∈ cs, SimC c) (p : Nat → Bool) (lab : Nat) (kd : Kd) : (([⟨lab, kd, cs'⟩] : List E).all fun e => e.cs.all (C.chk p)) = true := by
  subst he
  simp only [List.all_cons, List.all_nil, Bool.and_true]
  exact sim_chk h p
theorem roE_s {R : Rn} {nx lab l z : Nat} {k : Kd} {L : List E} {cs : List C} (h : ∀ c ∈ cs, SimC c) (hr : renL R lab = some l) (h1 : lab < nx) (h3 : find L l = some ⟨l, k, cs⟩) (hz : z = 0 ∨ k.z = some z) : roE R nx L ⟨lab, .ro z, cs⟩ := by
  refine ⟨h1, sim_wf h _, ?_⟩
  show match renL R lab with | some l => _ | none => _
  rw [hr]
  exact ⟨k, _, h3, hz, sim_ren h _⟩
theorem covE_s {R : Rn} {nx lab l : Nat} {L : List E} {cs cs' : List C} {kd : Kd} (h : ∀ c ∈ cs, SimC c) (hr : renL R lab = some l) (h1 : lab < nx) (h3 : find L l = some ⟨l, kd, cs'⟩) (h4 : cs' = cs) : covE R nx L ⟨lab, kd, cs⟩ := by
  subst h4; exact covE_some hr h1 (sim_wf h _) h3 (sim_ren h _)
/-- A row that may be nil, and an error. -/
def optE (t z m : Nat) (cs : List C) (Er : Int) (v : V) (L' : List E) : Prop :=
  ∃ o : C, v = V.tup [A.c o, A.c (C.i Er)] ∧ ((o = C.nil ∧ m = 0 ∧ cs = []) ∨ ∃ lab, o = C.sl lab m ∧ find L' lab = some ⟨lab, .vec t z, cs⟩)
section
variable {P : Program} {n0 nx nac : Nat} {f : FuncId} {vs vs' : List V} {Lc L : List E} {R : Rn} {K : V → List E → Nat → Prop}
theorem CallK.optE {t z m : Nat} {Er : Int} {cs : List C} (hs : ∀ c ∈ cs, SimC c) (spec : Spec P f vs Lc nac (fun v L' _ => optE t z m cs Er v L')) (hok : callB P f = true)
    (hv : renVs R vs = some vs') (hvw : ∀ v ∈ vs, v.wf nac) (hL : roL R nac L Lc) (hLc : injB [] Lc = true)
    (hK : K (V.tup [A.c (.sl nx m), A.c (C.i Er)]) [⟨nx, .vec t z, cs⟩] (nx + 1)) : CallK P n0 f vs' L nx K := by
  refine CallK.mk' hok spec hv hvw hL hLc ?_
  rintro v L' nx' hw ⟨o, rfl, ⟨rfl, rfl, rfl⟩ | ⟨lab, rfl, hf⟩⟩
  · refine ⟨V.tup [A.c (.sl nx 0), A.c (C.i Er)], [⟨nx, .vec t z, []⟩], nx + 1, [(nx, none)], ⟨Nat.le_succ _, ?_, ?_, ⟨covE_nil (renL_one _ _) (Nat.lt_succ_self nx) rfl rfl, trivial⟩, rfl, ?_⟩, hK⟩
    · simp [V.ren, A.ren, C.ren, renL_one, C.i, seqO]
    · simp [V.chk, A.chk, C.chk, inLab_one, C.i]
    · simp only [List.all_cons, List.all_nil, Bool.and_true, inLab_one, Kd.isRo, Bool.not_false]
  · refine ⟨V.tup [A.c (.sl nx m), A.c (C.i Er)], [⟨nx, .vec t z, cs⟩], nx + 1, [(nx, some lab)], ⟨Nat.le_succ _, ?_, ?_, ⟨covE_some (renL_one _ _) (Nat.lt_succ_self nx) (sim_wf hs _) hf (sim_ren hs _), trivial⟩, rfl, ?_⟩, hK⟩
    · simp [V.ren, A.ren, C.ren, renL_one, C.i, seqO]
    · simp [V.chk, A.chk, C.chk, inLab_one, C.i]
    · simp only [List.all_cons, List.all_nil, Bool.and_true, inLab_one, Kd.isRo, Bool.not_false, Bool.true_and]
      exact sim_chk hs _
end
theorem isF_len {n : Nat} {l : List Int} (h : isF n l = true) : l.length = n := by
  simp only [isF, Bool.and_eq_true, decide_eq_true_iff] at h; omega
@[reducible] def kV (N : Int) (ps : List Cell) : V := V.agg [C.i N, C.sl 0 ps.length]
/-- What Right says. -/
def rightO (n : Nat) (qs : List (Nat × Nat)) (l : List Int) : V := if isF n l then V.tup [A.c (.bool (rgtP qs l)), A.c (C.i 0)] else V.tup [A.c .ff, A.c (C.i 71)]
section
variable (N : Int) (ps : List Cell) (l : List Int) (hl : ps.length ≤ 100) (hll : l.length ≤ 300) (hv : okK' N ps = false)
set_option maxRecDepth 10000 in
set_option maxHeartbeats 4000000 in
include hl hv in
set_option maxRecDepth 10000 in
set_option maxHeartbeats 4000000 in
include hl hv in
set_option maxRecDepth 10000 in
set_option maxHeartbeats 4000000 in
include hl hv in
set_option maxRecDepth 10000 in
set_option maxHeartbeats 4000000 in
include hl hv in
set_option maxRecDepth 10000 in
set_option maxHeartbeats 4000000 in
include hl hv in
end
section
variable (n : Nat) (qs : List (Nat × Nat)) (l : List Int) (hk : Knd n qs) (hll : l.length ≤ 300)
set_option maxRecDepth 10000 in
set_option maxHeartbeats 4000000 in
include hk hll in
theorem Right_spec : Spec Tryd.prog 17 [kV n (castP qs), V.c (.sl 1 l.length)] [⟨0, .ro 2, cellC (castP qs)⟩, ⟨1, .ro 0, l.map C.i⟩] 2 (Is (rightO n qs l)) := by
  have hnt := newTable_spec n qs hk
  have htl := tabS_len n qs
  have hfi := filled_spec (tabS n qs) n l hll hk.rng.2
  unfold rightO
  refine Spec.of tok Tryd.func17 rfl rfl rfl fun n0 cx => vc_ok tok ?_
  cases hf : isF n l with
  | false =>
    rw [hf] at hfi
    repeat ((conv => whnf); first | (refine And.intro (by first | omega | exact Nat.le_of_ble_eq_true rfl | (dsimp only [inK]; omega) | (simp only [mulS_eq]; omega) | (simp only [mulS_eq, setL_length]; omega) | (simp only [setL_length]; omega) | (simp only [setL_length, List.length_map]; omega) | (exact ⟨by omega, by omega, by first | exact Nat.le_of_ble_eq_true rfl | (dsimp only; omega) | (simp only [setL_length]; omega) | (simp only [setL_length, List.length_map]; omega)⟩) | (exact ⟨by omega, by first | rfl | omega, by omega, Nat.le_of_ble_eq_true rfl, Nat.le_of_ble_eq_true rfl⟩) | (exact ⟨rfl, rfl, rfl, Nat.le_of_ble_eq_true rfl, by first | rfl | omega | exact Nat.le_of_ble_eq_true rfl | (dsimp only; omega) | (simp; done) | (simp; omega), by first | rfl | omega | exact Nat.le_of_ble_eq_true rfl | (dsimp only; omega) | (simp; done) | (simp; omega), by omega, Nat.le_of_ble_eq_true rfl⟩) | exact Eq.refl true) ?_) | refine Exists.intro _ (And.intro rfl ?_) | refine And.intro (And.intro rfl (chk_rowI _ _ _ _)) ?_ | refine br_t (by omega) ?_ | refine br_f (by omega) ?_ | refine bs_t (by omega) ?_ | refine bs_f (by omega) ?_ | refine fun (K' : K3) hK' => ?_ | (refine hK' _ _ _ ?_; clear hK' K') | refine draw_auto tok mixed (by kernel_rfl) ?_ | refine CallK.rowE (R := []) (flat_u _) hnt (by kernel_rfl) rfl (by simp [V.wf, A.wf, C.wf]) ⟨roE_f (flat_c _) (l := 0) rfl (by omega) rfl (.inr rfl), trivial⟩ rfl ?_ | refine CallK.val (R := [(0, some 3)]) hfi (by kernel_rfl) rfl (by simp [V.wf, A.wf, C.wf]) ⟨roE_f (flat_u _) (l := 3) rfl (by omega) rfl (.inl rfl), roE_f (flat_i _) (l := 1) rfl (by omega) rfl (.inl rfl), trivial⟩ rfl rfl trivial ?_ | refine bs_bt (Eq.refl true) ?_ | refine bs_bf (Eq.refl false) ?_ | refine br_bt (Eq.refl true) ?_ | refine br_bf (Eq.refl false) ?_ | refine CallK.m ?_ | refine Two.l ?_ | refine And.intro (And.intro rfl rfl) ?_)
    intro ρ; rfl
  | true =>
    have hln := isF_len hf
    have hri := right_spec (tabS n qs) n l htl hk.rng.2 (tabS_lt hk.ok) hln
    rw [rgt_eq hk] at hri
    rw [hf] at hfi
    rw [← hln] at hri hfi hnt ⊢
    repeat ((conv => whnf); first | (refine And.intro (by first | omega | exact Nat.le_of_ble_eq_true rfl | (dsimp only [inK]; omega) | (simp only [mulS_eq]; omega) | (simp only [mulS_eq, setL_length]; omega) | (simp only [setL_length]; omega) | (simp only [setL_length, List.length_map]; omega) | (exact ⟨by omega, by omega, by first | exact Nat.le_of_ble_eq_true rfl | (dsimp only; omega) | (simp only [setL_length]; omega) | (simp only [setL_length, List.length_map]; omega)⟩) | (exact ⟨by omega, by first | rfl | omega, by omega, Nat.le_of_ble_eq_true rfl, Nat.le_of_ble_eq_true rfl⟩) | (exact ⟨rfl, rfl, rfl, Nat.le_of_ble_eq_true rfl, by first | rfl | omega | exact Nat.le_of_ble_eq_true rfl | (dsimp only; omega) | (simp; done) | (simp; omega), by first | rfl | omega | exact Nat.le_of_ble_eq_true rfl | (dsimp only; omega) | (simp; done) | (simp; omega), by omega, Nat.le_of_ble_eq_true rfl⟩) | exact Eq.refl true) ?_) | refine Exists.intro _ (And.intro rfl ?_) | refine And.intro (And.intro rfl (chk_rowI _ _ _ _)) ?_ | refine br_t (by omega) ?_ | refine br_f (by omega) ?_ | refine bs_t (by omega) ?_ | refine bs_f (by omega) ?_ | refine fun (K' : K3) hK' => ?_ | (refine hK' _ _ _ ?_; clear hK' K') | refine draw_auto tok mixed (by kernel_rfl) ?_ | refine CallK.rowE (R := []) (flat_u _) hnt (by kernel_rfl) rfl (by simp [V.wf, A.wf, C.wf]) ⟨roE_f (flat_c _) (l := 0) rfl (by omega) rfl (.inr rfl), trivial⟩ rfl ?_ | refine CallK.val (R := [(0, some 3)]) hfi (by kernel_rfl) rfl (by simp [V.wf, A.wf, C.wf]) ⟨roE_f (flat_u _) (l := 3) rfl (by omega) rfl (.inl rfl), roE_f (flat_i _) (l := 1) rfl (by omega) rfl (.inl rfl), trivial⟩ rfl rfl trivial ?_ | refine CallK.val (R := [(0, some 3)]) hri (by kernel_rfl) rfl (by simp [V.wf, A.wf, C.wf]) ⟨roE_f (flat_u _) (l := 3) rfl (by omega) rfl (.inl rfl), roE_f (flat_i _) (l := 1) rfl (by omega) rfl (.inl rfl), trivial⟩ rfl rfl trivial ?_ | refine bs_bt (Eq.refl true) ?_ | refine bs_bf (Eq.refl false) ?_ | refine br_bt (Eq.refl true) ?_ | refine br_bf (Eq.refl false) ?_ | refine CallK.m ?_ | refine Two.l ?_ | refine And.intro (And.intro rfl rfl) ?_)
    intro ρ; rfl
end
end Go.Proofs.YtijnimgmpocmaaaDoor

