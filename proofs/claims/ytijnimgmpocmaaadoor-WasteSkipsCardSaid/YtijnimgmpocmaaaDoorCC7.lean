/- Texts of the proof, part 7: N20, N21, L0, L3, N9, L10, O3, L12, D1. -/
import Derived.Test.YtijnimgmpocmaaaDoorCC6
import Derived.WalkKit
import Derived.Below
import Derived.Lib.TrailingZeros
import Derived.Laws.OwnMore
import Derived.Maps.AppendAt
import Derived.Laws.IdiomCopy
import Derived.Laws.CopyRow
import Derived.IntWalk
import Derived.StillTail
import Derived.Scope
import Derived.ChangeKeysEq
import Derived.Laws.Small
import Derived.OrdersIn
import Derived.TacticsIn
import Derived.OwnWalkIn
import Derived.RangeFuncNested
import Derived.RangeFuncLeaves
import Derived.RangeFuncRecord
import Derived.Maps.Keyed
import Derived.Maps.RangeRun
import Derived.DeepKeys4
import Derived.Test.YtijnimgmpocmaaaDoorRows
import Derived.KernelRfl
import Derived.Shelf.Spec.TrailingZeros
import Derived.PlainAid
import Derived.StillTailTactics
import Derived.WalkSpells
import Derived.OwnWalk
import Derived.Deep.RegionLaw
import Derived.Lib.SliceRun
import Derived.Deep.OwnRows
import Derived.LoopTactic
import Derived.Lib.Hide
import Derived.ProofKit
import Derived.OpenShut
import Derived.Lib.SmallJoins
import Derived.Deep.Slices
import Derived.Deep.RegionHeld3
import Derived.Shelf.Sort.Plain
import Derived.Shelf.Slices.In.SortNone
import Derived.Shelf.Slices.CompactI
import Derived.LaidMore
import Derived.Stop.Joined
/- Waste: the document's IsOrder, walked. -/
namespace Go.Proofs.YtijnimgmpocmaaaDoor
open Go.RowKit
set_option linter.unusedVariables false
set_option linter.unusedSimpArgs false
theorem ordB_no1 {n : Nat} {zs : List Int} {i : Nat} (hi : i < zs.length) (h : ¬ (0 ≤ zs.getD i 0 ∧ zs.getD i 0 < n)) : ordB n zs = false := by
  rw [Bool.eq_false_iff]
  intro hb
  exact h ((ordB_iff.1 hb).2.1 _ (by rw [List.getD_eq_getElem?_getD, List.getElem?_eq_getElem hi]; exact List.getElem_mem _))
theorem ordB_no2 {n : Nat} {zs : List Int} (h : n < zs.length) : ordB n zs = false := by
  rw [Bool.eq_false_iff]
  intro hb
  have := (ordB_iff.1 hb).1; omega
theorem ordB_no3 {n : Nat} {zs : List Int} {i j : Nat} (hi : i < zs.length) (hj : j < i) (h : zs.getD i 0 = zs.getD j 0) : ordB n zs = false := by
  rw [Bool.eq_false_iff]
  intro hb
  have h3 := (ordB_iff.1 hb).2.2
  rw [List.nodup_iff_pairwise_ne, List.pairwise_iff_getElem] at h3
  have := h3 j i (by omega) hi hj
  simp only [List.getD_eq_getElem?_getD, List.getElem?_eq_getElem hi, List.getElem?_eq_getElem (show j < zs.length by omega), Option.getD_some] at h
  exact this h.symm
theorem ordB_yes {n : Nat} {zs : List Int} (h1 : ∀ i, i < zs.length → 0 ≤ zs.getD i 0 ∧ zs.getD i 0 < n) (h2 : ∀ i, i < zs.length → ∀ j, j < i → zs.getD i 0 ≠ zs.getD j 0) : ordB n zs = decide (zs.length = n) := by
  rw [Bool.eq_iff_iff, ordB_iff, decide_eq_true_iff]
  have hg : ∀ i (hi : i < zs.length), zs.getD i 0 = zs[i] := fun i hi => by simp [List.getD_eq_getElem?_getD, hi]
  constructor
  · exact fun h => h.1
  · refine fun h => ⟨h, fun z hz => ?_, ?_⟩
    · obtain ⟨i, hi, rfl⟩ := List.mem_iff_getElem.1 hz
      have := h1 i hi; rwa [hg i hi] at this
    · rw [List.nodup_iff_pairwise_ne, List.pairwise_iff_getElem]
      intro i j hi hj hij e
      have := h2 j hj i hij
      rw [hg i hi, hg j hj] at this
      exact this e.symm
set_option maxRecDepth 10000 in
set_option maxHeartbeats 8000000 in
theorem isOrder_spec (n : Nat) (m : Nat) (cs : List Cell) (zs : List Int) (hz : zs.length ≤ 1000) : Spec Tryd.prog 54 [V.agg [C.i n, C.sl 0 m], V.c (.sl 1 zs.length)] [⟨0, .ro 2, cellC cs⟩, ⟨1, .ro 1, zs.map C.i⟩] 2 (Is (V.c (.bool (ordB n zs)))) := by
  have hlz : ∀ i, i < zs.length → (zs.map C.i)[mulS ((i : Nat) : Int).toNat 1]? = some (C.i (zs.getD i 0)) := fun i hi => intLz rfl hi
  have hzm : (zs.map C.i).length = zs.length := List.length_map ..
  refine Spec.of tok Tryd.func54 rfl rfl rfl fun n0 cx => vc_ok tok ?_
  repeat ((conv => whnf); first | (refine And.intro (by first | omega | exact Nat.le_of_ble_eq_true rfl | (dsimp only [inK]; omega) | (simp only [mulS_eq]; omega) | (simp only [mulS_eq, setL_length]; omega) | (simp only [setL_length]; omega) | (simp only [setL_length, List.length_map]; omega) | (exact ⟨by omega, by omega, by first | exact Nat.le_of_ble_eq_true rfl | (dsimp only; omega) | (simp only [setL_length]; omega) | (simp only [setL_length, List.length_map]; omega)⟩) | (exact ⟨by omega, by first | rfl | omega, by omega, Nat.le_of_ble_eq_true rfl, Nat.le_of_ble_eq_true rfl⟩) | (exact ⟨rfl, rfl, rfl, Nat.le_of_ble_eq_true rfl, by first | rfl | omega | exact Nat.le_of_ble_eq_true rfl | (dsimp only; omega) | (simp; done) | (simp; omega), by first | rfl | omega | exact Nat.le_of_ble_eq_true rfl | (dsimp only; omega) | (simp; done) | (simp; omega), by omega, Nat.le_of_ble_eq_true rfl⟩) | exact Eq.refl true) ?_) | refine Exists.intro _ (And.intro rfl ?_) | refine And.intro (And.intro rfl (chk_rowI _ _ _ _)) ?_ | refine br_t (by omega) ?_ | refine br_f (by omega) ?_ | refine bs_t (by omega) ?_ | refine bs_f (by omega) ?_ | refine fun (K' : K3) hK' => ?_ | (refine hK' _ _ _ ?_; clear hK' K') | refine draw_auto tok mixed (by kernel_rfl) ?_ | refine bs_bt (Eq.refl true) ?_ | refine bs_bf (Eq.refl false) ?_ | refine br_bt (Eq.refl true) ?_ | refine br_bf (Eq.refl false) ?_ | refine CallK.m ?_ | refine Two.l ?_ | refine And.intro (And.intro rfl rfl) ?_)
  refine Tri.loop (γ := Nat) (fun i => i ≤ zs.length ∧ (∀ r, r < i → 0 ≤ zs.getD r 0 ∧ zs.getD r 0 < n) ∧ ∀ r, r < i → ∀ j, j < r → zs.getD r 0 ≠ zs.getD j 0) (fun i => [(1, V.c (.sl 1 zs.length)), (2, V.c (.ptr 2 0)), (9, V.c (.sl 1 zs.length)), (10, V.i zs.length), (11, V.i (i : Nat))])
    (fun i => [⟨2, .own 24, [C.i n, .sl 0 m]⟩, ⟨0, .ro 2, cellC cs⟩, ⟨1, .ro 1, zs.map C.i⟩]) 3 (fun i => zs.length - i) 0 (R0 := []) ?_ ?_ ?_
  · exact ⟨Nat.zero_le _, fun r hr => by omega, fun r hr => by omega⟩
  · skip
    refine ⟨?_, ?_, rfl, rfl, by first | exact Nat.le_of_ble_eq_true rfl | exact Nat.le_refl _ | omega⟩
    · repeat (first | exact trivial | (refine And.intro (covS_syn (by rfl) rfl (by first | exact trivial | exact Nat.le_of_ble_eq_true rfl | exact hy | (first | ((show ∀ p ∈ (_ : List (Nat × Nat)), p.1 < _); decide) | exact (fun p hp => nomatch hp)) | (show (_ : Nat) < _; omega))) ?_) | refine And.intro (covS_bool rfl rfl (by rfl)) ?_)
    · repeat (first | exact trivial | (refine And.intro (covE_id (Nat.le_of_ble_eq_true rfl) (by first | exact wf_ints _ _ | exact wf_bools _ _ | first | exact wf_us _ _ | exact wf_cells _ _ | exact wf_ints _ _ | (simp [C.wf]; done) | simp [C.wf]) rfl (by rfl)) ?_))
  · rintro i ⟨hi, hr1, hr2⟩
    refine vc_ok tok ?_
    by_cases hil : i < zs.length
    · have hli := hlz i hil
      have hn1 := ordB_no1 (n := n) hil
      have hn3 := fun j => ordB_no3 (n := n) (j := j) hil
      obtain ⟨x, hx⟩ : ∃ x, x = zs.getD i 0 := ⟨_, rfl⟩
      rw [← hx] at hli hn1 hn3
      by_cases h1 : x < 0
      · rw [hn1 (by omega)]
        repeat ((conv => whnf); first | (refine And.intro (by first | omega | exact Nat.le_of_ble_eq_true rfl | (dsimp only [inK]; omega) | (simp only [mulS_eq]; omega) | (simp only [mulS_eq, setL_length]; omega) | (simp only [setL_length]; omega) | (simp only [setL_length, List.length_map]; omega) | (exact ⟨by omega, by omega, by first | exact Nat.le_of_ble_eq_true rfl | (dsimp only; omega) | (simp only [setL_length]; omega) | (simp only [setL_length, List.length_map]; omega)⟩) | (exact ⟨by omega, by first | rfl | omega, by omega, Nat.le_of_ble_eq_true rfl, Nat.le_of_ble_eq_true rfl⟩) | (exact ⟨rfl, rfl, rfl, Nat.le_of_ble_eq_true rfl, by first | rfl | omega | exact Nat.le_of_ble_eq_true rfl | (dsimp only; omega) | (simp; done) | (simp; omega), by first | rfl | omega | exact Nat.le_of_ble_eq_true rfl | (dsimp only; omega) | (simp; done) | (simp; omega), by omega, Nat.le_of_ble_eq_true rfl⟩) | exact Eq.refl true) ?_) | with_reducible refine ld (hli) ?_ | refine Exists.intro _ (And.intro rfl ?_) | refine And.intro (And.intro rfl (chk_rowI _ _ _ _)) ?_ | refine br_t (by omega) ?_ | refine br_f (by omega) ?_ | refine bs_t (by omega) ?_ | refine bs_f (by omega) ?_ | refine fun (K' : K3) hK' => ?_ | (refine hK' _ _ _ ?_; clear hK' K') | refine draw_auto tok mixed (by kernel_rfl) ?_ | refine bs_t h1 ?_ | refine br_t h1 ?_ | refine bs_bt (Eq.refl true) ?_ | refine bs_bf (Eq.refl false) ?_ | refine br_bt (Eq.refl true) ?_ | refine br_bf (Eq.refl false) ?_ | refine CallK.m ?_ | refine Two.l ?_ | refine And.intro (And.intro rfl rfl) ?_)
        intro ρ; rfl
      · by_cases h2 : x ≥ (n : Nat)
        · rw [hn1 (by omega)]
          repeat ((conv => whnf); first | (refine And.intro (by first | omega | exact Nat.le_of_ble_eq_true rfl | (dsimp only [inK]; omega) | (simp only [mulS_eq]; omega) | (simp only [mulS_eq, setL_length]; omega) | (simp only [setL_length]; omega) | (simp only [setL_length, List.length_map]; omega) | (exact ⟨by omega, by omega, by first | exact Nat.le_of_ble_eq_true rfl | (dsimp only; omega) | (simp only [setL_length]; omega) | (simp only [setL_length, List.length_map]; omega)⟩) | (exact ⟨by omega, by first | rfl | omega, by omega, Nat.le_of_ble_eq_true rfl, Nat.le_of_ble_eq_true rfl⟩) | (exact ⟨rfl, rfl, rfl, Nat.le_of_ble_eq_true rfl, by first | rfl | omega | exact Nat.le_of_ble_eq_true rfl | (dsimp only; omega) | (simp; done) | (simp; omega), by first | rfl | omega | exact Nat.le_of_ble_eq_true rfl | (dsimp only; omega) | (simp; done) | (simp; omega), by omega, Nat.le_of_ble_eq_true rfl⟩) | exact Eq.refl true) ?_) | with_reducible refine ld (hli) ?_ | refine Exists.intro _ (And.intro rfl ?_) | refine And.intro (And.intro rfl (chk_rowI _ _ _ _)) ?_ | refine br_t (by omega) ?_ | refine br_f (by omega) ?_ | refine bs_t (by omega) ?_ | refine bs_f (by omega) ?_ | refine fun (K' : K3) hK' => ?_ | (refine hK' _ _ _ ?_; clear hK' K') | refine draw_auto tok mixed (by kernel_rfl) ?_ | refine bs_f h1 ?_ | refine br_f h1 ?_ | refine bs_t h2 ?_ | refine br_t h2 ?_ | refine bs_bt (Eq.refl true) ?_ | refine bs_bf (Eq.refl false) ?_ | refine br_bt (Eq.refl true) ?_ | refine br_bf (Eq.refl false) ?_ | refine CallK.m ?_ | refine Two.l ?_ | refine And.intro (And.intro rfl rfl) ?_)
          intro ρ; rfl
        · by_cases h3 : ((i : Nat) : Int) ≥ (n : Nat)
          · rw [ordB_no2 (by omega)]
            repeat ((conv => whnf); first | (refine And.intro (by first | omega | exact Nat.le_of_ble_eq_true rfl | (dsimp only [inK]; omega) | (simp only [mulS_eq]; omega) | (simp only [mulS_eq, setL_length]; omega) | (simp only [setL_length]; omega) | (simp only [setL_length, List.length_map]; omega) | (exact ⟨by omega, by omega, by first | exact Nat.le_of_ble_eq_true rfl | (dsimp only; omega) | (simp only [setL_length]; omega) | (simp only [setL_length, List.length_map]; omega)⟩) | (exact ⟨by omega, by first | rfl | omega, by omega, Nat.le_of_ble_eq_true rfl, Nat.le_of_ble_eq_true rfl⟩) | (exact ⟨rfl, rfl, rfl, Nat.le_of_ble_eq_true rfl, by first | rfl | omega | exact Nat.le_of_ble_eq_true rfl | (dsimp only; omega) | (simp; done) | (simp; omega), by first | rfl | omega | exact Nat.le_of_ble_eq_true rfl | (dsimp only; omega) | (simp; done) | (simp; omega), by omega, Nat.le_of_ble_eq_true rfl⟩) | exact Eq.refl true) ?_) | with_reducible refine ld (hli) ?_ | refine Exists.intro _ (And.intro rfl ?_) | refine And.intro (And.intro rfl (chk_rowI _ _ _ _)) ?_ | refine br_t (by omega) ?_ | refine br_f (by omega) ?_ | refine bs_t (by omega) ?_ | refine bs_f (by omega) ?_ | refine fun (K' : K3) hK' => ?_ | (refine hK' _ _ _ ?_; clear hK' K') | refine draw_auto tok mixed (by kernel_rfl) ?_ | refine bs_f h1 ?_ | refine br_f h1 ?_ | refine bs_f h2 ?_ | refine br_f h2 ?_ | refine bs_t h3 ?_ | refine br_t h3 ?_ | refine bs_bt (Eq.refl true) ?_ | refine bs_bf (Eq.refl false) ?_ | refine br_bt (Eq.refl true) ?_ | refine br_bf (Eq.refl false) ?_ | refine CallK.m ?_ | refine Two.l ?_ | refine And.intro (And.intro rfl rfl) ?_)
            intro ρ; rfl
          · repeat ((conv => whnf); first | (refine And.intro (by first | omega | exact Nat.le_of_ble_eq_true rfl | (dsimp only [inK]; omega) | (simp only [mulS_eq]; omega) | (simp only [mulS_eq, setL_length]; omega) | (simp only [setL_length]; omega) | (simp only [setL_length, List.length_map]; omega) | (exact ⟨by omega, by omega, by first | exact Nat.le_of_ble_eq_true rfl | (dsimp only; omega) | (simp only [setL_length]; omega) | (simp only [setL_length, List.length_map]; omega)⟩) | (exact ⟨by omega, by first | rfl | omega, by omega, Nat.le_of_ble_eq_true rfl, Nat.le_of_ble_eq_true rfl⟩) | (exact ⟨rfl, rfl, rfl, Nat.le_of_ble_eq_true rfl, by first | rfl | omega | exact Nat.le_of_ble_eq_true rfl | (dsimp only; omega) | (simp; done) | (simp; omega), by first | rfl | omega | exact Nat.le_of_ble_eq_true rfl | (dsimp only; omega) | (simp; done) | (simp; omega), by omega, Nat.le_of_ble_eq_true rfl⟩) | exact Eq.refl true) ?_) | with_reducible refine ld (hli) ?_ | refine Exists.intro _ (And.intro rfl ?_) | refine And.intro (And.intro rfl (chk_rowI _ _ _ _)) ?_ | refine br_t (by omega) ?_ | refine br_f (by omega) ?_ | refine bs_t (by omega) ?_ | refine bs_f (by omega) ?_ | refine fun (K' : K3) hK' => ?_ | (refine hK' _ _ _ ?_; clear hK' K') | refine draw_auto tok mixed (by kernel_rfl) ?_ | refine bs_f h1 ?_ | refine br_f h1 ?_ | refine bs_f h2 ?_ | refine br_f h2 ?_ | refine bs_f h3 ?_ | refine br_f h3 ?_ | refine bs_bt (Eq.refl true) ?_ | refine bs_bf (Eq.refl false) ?_ | refine br_bt (Eq.refl true) ?_ | refine br_bf (Eq.refl false) ?_ | refine CallK.m ?_ | refine Two.l ?_ | refine And.intro (And.intro rfl rfl) ?_)
            refine Tri.loop (γ := Nat) (fun j => j ≤ i ∧ ∀ r, r < j → x ≠ zs.getD r 0) (fun j => [(1, V.c (.sl 1 zs.length)), (2, V.c (.ptr 2 0)), (6, V.i x), (9, V.c (.sl 1 zs.length)), (10, V.i zs.length), (11, V.i (i : Nat)), (32, V.c (.sl 1 i)), (33, V.i (i : Nat)), (34, V.i (j : Nat))])
              (fun j => [⟨2, .own 24, [C.i n, .sl 0 m]⟩, ⟨0, .ro 2, cellC cs⟩, ⟨1, .ro 1, zs.map C.i⟩]) 3 (fun j => i - j) 0 (R0 := []) ?_ ?_ ?_
            · exact ⟨Nat.zero_le _, fun r hr => by omega⟩
            · skip
              refine ⟨?_, ?_, rfl, rfl, by first | exact Nat.le_of_ble_eq_true rfl | exact Nat.le_refl _ | omega⟩
              · repeat (first | exact trivial | (refine And.intro (covS_syn (by first | rfl | (refine congrArg some (congrArg V.i ?_); rfl)) rfl (by first | exact trivial | exact Nat.le_of_ble_eq_true rfl | exact hy | (first | ((show ∀ p ∈ (_ : List (Nat × Nat)), p.1 < _); decide) | exact (fun p hp => nomatch hp)) | (show (_ : Nat) < _; omega))) ?_) | refine And.intro (covS_bool rfl rfl (by rfl)) ?_)
              · repeat (first | exact trivial | (refine And.intro (covE_id (Nat.le_of_ble_eq_true rfl) (by first | exact wf_ints _ _ | exact wf_bools _ _ | first | exact wf_us _ _ | exact wf_cells _ _ | exact wf_ints _ _ | (simp [C.wf]; done) | simp [C.wf]) rfl (by rfl)) ?_))
            · rintro j ⟨hj, hjr⟩
              refine vc_ok tok ?_
              by_cases hjl : j < i
              · have hlj := hlz j (by omega)
                have hn3j := hn3 j hjl
                obtain ⟨y, hy⟩ : ∃ y, y = zs.getD j 0 := ⟨_, rfl⟩
                rw [← hy] at hlj hn3j
                by_cases h4 : x = y
                · rw [hn3j h4]
                  repeat ((conv => whnf); first | (refine And.intro (by first | omega | exact Nat.le_of_ble_eq_true rfl | (dsimp only [inK]; omega) | (simp only [mulS_eq]; omega) | (simp only [mulS_eq, setL_length]; omega) | (simp only [setL_length]; omega) | (simp only [setL_length, List.length_map]; omega) | (exact ⟨by omega, by omega, by first | exact Nat.le_of_ble_eq_true rfl | (dsimp only; omega) | (simp only [setL_length]; omega) | (simp only [setL_length, List.length_map]; omega)⟩) | (exact ⟨by omega, by first | rfl | omega, by omega, Nat.le_of_ble_eq_true rfl, Nat.le_of_ble_eq_true rfl⟩) | (exact ⟨rfl, rfl, rfl, Nat.le_of_ble_eq_true rfl, by first | rfl | omega | exact Nat.le_of_ble_eq_true rfl | (dsimp only; omega) | (simp; done) | (simp; omega), by first | rfl | omega | exact Nat.le_of_ble_eq_true rfl | (dsimp only; omega) | (simp; done) | (simp; omega), by omega, Nat.le_of_ble_eq_true rfl⟩) | exact Eq.refl true) ?_) | with_reducible refine ld (hlj) ?_ | refine Exists.intro _ (And.intro rfl ?_) | refine And.intro (And.intro rfl (chk_rowI _ _ _ _)) ?_ | refine br_t (by omega) ?_ | refine br_f (by omega) ?_ | refine bs_t (by omega) ?_ | refine bs_f (by omega) ?_ | refine fun (K' : K3) hK' => ?_ | (refine hK' _ _ _ ?_; clear hK' K') | refine draw_auto tok mixed (by kernel_rfl) ?_ | refine bs_t h4 ?_ | refine br_t h4 ?_ | refine bs_bt (Eq.refl true) ?_ | refine bs_bf (Eq.refl false) ?_ | refine br_bt (Eq.refl true) ?_ | refine br_bf (Eq.refl false) ?_ | refine CallK.m ?_ | refine Two.l ?_ | refine And.intro (And.intro rfl rfl) ?_)
                  intro ρ; rfl
                · repeat ((conv => whnf); first | (refine And.intro (by first | omega | exact Nat.le_of_ble_eq_true rfl | (dsimp only [inK]; omega) | (simp only [mulS_eq]; omega) | (simp only [mulS_eq, setL_length]; omega) | (simp only [setL_length]; omega) | (simp only [setL_length, List.length_map]; omega) | (exact ⟨by omega, by omega, by first | exact Nat.le_of_ble_eq_true rfl | (dsimp only; omega) | (simp only [setL_length]; omega) | (simp only [setL_length, List.length_map]; omega)⟩) | (exact ⟨by omega, by first | rfl | omega, by omega, Nat.le_of_ble_eq_true rfl, Nat.le_of_ble_eq_true rfl⟩) | (exact ⟨rfl, rfl, rfl, Nat.le_of_ble_eq_true rfl, by first | rfl | omega | exact Nat.le_of_ble_eq_true rfl | (dsimp only; omega) | (simp; done) | (simp; omega), by first | rfl | omega | exact Nat.le_of_ble_eq_true rfl | (dsimp only; omega) | (simp; done) | (simp; omega), by omega, Nat.le_of_ble_eq_true rfl⟩) | exact Eq.refl true) ?_) | with_reducible refine ld (hlj) ?_ | refine Exists.intro _ (And.intro rfl ?_) | refine And.intro (And.intro rfl (chk_rowI _ _ _ _)) ?_ | refine br_t (by omega) ?_ | refine br_f (by omega) ?_ | refine bs_t (by omega) ?_ | refine bs_f (by omega) ?_ | refine fun (K' : K3) hK' => ?_ | (refine hK' _ _ _ ?_; clear hK' K') | refine draw_auto tok mixed (by kernel_rfl) ?_ | refine bs_f h4 ?_ | refine br_f h4 ?_ | refine bs_bt (Eq.refl true) ?_ | refine bs_bf (Eq.refl false) ?_ | refine br_bt (Eq.refl true) ?_ | refine br_bf (Eq.refl false) ?_ | refine CallK.m ?_ | refine Two.l ?_ | refine And.intro (And.intro rfl rfl) ?_)
                  refine ⟨j + 1, [], ⟨by omega, fun r hr => ?_⟩, by omega, ?_⟩
                  · by_cases h : r = j
                    · rw [h, ← hy]; exact h4
                    · exact hjr r (by omega)
                  refine ⟨?_, ?_, rfl, rfl, by first | exact Nat.le_of_ble_eq_true rfl | exact Nat.le_refl _ | omega⟩
                  · repeat (first | exact trivial | (refine And.intro (covS_syn (by first | rfl | (refine congrArg some (congrArg V.i ?_); omega)) rfl (by first | exact trivial | exact Nat.le_of_ble_eq_true rfl | exact hy | (first | ((show ∀ p ∈ (_ : List (Nat × Nat)), p.1 < _); decide) | exact (fun p hp => nomatch hp)) | (show (_ : Nat) < _; omega))) ?_) | refine And.intro (covS_bool rfl rfl (by rfl)) ?_)
                  · repeat (first | exact trivial | (refine And.intro (covE_id (Nat.le_of_ble_eq_true rfl) (by first | exact wf_ints _ _ | exact wf_bools _ _ | first | exact wf_us _ _ | exact wf_cells _ _ | exact wf_ints _ _ | (simp [C.wf]; done) | simp [C.wf]) rfl (by rfl)) ?_))
              · obtain rfl : j = i := by omega
                repeat ((conv => whnf); first | (refine And.intro (by first | omega | exact Nat.le_of_ble_eq_true rfl | (dsimp only [inK]; omega) | (simp only [mulS_eq]; omega) | (simp only [mulS_eq, setL_length]; omega) | (simp only [setL_length]; omega) | (simp only [setL_length, List.length_map]; omega) | (exact ⟨by omega, by omega, by first | exact Nat.le_of_ble_eq_true rfl | (dsimp only; omega) | (simp only [setL_length]; omega) | (simp only [setL_length, List.length_map]; omega)⟩) | (exact ⟨by omega, by first | rfl | omega, by omega, Nat.le_of_ble_eq_true rfl, Nat.le_of_ble_eq_true rfl⟩) | (exact ⟨rfl, rfl, rfl, Nat.le_of_ble_eq_true rfl, by first | rfl | omega | exact Nat.le_of_ble_eq_true rfl | (dsimp only; omega) | (simp; done) | (simp; omega), by first | rfl | omega | exact Nat.le_of_ble_eq_true rfl | (dsimp only; omega) | (simp; done) | (simp; omega), by omega, Nat.le_of_ble_eq_true rfl⟩) | exact Eq.refl true) ?_) | refine Exists.intro _ (And.intro rfl ?_) | refine And.intro (And.intro rfl (chk_rowI _ _ _ _)) ?_ | refine br_t (by omega) ?_ | refine br_f (by omega) ?_ | refine bs_t (by omega) ?_ | refine bs_f (by omega) ?_ | refine fun (K' : K3) hK' => ?_ | (refine hK' _ _ _ ?_; clear hK' K') | refine draw_auto tok mixed (by kernel_rfl) ?_ | refine bs_bt (Eq.refl true) ?_ | refine bs_bf (Eq.refl false) ?_ | refine br_bt (Eq.refl true) ?_ | refine br_bf (Eq.refl false) ?_ | refine CallK.m ?_ | refine Two.l ?_ | refine And.intro (And.intro rfl rfl) ?_)
                refine ⟨j + 1, [], ⟨by omega, fun r hr => ?_, fun r hr m hm => ?_⟩, by omega, ?_⟩
                · by_cases h : r = j
                  · rw [h, ← hx]; omega
                  · exact hr1 r (by omega)
                · by_cases h : r = j
                  · rw [h, ← hx]; exact hjr m (by omega)
                  · exact hr2 r (by omega) m hm
                refine ⟨?_, ?_, rfl, rfl, by first | exact Nat.le_of_ble_eq_true rfl | exact Nat.le_refl _ | omega⟩
                · repeat (first | exact trivial | (refine And.intro (covS_syn (by first | rfl | (refine congrArg some (congrArg V.i ?_); omega)) rfl (by first | exact trivial | exact Nat.le_of_ble_eq_true rfl | exact hy | (first | ((show ∀ p ∈ (_ : List (Nat × Nat)), p.1 < _); decide) | exact (fun p hp => nomatch hp)) | (show (_ : Nat) < _; omega))) ?_) | refine And.intro (covS_bool rfl rfl (by rfl)) ?_)
                · repeat (first | exact trivial | (refine And.intro (covE_id (Nat.le_of_ble_eq_true rfl) (by first | exact wf_ints _ _ | exact wf_bools _ _ | first | exact wf_us _ _ | exact wf_cells _ _ | exact wf_ints _ _ | (simp [C.wf]; done) | simp [C.wf]) rfl (by rfl)) ?_))
    · obtain rfl : i = zs.length := by omega
      have hyes := ordB_yes hr1 hr2
      repeat ((conv => whnf); first | (refine And.intro (by first | omega | exact Nat.le_of_ble_eq_true rfl | (dsimp only [inK]; omega) | (simp only [mulS_eq]; omega) | (simp only [mulS_eq, setL_length]; omega) | (simp only [setL_length]; omega) | (simp only [setL_length, List.length_map]; omega) | (exact ⟨by omega, by omega, by first | exact Nat.le_of_ble_eq_true rfl | (dsimp only; omega) | (simp only [setL_length]; omega) | (simp only [setL_length, List.length_map]; omega)⟩) | (exact ⟨by omega, by first | rfl | omega, by omega, Nat.le_of_ble_eq_true rfl, Nat.le_of_ble_eq_true rfl⟩) | (exact ⟨rfl, rfl, rfl, Nat.le_of_ble_eq_true rfl, by first | rfl | omega | exact Nat.le_of_ble_eq_true rfl | (dsimp only; omega) | (simp; done) | (simp; omega), by first | rfl | omega | exact Nat.le_of_ble_eq_true rfl | (dsimp only; omega) | (simp; done) | (simp; omega), by omega, Nat.le_of_ble_eq_true rfl⟩) | exact Eq.refl true) ?_) | refine Exists.intro _ (And.intro rfl ?_) | refine And.intro (And.intro rfl (chk_rowI _ _ _ _)) ?_ | refine br_t (by omega) ?_ | refine br_f (by omega) ?_ | refine bs_t (by omega) ?_ | refine bs_f (by omega) ?_ | refine fun (K' : K3) hK' => ?_ | (refine hK' _ _ _ ?_; clear hK' K') | refine draw_auto tok mixed (by kernel_rfl) ?_ | refine bs_bt (Eq.refl true) ?_ | refine bs_bf (Eq.refl false) ?_ | refine br_bt (Eq.refl true) ?_ | refine br_bf (Eq.refl false) ?_ | refine CallK.m ?_ | refine Two.l ?_ | refine And.intro (And.intro rfl rfl) ?_)
      intro ρ
      rw [hyes]
      exact congrArg Value.bool (decide_eq_decide.2 (by omega))
end Go.Proofs.YtijnimgmpocmaaaDoor

/- Waste: the document's Line, walked. -/
namespace Go.Proofs.YtijnimgmpocmaaaDoor
open Go.RowKit
set_option linter.unusedVariables false
set_option linter.unusedSimpArgs false
set_option maxRecDepth 10000 in
theorem rLine_err (N : Int) (ps : List Cell) (zs : List Int) (hl : ps.length ≤ 100) (he : okK' N ps = false) : Spec Tryd.prog 53 [V.agg [C.i N, C.sl 0 ps.length], V.c (.sl 1 zs.length)] [⟨0, .ro 2, cellC ps⟩, ⟨1, .ro 1, zs.map C.i⟩] 2 (Is (V.tup [A.c .nil, A.c (C.i 70)])) := by
  have hva := rvalid_spec N ps hl
  rw [he] at hva
  refine Spec.of tok Tryd.func53 rfl rfl rfl fun n0 cx => vc_ok tok ?_
  repeat ((conv => whnf); first | (refine And.intro (by first | omega | exact Nat.le_of_ble_eq_true rfl | (dsimp only [inK]; omega) | (simp only [mulS_eq]; omega) | (simp only [mulS_eq, setL_length]; omega) | (simp only [setL_length]; omega) | (simp only [setL_length, List.length_map]; omega) | (exact ⟨by omega, by omega, by first | exact Nat.le_of_ble_eq_true rfl | (dsimp only; omega) | (simp only [setL_length]; omega) | (simp only [setL_length, List.length_map]; omega)⟩) | (exact ⟨by omega, by first | rfl | omega, by omega, Nat.le_of_ble_eq_true rfl, Nat.le_of_ble_eq_true rfl⟩) | (exact ⟨rfl, rfl, rfl, Nat.le_of_ble_eq_true rfl, by first | rfl | omega | exact Nat.le_of_ble_eq_true rfl | (dsimp only; omega) | (simp; done) | (simp; omega), by first | rfl | omega | exact Nat.le_of_ble_eq_true rfl | (dsimp only; omega) | (simp; done) | (simp; omega), by omega, Nat.le_of_ble_eq_true rfl⟩) | exact Eq.refl true) ?_) | refine Exists.intro _ (And.intro rfl ?_) | refine And.intro (And.intro rfl (chk_rowI _ _ _ _)) ?_ | refine br_t (by omega) ?_ | refine br_f (by omega) ?_ | refine bs_t (by omega) ?_ | refine bs_f (by omega) ?_ | refine fun (K' : K3) hK' => ?_ | (refine hK' _ _ _ ?_; clear hK' K') | refine draw_auto tok mixed (by kernel_rfl) ?_ | (refine CallK.val (R := []) hva (by kernel_rfl) rfl (by simp [V.wf, A.wf, C.wf, V.i]) ⟨roE_f (flat_c _) (l := 0) rfl (by omega) rfl (.inr rfl), trivial⟩ rfl rfl (by first | trivial | simp [V.wf, A.wf, C.wf]) ?_) | refine bs_bt (Eq.refl true) ?_ | refine bs_bf (Eq.refl false) ?_ | refine br_bt (Eq.refl true) ?_ | refine br_bf (Eq.refl false) ?_ | refine CallK.m ?_ | refine Two.l ?_ | refine And.intro (And.intro rfl rfl) ?_)
  intro ρ; rfl
set_option maxRecDepth 10000 in
theorem rLine_arg (n : Nat) (qs : List (Nat × Nat)) (hk : Knd n qs) (zs : List Int) (hz : zs.length ≤ 1000) (hb : ordB n zs = false) : Spec Tryd.prog 53 [V.agg [C.i n, C.sl 0 (castP qs).length], V.c (.sl 1 zs.length)] [⟨0, .ro 2, cellC (castP qs)⟩, ⟨1, .ro 1, zs.map C.i⟩] 2 (Is (V.tup [A.c .nil, A.c (C.i 2)])) := by
  have hpl := castP_len qs
  have hql := knd_len hk
  have hva := rvalid_spec n (castP qs) (by omega)
  rw [knd_ok hk] at hva
  have hio := isOrder_spec n (castP qs).length (castP qs) zs hz
  rw [hb] at hio
  refine Spec.of tok Tryd.func53 rfl rfl rfl fun n0 cx => vc_ok tok ?_
  repeat ((conv => whnf); first | (refine And.intro (by first | omega | exact Nat.le_of_ble_eq_true rfl | (dsimp only [inK]; omega) | (simp only [mulS_eq]; omega) | (simp only [mulS_eq, setL_length]; omega) | (simp only [setL_length]; omega) | (simp only [setL_length, List.length_map]; omega) | (exact ⟨by omega, by omega, by first | exact Nat.le_of_ble_eq_true rfl | (dsimp only; omega) | (simp only [setL_length]; omega) | (simp only [setL_length, List.length_map]; omega)⟩) | (exact ⟨by omega, by first | rfl | omega, by omega, Nat.le_of_ble_eq_true rfl, Nat.le_of_ble_eq_true rfl⟩) | (exact ⟨rfl, rfl, rfl, Nat.le_of_ble_eq_true rfl, by first | rfl | omega | exact Nat.le_of_ble_eq_true rfl | (dsimp only; omega) | (simp; done) | (simp; omega), by first | rfl | omega | exact Nat.le_of_ble_eq_true rfl | (dsimp only; omega) | (simp; done) | (simp; omega), by omega, Nat.le_of_ble_eq_true rfl⟩) | exact Eq.refl true) ?_) | refine Exists.intro _ (And.intro rfl ?_) | refine And.intro (And.intro rfl (chk_rowI _ _ _ _)) ?_ | refine br_t (by omega) ?_ | refine br_f (by omega) ?_ | refine bs_t (by omega) ?_ | refine bs_f (by omega) ?_ | refine fun (K' : K3) hK' => ?_ | (refine hK' _ _ _ ?_; clear hK' K') | refine draw_auto tok mixed (by kernel_rfl) ?_ | (refine CallK.val (R := []) hva (by kernel_rfl) rfl (by simp [V.wf, A.wf, C.wf, V.i]) ⟨roE_f (flat_c _) (l := 0) rfl (by omega) rfl (.inr rfl), trivial⟩ rfl rfl (by first | trivial | simp [V.wf, A.wf, C.wf]) ?_) | (refine CallK.val (R := []) hio (by kernel_rfl) rfl (by simp [V.wf, A.wf, C.wf, V.i]) ⟨roE_f (flat_c _) (l := 0) rfl (by omega) rfl (.inr rfl), roE_f (flat_i _) (l := 1) rfl (by omega) rfl (.inr rfl), trivial⟩ rfl rfl (by first | trivial | simp [V.wf, A.wf, C.wf]) ?_) | refine bs_bt (Eq.refl true) ?_ | refine bs_bf (Eq.refl false) ?_ | refine br_bt (Eq.refl true) ?_ | refine br_bf (Eq.refl false) ?_ | refine CallK.m ?_ | refine Two.l ?_ | refine And.intro (And.intro rfl rfl) ?_)
  intro ρ; rfl
def putF (f : Nat → Nat) (a x : Nat) : Nat → Nat := fun y => if y = a then x else f y
def rowL (f : Nat → Nat) (n : Nat) : List Int := fnL (fun y => ((f y : Nat) : Int)) n
theorem rowL_len (f : Nat → Nat) (n : Nat) : (rowL f n).length = n := fnL_len _ _
theorem rowL_get {f : Nat → Nat} {n k : Nat} (h : k < n) : (rowL f n).getD k 0 = (f k : Nat) := fnL_get h
theorem rowL_set {f : Nat → Nat} {n a x y : Nat} : (rowL (putF f a x) n).set a ((y : Nat) : Int) = rowL (putF f a y) n := by
  unfold rowL; rw [fnL_set]
  refine fnL_congr fun j _ => ?_
  unfold putF
  by_cases h : j = a
  · rw [if_pos h, if_pos h]
  · rw [if_neg h, if_neg h, if_neg h]
theorem rowL_same {f : Nat → Nat} {n a x : Nat} (h : f a = x) : rowL (putF f a x) n = rowL f n := fnL_congr fun j _ => by
  unfold putF
  by_cases hj : j = a
  · rw [if_pos hj, hj, h]
  · rw [if_neg hj]
theorem lnF_none {cl : Nat → Nat → Bool} {os : List Nat} : ∀ {k a : Nat}, k ≤ os.length → a ∉ os.take k → lnF cl os k a = 0
  | 0, a, _, _ => rfl
  | k + 1, a, hk, h => by
    have htk := take_get (os := os) (k := k) (by omega)
    rw [htk, List.mem_append, List.mem_singleton] at h
    show (if a = os.getD k 0 then _ else lnF cl os k a) = 0
    rw [if_neg (fun e => h (.inr e))]
    exact lnF_none (by omega) (fun e => h (.inl e))
theorem lnF_succ (cl : Nat → Nat → Bool) (os : List Nat) (k : Nat) : lnF cl os (k + 1) = putF (lnF cl os k) (os.getD k 0) (mexS cl (lnF cl os k) (os.take k) (os.getD k 0)) := rfl
set_option maxRecDepth 10000 in
set_option maxHeartbeats 16000000 in
theorem rLine_spec (n : Nat) (qs : List (Nat × Nat)) (hk : Knd n qs) (os : List Nat) (ho : Ord n os) : Spec Tryd.prog 53 [V.agg [C.i n, C.sl 0 (castP qs).length], V.c (.sl 1 n)] [⟨0, .ro 2, cellC (castP qs)⟩, ⟨1, .ro 1, (natI os).map C.i⟩] 2 (fun v L' _ => ∃ lab, v = V.tup [A.c (.sl lab n), A.c (C.i 0)] ∧ find L' lab = some ⟨lab, .vec 3 1, (rowL (lnF (symC (clP qs)) os n) n).map C.i⟩) := by
  have hn := hk.rng
  have hol := ho.1
  have hzl : (natI os).length = n := by rw [natI_len, hol]
  have hpl := castP_len qs
  have hql := knd_len hk
  have hva := rvalid_spec n (castP qs) (by omega)
  rw [knd_ok hk] at hva
  have hio := isOrder_spec n (castP qs).length (castP qs) (natI os) (by omega)
  rw [ordB_of ho, hzl] at hio
  have hcla := clash_spec n qs hk
  have hzm : ((natI os).map C.i).length = n := by rw [List.length_map, hzl]
  have hlo : ∀ i, i < n → ((natI os).map C.i)[mulS ((i : Nat) : Int).toNat 1]? = some (C.i ((os.getD i 0 : Nat) : Int)) := fun i hi => by rw [intLz rfl (by omega), natI_get (by omega)]
  refine Spec.of tok Tryd.func53 rfl rfl rfl fun n0 cx => vc_ok tok ?_
  repeat ((conv => whnf); first | (refine And.intro (by first | omega | exact Nat.le_of_ble_eq_true rfl | (dsimp only [inK]; omega) | (simp only [mulS_eq]; omega) | (simp only [mulS_eq, setL_length]; omega) | (simp only [setL_length]; omega) | (simp only [setL_length, List.length_map]; omega) | (exact ⟨by omega, by omega, by first | exact Nat.le_of_ble_eq_true rfl | (dsimp only; omega) | (simp only [setL_length]; omega) | (simp only [setL_length, List.length_map]; omega)⟩) | (exact ⟨by omega, by first | rfl | omega, by omega, Nat.le_of_ble_eq_true rfl, Nat.le_of_ble_eq_true rfl⟩) | (exact ⟨rfl, rfl, rfl, Nat.le_of_ble_eq_true rfl, by first | rfl | omega | exact Nat.le_of_ble_eq_true rfl | (dsimp only; omega) | (simp; done) | (simp; omega), by first | rfl | omega | exact Nat.le_of_ble_eq_true rfl | (dsimp only; omega) | (simp; done) | (simp; omega), by omega, Nat.le_of_ble_eq_true rfl⟩) | exact Eq.refl true) ?_) | refine Exists.intro _ (And.intro rfl ?_) | refine And.intro (And.intro rfl (chk_rowI _ _ _ _)) ?_ | refine br_t (by omega) ?_ | refine br_f (by omega) ?_ | refine bs_t (by omega) ?_ | refine bs_f (by omega) ?_ | refine fun (K' : K3) hK' => ?_ | (refine hK' _ _ _ ?_; clear hK' K') | refine draw_auto tok mixed (by kernel_rfl) ?_ | (refine CallK.val (R := []) hva (by kernel_rfl) rfl (by simp [V.wf, A.wf, C.wf, V.i]) ⟨roE_f (flat_c _) (l := 0) rfl (by omega) rfl (.inr rfl), trivial⟩ rfl rfl (by first | trivial | simp [V.wf, A.wf, C.wf]) ?_) | (refine CallK.val (R := []) hio (by kernel_rfl) rfl (by simp [V.wf, A.wf, C.wf, V.i]) ⟨roE_f (flat_c _) (l := 0) rfl (by omega) rfl (.inr rfl), roE_f (flat_i _) (l := 1) rfl (by omega) rfl (.inr rfl), trivial⟩ rfl rfl (by first | trivial | simp [V.wf, A.wf, C.wf]) ?_) | refine bs_bt (Eq.refl true) ?_ | refine bs_bf (Eq.refl false) ?_ | refine br_bt (Eq.refl true) ?_ | refine br_bf (Eq.refl false) ?_ | refine CallK.m ?_ | refine Two.l ?_ | refine And.intro (And.intro rfl rfl) ?_)
  have hzr : repC ((n : Nat) : Int).toNat [C.int .i64 0] = (rowL (lnF (symC (clP qs)) os 0) n).map C.i := by rw [Int.toNat_natCast, repI, fnL_zero]; rfl
  refine Tri.loop (γ := Nat) (fun k => k ≤ n) (fun k => [(1, V.c (.sl 1 n)), (2, V.c (.ptr 2 0)), (6, V.c (.sl 3 n)), (22, V.c (.sl 1 n)), (23, V.i n), (24, V.i (k : Nat))])
    (fun k => [⟨3, .vec 3 1, (rowL (lnF (symC (clP qs)) os k) n).map C.i⟩, ⟨2, .own 24, [C.i n, .sl 0 (castP qs).length]⟩, ⟨0, .ro 2, cellC (castP qs)⟩, ⟨1, .ro 1, (natI os).map C.i⟩]) 4 (fun k => n - k) 0 (R0 := []) ?_ ?_ ?_
  · exact Nat.zero_le _
  · skip
    refine ⟨?_, ?_, rfl, rfl, by first | exact Nat.le_of_ble_eq_true rfl | exact Nat.le_refl _ | omega⟩
    · repeat (first | exact trivial | (refine And.intro (covS_syn (by rfl) rfl (by first | exact trivial | exact Nat.le_of_ble_eq_true rfl | exact hy | (first | ((show ∀ p ∈ (_ : List (Nat × Nat)), p.1 < _); decide) | exact (fun p hp => nomatch hp)) | (show (_ : Nat) < _; omega))) ?_) | refine And.intro (covS_bool rfl rfl (by rfl)) ?_)
    · repeat (first | exact trivial | refine And.intro (covE_i rfl (Nat.le_of_ble_eq_true rfl) rfl hzr) ?_ | (refine And.intro (covE_id (Nat.le_of_ble_eq_true rfl) (by first | exact wf_ints _ _ | exact wf_bools _ _ | first | exact wf_us _ _ | exact wf_cells _ _ | exact wf_ints _ _ | (simp [C.wf]; done) | simp [C.wf]) rfl (by rfl)) ?_))
  · intro k hkn
    refine vc_ok tok ?_
    by_cases hkl : k < n
    · have ha := ho.at hkl
      have hnew := ho.new hkl
      have hla := hlo k hkl
      have hl0 := lnF_none (cl := symC (clP qs)) (os := os) (k := k) (a := os.getD k 0) (by omega) hnew
      have hsu := lnF_succ (symC (clP qs)) os k
      obtain ⟨m1, m2, m3⟩ := mexS_spec (symC (clP qs)) (lnF (symC (clP qs)) os k) (os.take k) (os.getD k 0)
      have hmu := fun m => mexS_uniq (cl := symC (clP qs)) (f := lnF (symC (clP qs)) os k) (pre := os.take k) (a := os.getD k 0) (m := m)
      have hmem : ∀ j, j < k → os.getD j 0 ∈ os.take k := fun j hj => by
        have : os.getD j 0 = (os.take k).getD j 0 := by simp [List.getD_eq_getElem?_getD, List.getElem?_take, hj]
        rw [this, List.getD_eq_getElem?_getD, List.getElem?_eq_getElem (by rw [List.length_take]; omega)]
        exact List.getElem_mem _
      have hblk0 : ∀ s, (∀ j, j < k → ¬ (symC (clP qs) (os.getD k 0) (os.getD j 0) = true ∧ lnF (symC (clP qs)) os k (os.getD j 0) = s)) → blkS (symC (clP qs)) (lnF (symC (clP qs)) os k) (os.take k) (os.getD k 0) s = false := fun s h => by
        rw [← Bool.not_eq_true, blkS, List.any_eq_true]
        rintro ⟨b, hb, h2⟩
        obtain ⟨j, hj, rfl⟩ := List.mem_iff_getElem.1 hb
        rw [List.length_take] at hj
        simp only [Bool.and_eq_true, decide_eq_true_iff] at h2
        refine h j (by omega) ?_
        have e : os.getD j 0 = (os.take k)[j]'(by rw [List.length_take]; omega) := by simp [List.getD_eq_getElem?_getD, show j < os.length by omega]
        rw [e]; exact h2
      have hblk1 : ∀ j, j < k → symC (clP qs) (os.getD k 0) (os.getD j 0) = true → blkS (symC (clP qs)) (lnF (symC (clP qs)) os k) (os.take k) (os.getD k 0) (lnF (symC (clP qs)) os k (os.getD j 0)) = true := fun j hj h => List.any_eq_true.2 ⟨_, hmem j hj, by simp only [Bool.and_eq_true, decide_eq_true_iff]; exact ⟨h, trivial⟩⟩
      have hbn : ∀ j, j < k → os.getD j 0 < n := fun j hj => ho.at (by omega)
      have hbne : ∀ j, j < k → os.getD j 0 ≠ os.getD k 0 := fun j hj e => hnew (by rw [← e]; exact hmem j hj)
      have htl : (os.take k).length = k := by rw [List.length_take]; omega
      rw [htl] at m2
      obtain ⟨f, hf⟩ : ∃ f, f = lnF (symC (clP qs)) os k := ⟨_, rfl⟩
      obtain ⟨a, hae⟩ : ∃ a, a = os.getD k 0 := ⟨_, rfl⟩
      rw [← hf, ← hae] at hsu hl0 m1 m2 m3 hmu hblk0 hblk1
      rw [← hae] at ha hla hnew hbne
      rw [← hf]
      obtain ⟨B, hB⟩ : ∃ B, B = blkS (symC (clP qs)) f (os.take k) a := ⟨_, rfl⟩
      rw [← hB] at m1 m3 hmu hblk0 hblk1
      obtain ⟨mx, hmx⟩ : ∃ mx, mx = mexS (symC (clP qs)) f (os.take k) a := ⟨_, rfl⟩
      rw [← hmx] at hsu m1 m2 m3 hmu
      have hlen0 : ∀ x, ((rowL (putF f a x) n).map C.i).length = n := fun x => by rw [List.length_map, rowL_len]
      have hsm0 : rowL f n = rowL (putF f a 0) n := (rowL_same hl0).symm
      have hlda : ∀ x, ((rowL (putF f a x) n).map C.i)[mulS ((a : Nat) : Int).toNat 1]? = some (C.i ((x : Nat) : Int)) := fun x => by
        rw [intLz rfl (by rw [rowL_len]; exact ha), rowL_get ha]
        unfold putF; rw [if_pos rfl]
      have hldb : ∀ x b, b < n → b ≠ a → ((rowL (putF f a x) n).map C.i)[mulS ((b : Nat) : Int).toNat 1]? = some (C.i ((f b : Nat) : Int)) := fun x b hb hne => by
        rw [intLz rfl (by rw [rowL_len]; exact hb), rowL_get hb]
        unfold putF; rw [if_neg hne]
      have hsetx : ∀ x y : Nat, setL ((rowL (putF f a x) n).map C.i) (mulS ((a : Nat) : Int).toNat 1) [C.i (y : Nat)] = (rowL (putF f a y) n).map C.i := fun x y => by rw [setI rfl, rowL_set]
      repeat ((conv => whnf); first | (refine And.intro (by first | omega | exact Nat.le_of_ble_eq_true rfl | (dsimp only [inK]; omega) | (simp only [mulS_eq]; omega) | (simp only [mulS_eq, setL_length]; omega) | (simp only [setL_length]; omega) | (simp only [setL_length, List.length_map]; omega) | (exact ⟨by omega, by omega, by first | exact Nat.le_of_ble_eq_true rfl | (dsimp only; omega) | (simp only [setL_length]; omega) | (simp only [setL_length, List.length_map]; omega)⟩) | (exact ⟨by omega, by first | rfl | omega, by omega, Nat.le_of_ble_eq_true rfl, Nat.le_of_ble_eq_true rfl⟩) | (exact ⟨rfl, rfl, rfl, Nat.le_of_ble_eq_true rfl, by first | rfl | omega | exact Nat.le_of_ble_eq_true rfl | (dsimp only; omega) | (simp; done) | (simp; omega), by first | rfl | omega | exact Nat.le_of_ble_eq_true rfl | (dsimp only; omega) | (simp; done) | (simp; omega), by omega, Nat.le_of_ble_eq_true rfl⟩) | exact Eq.refl true) ?_) | with_reducible refine ld (hla) ?_ | refine Exists.intro _ (And.intro rfl ?_) | refine And.intro (And.intro rfl (chk_rowI _ _ _ _)) ?_ | refine br_t (by omega) ?_ | refine br_f (by omega) ?_ | refine bs_t (by omega) ?_ | refine bs_f (by omega) ?_ | refine fun (K' : K3) hK' => ?_ | (refine hK' _ _ _ ?_; clear hK' K') | refine draw_auto tok mixed (by kernel_rfl) ?_ | refine bs_bt (Eq.refl true) ?_ | refine bs_bf (Eq.refl false) ?_ | refine br_bt (Eq.refl true) ?_ | refine br_bf (Eq.refl false) ?_ | refine CallK.m ?_ | refine Two.l ?_ | refine And.intro (And.intro rfl rfl) ?_)
      refine Tri.loop (γ := Nat × Bool) (fun g => g.1 ≤ mx ∧ (g.2 = false → B g.1 = false) ∧ ∀ r, r < g.1 → B r = true) (fun (x, ag) => [(1, V.c (.sl 1 n)), (2, V.c (.ptr 2 0)), (6, V.c (.sl 3 n)), (7, V.i (k : Nat)), (8, V.i (a : Nat)), (9, V.c (.bool ag)), (22, V.c (.sl 1 n)), (23, V.i n), (24, V.i (k : Nat))])
        (fun (x, ag) => [⟨3, .vec 3 1, (rowL (putF f a x) n).map C.i⟩, ⟨2, .own 24, [C.i n, .sl 0 (castP qs).length]⟩, ⟨0, .ro 2, cellC (castP qs)⟩, ⟨1, .ro 1, (natI os).map C.i⟩]) 4 (fun g => 2 * (mx - g.1) + g.2.toNat) (0, true) (R0 := []) ?_ ?_ ?_
      · show 0 ≤ mx ∧ (true = false → B 0 = false) ∧ ∀ r, r < 0 → B r = true
        exact And.intro (Nat.zero_le _) (And.intro (fun (h : true = false) => absurd h (by decide)) (fun r hr => absurd hr (Nat.not_lt_zero r)))
      · rw [hsm0]
        refine ⟨?_, ?_, rfl, rfl, by first | exact Nat.le_of_ble_eq_true rfl | exact Nat.le_refl _ | omega⟩
        · repeat (first | exact trivial | (refine And.intro (covS_syn (by first | rfl | (refine congrArg some (congrArg V.i ?_); rfl)) rfl (by first | exact trivial | exact Nat.le_of_ble_eq_true rfl | exact hy | (first | ((show ∀ p ∈ (_ : List (Nat × Nat)), p.1 < _); decide) | exact (fun p hp => nomatch hp)) | (show (_ : Nat) < _; omega))) ?_) | (refine And.intro (covS_bool rfl rfl (by first | rfl | rfl)) ?_))
        · repeat (first | exact trivial | (refine And.intro (covE_id (Nat.le_of_ble_eq_true rfl) (by first | exact wf_ints _ _ | exact wf_bools _ _ | first | exact wf_us _ _ | exact wf_cells _ _ | exact wf_ints _ _ | (simp [C.wf]; done) | simp [C.wf]) rfl (by rfl)) ?_))
      · rintro ⟨x, ag⟩ ⟨hx1, hx2, hx3⟩
        simp only at hx1 hx2 hx3
        refine vc_ok tok ?_
        cases ag with
        | false =>
          have hxe : x = mx := hmu x (hx2 rfl) hx3
          subst hxe
          repeat ((conv => whnf); first | (refine And.intro (by first | omega | exact Nat.le_of_ble_eq_true rfl | (dsimp only [inK]; omega) | (simp only [mulS_eq]; omega) | (simp only [mulS_eq, setL_length]; omega) | (simp only [setL_length]; omega) | (simp only [setL_length, List.length_map]; omega) | (exact ⟨by omega, by omega, by first | exact Nat.le_of_ble_eq_true rfl | (dsimp only; omega) | (simp only [setL_length]; omega) | (simp only [setL_length, List.length_map]; omega)⟩) | (exact ⟨by omega, by first | rfl | omega, by omega, Nat.le_of_ble_eq_true rfl, Nat.le_of_ble_eq_true rfl⟩) | (exact ⟨rfl, rfl, rfl, Nat.le_of_ble_eq_true rfl, by first | rfl | omega | exact Nat.le_of_ble_eq_true rfl | (dsimp only; omega) | (simp; done) | (simp; omega), by first | rfl | omega | exact Nat.le_of_ble_eq_true rfl | (dsimp only; omega) | (simp; done) | (simp; omega), by omega, Nat.le_of_ble_eq_true rfl⟩) | exact Eq.refl true) ?_) | refine Exists.intro _ (And.intro rfl ?_) | refine And.intro (And.intro rfl (chk_rowI _ _ _ _)) ?_ | refine br_t (by omega) ?_ | refine br_f (by omega) ?_ | refine bs_t (by omega) ?_ | refine bs_f (by omega) ?_ | refine fun (K' : K3) hK' => ?_ | (refine hK' _ _ _ ?_; clear hK' K') | refine draw_auto tok mixed (by kernel_rfl) ?_ | refine bs_bt (Eq.refl true) ?_ | refine bs_bf (Eq.refl false) ?_ | refine br_bt (Eq.refl true) ?_ | refine br_bf (Eq.refl false) ?_ | refine CallK.m ?_ | refine Two.l ?_ | refine And.intro (And.intro rfl rfl) ?_)
          refine ⟨k + 1, [], by omega, by omega, ?_⟩
          rw [hsu]
          refine ⟨?_, ?_, rfl, rfl, by first | exact Nat.le_of_ble_eq_true rfl | exact Nat.le_refl _ | omega⟩
          · repeat (first | exact trivial | (refine And.intro (covS_syn (by first | rfl | (refine congrArg some (congrArg V.i ?_); omega)) rfl (by first | exact trivial | exact Nat.le_of_ble_eq_true rfl | exact hy | (first | ((show ∀ p ∈ (_ : List (Nat × Nat)), p.1 < _); decide) | exact (fun p hp => nomatch hp)) | (show (_ : Nat) < _; omega))) ?_) | refine And.intro (covS_bool rfl rfl (by rfl)) ?_)
          · repeat (first | exact trivial | (refine And.intro (covE_id (Nat.le_of_ble_eq_true rfl) (by first | exact wf_ints _ _ | exact wf_bools _ _ | first | exact wf_us _ _ | exact wf_cells _ _ | exact wf_ints _ _ | (simp [C.wf]; done) | simp [C.wf]) rfl (by rfl)) ?_))
        | true =>
          repeat ((conv => whnf); first | (refine And.intro (by first | omega | exact Nat.le_of_ble_eq_true rfl | (dsimp only [inK]; omega) | (simp only [mulS_eq]; omega) | (simp only [mulS_eq, setL_length]; omega) | (simp only [setL_length]; omega) | (simp only [setL_length, List.length_map]; omega) | (exact ⟨by omega, by omega, by first | exact Nat.le_of_ble_eq_true rfl | (dsimp only; omega) | (simp only [setL_length]; omega) | (simp only [setL_length, List.length_map]; omega)⟩) | (exact ⟨by omega, by first | rfl | omega, by omega, Nat.le_of_ble_eq_true rfl, Nat.le_of_ble_eq_true rfl⟩) | (exact ⟨rfl, rfl, rfl, Nat.le_of_ble_eq_true rfl, by first | rfl | omega | exact Nat.le_of_ble_eq_true rfl | (dsimp only; omega) | (simp; done) | (simp; omega), by first | rfl | omega | exact Nat.le_of_ble_eq_true rfl | (dsimp only; omega) | (simp; done) | (simp; omega), by omega, Nat.le_of_ble_eq_true rfl⟩) | exact Eq.refl true) ?_) | refine Exists.intro _ (And.intro rfl ?_) | refine And.intro (And.intro rfl (chk_rowI _ _ _ _)) ?_ | refine br_t (by omega) ?_ | refine br_f (by omega) ?_ | refine bs_t (by omega) ?_ | refine bs_f (by omega) ?_ | refine fun (K' : K3) hK' => ?_ | (refine hK' _ _ _ ?_; clear hK' K') | refine draw_auto tok mixed (by kernel_rfl) ?_ | refine bs_bt (Eq.refl true) ?_ | refine bs_bf (Eq.refl false) ?_ | refine br_bt (Eq.refl true) ?_ | refine br_bf (Eq.refl false) ?_ | refine CallK.m ?_ | refine Two.l ?_ | refine And.intro (And.intro rfl rfl) ?_)
          refine Tri.loop (γ := Nat × Bool × Nat) (fun g => g.2.2 ≤ k ∧ x ≤ g.1 ∧ g.1 ≤ mx ∧ (g.2.1 = true → x < g.1) ∧ (g.2.1 = false → g.1 = x ∧ ∀ j, j < g.2.2 → ¬ (symC (clP qs) a (os.getD j 0) = true ∧ f (os.getD j 0) = x)) ∧ ∀ r, r < g.1 → B r = true) (fun (x1, ag, j) => [(1, V.c (.sl 1 n)), (2, V.c (.ptr 2 0)), (6, V.c (.sl 3 n)), (7, V.i (k : Nat)), (8, V.i (a : Nat)), (9, V.c (.bool ag)), (22, V.c (.sl 1 n)), (23, V.i n), (24, V.i (k : Nat)), (32, V.c (.sl 1 k)), (33, V.i (k : Nat)), (34, V.i (j : Nat))])
            (fun (x1, ag, j) => [⟨3, .vec 3 1, (rowL (putF f a x1) n).map C.i⟩, ⟨2, .own 24, [C.i n, .sl 0 (castP qs).length]⟩, ⟨0, .ro 2, cellC (castP qs)⟩, ⟨1, .ro 1, (natI os).map C.i⟩]) 4 (fun g => k - g.2.2) (x, false, 0) (R0 := []) ?_ ?_ ?_
          · show 0 ≤ k ∧ x ≤ x ∧ x ≤ mx ∧ (false = true → x < x) ∧ (false = false → x = x ∧ ∀ j, j < 0 → ¬ (symC (clP qs) a (os.getD j 0) = true ∧ f (os.getD j 0) = x)) ∧ ∀ r, r < x → B r = true
            exact And.intro (Nat.zero_le _) (And.intro (Nat.le_refl _) (And.intro hx1 (And.intro (fun (h : false = true) => absurd h (by decide)) (And.intro (fun _ => And.intro rfl (fun j hj => absurd hj (Nat.not_lt_zero j))) hx3))))
          · skip
            refine ⟨?_, ?_, rfl, rfl, by first | exact Nat.le_of_ble_eq_true rfl | exact Nat.le_refl _ | omega⟩
            · repeat (first | exact trivial | (refine And.intro (covS_syn (by first | rfl | (refine congrArg some (congrArg V.i ?_); rfl)) rfl (by first | exact trivial | exact Nat.le_of_ble_eq_true rfl | exact hy | (first | ((show ∀ p ∈ (_ : List (Nat × Nat)), p.1 < _); decide) | exact (fun p hp => nomatch hp)) | (show (_ : Nat) < _; omega))) ?_) | (refine And.intro (covS_bool rfl rfl (by first | rfl | rfl)) ?_))
            · repeat (first | exact trivial | (refine And.intro (covE_id (Nat.le_of_ble_eq_true rfl) (by first | exact wf_ints _ _ | exact wf_bools _ _ | first | exact wf_us _ _ | exact wf_cells _ _ | exact wf_ints _ _ | (simp [C.wf]; done) | simp [C.wf]) rfl (by rfl)) ?_))
          · rintro ⟨x1, ag, j⟩ ⟨hj, g1, g2, g3, g4, g5⟩
            simp only at hj g1 g2 g3 g4 g5
            refine vc_ok tok ?_
            by_cases hjl : j < k
            · have hlb := hlo j (by omega)
              have hb1 := hbn j hjl
              have hb2 := hbne j hjl
              have hlen1 := hlen0 x1
              have hpos1 : 0 < ((rowL (putF f a x1) n).map C.i).length := by omega
              have hld1 := hlda x1
              have hld2 := hldb x1 (os.getD j 0) hb1 hb2
              have hblk := hblk1 j hjl
              have hcl1 := hcla a (os.getD j 0)
              have hj4 : ∀ c, symC (clP qs) a (os.getD j 0) = c → c = false ∨ f (os.getD j 0) ≠ x1 → ag = false → x1 = x ∧ ∀ i, i < j + 1 → ¬ (symC (clP qs) a (os.getD i 0) = true ∧ f (os.getD i 0) = x) := fun c hc h hag => by
                obtain ⟨q1, q2⟩ := g4 hag
                refine ⟨q1, fun i hi => ?_⟩
                by_cases hij : i = j
                · rw [hij, hc]
                  rintro ⟨e1, e2⟩
                  rcases h with h | h
                  · rw [h] at e1; cases e1
                  · exact h (by rw [e2, q1])
                · exact q2 i (by omega)
              obtain ⟨b, hb⟩ : ∃ b, b = os.getD j 0 := ⟨_, rfl⟩
              rw [← hb] at hlb hb1 hb2 hld2 hblk hcl1 hj4
              by_cases h1 : ((x1 : Nat) : Int) = (f b : Nat)
              · cases hc : symC (clP qs) a b with
                | true =>
                  rw [hc] at hcl1
                  have hbx := hblk hc
                  have hlt : x1 < mx := by
                    rcases Nat.lt_or_ge x1 mx with h | h
                    · exact h
                    · have : x1 = mx := by omega
                      rw [← show x1 = f b by omega, this, m1] at hbx; cases hbx
                  have hset : setL ((rowL (putF f a x1) n).map C.i) (mulS ((a : Nat) : Int).toNat 1) [C.i (((x1 : Nat) : Int) + 1)] = (rowL (putF f a (x1 + 1)) n).map C.i := by
                    have := hsetx x1 (x1 + 1)
                    rwa [show (((x1 + 1 : Nat) : Nat) : Int) = ((x1 : Nat) : Int) + 1 by omega] at this
                  repeat ((conv => whnf); first | (refine And.intro (by first | omega | exact Nat.le_of_ble_eq_true rfl | (dsimp only [inK]; omega) | (simp only [mulS_eq]; omega) | (simp only [mulS_eq, setL_length]; omega) | (simp only [setL_length]; omega) | (simp only [setL_length, List.length_map]; omega) | (exact ⟨by omega, by omega, by first | exact Nat.le_of_ble_eq_true rfl | (dsimp only; omega) | (simp only [setL_length]; omega) | (simp only [setL_length, List.length_map]; omega)⟩) | (exact ⟨by omega, by first | rfl | omega, by omega, Nat.le_of_ble_eq_true rfl, Nat.le_of_ble_eq_true rfl⟩) | (exact ⟨rfl, rfl, rfl, Nat.le_of_ble_eq_true rfl, by first | rfl | omega | exact Nat.le_of_ble_eq_true rfl | (dsimp only; omega) | (simp; done) | (simp; omega), by first | rfl | omega | exact Nat.le_of_ble_eq_true rfl | (dsimp only; omega) | (simp; done) | (simp; omega), by omega, Nat.le_of_ble_eq_true rfl⟩) | exact Eq.refl true) ?_) | with_reducible refine ld (hlb) ?_ | with_reducible refine ld (hld1) ?_ | with_reducible refine ld (hld2) ?_ | refine Exists.intro _ (And.intro rfl ?_) | refine And.intro (And.intro rfl (chk_rowI _ _ _ _)) ?_ | refine br_t (by omega) ?_ | refine br_f (by omega) ?_ | refine bs_t (by omega) ?_ | refine bs_f (by omega) ?_ | refine fun (K' : K3) hK' => ?_ | (refine hK' _ _ _ ?_; clear hK' K') | refine draw_auto tok mixed (by kernel_rfl) ?_ | refine bs_t h1 ?_ | refine br_t h1 ?_ | (refine HD_mk (fun _ h => CallK.val (R := []) hcl1 (by kernel_rfl) rfl (by simp [V.wf, A.wf, C.wf, V.i]) ⟨roE_f (flat_c _) (l := 0) rfl (by omega) rfl (.inr rfl), trivial⟩ rfl rfl (by first | trivial | simp [V.wf, A.wf, C.wf]) h) ?_) | refine bs_bt (Eq.refl true) ?_ | refine bs_bf (Eq.refl false) ?_ | refine br_bt (Eq.refl true) ?_ | refine br_bf (Eq.refl false) ?_ | refine CallK.m ?_ | refine Two.l ?_ | refine And.intro (And.intro rfl rfl) ?_)
                  refine ⟨(x1 + 1, true, j + 1), [], And.intro (by simp only; omega) (And.intro (by simp only; omega) (And.intro (by simp only; omega) (And.intro (fun _ => by simp only; omega) (And.intro (fun (h : true = false) => absurd h (by decide)) (fun r hr => ?_))))), by simp only; omega, ?_⟩
                  · simp only at hr
                    by_cases h : r = x1
                    · rw [h, show x1 = f b by omega]; exact hbx
                    · exact g5 r (by omega)
                  refine ⟨?_, ?_, rfl, rfl, by first | exact Nat.le_of_ble_eq_true rfl | exact Nat.le_refl _ | omega⟩
                  · repeat (first | exact trivial | (refine And.intro (covS_syn (by first | rfl | (refine congrArg some (congrArg V.i ?_); (show (_ : Int) = ((j + 1 : Nat) : Int); omega))) rfl (by first | exact trivial | exact Nat.le_of_ble_eq_true rfl | exact hy | (first | ((show ∀ p ∈ (_ : List (Nat × Nat)), p.1 < _); decide) | exact (fun p hp => nomatch hp)) | (show (_ : Nat) < _; omega))) ?_) | (refine And.intro (covS_bool rfl rfl (by first | rfl | rfl)) ?_))
                  · repeat (first | exact trivial | refine And.intro (covE_i rfl (Nat.le_of_ble_eq_true rfl) rfl hset) ?_ | (refine And.intro (covE_id (Nat.le_of_ble_eq_true rfl) (by first | exact wf_ints _ _ | exact wf_bools _ _ | first | exact wf_us _ _ | exact wf_cells _ _ | exact wf_ints _ _ | (simp [C.wf]; done) | simp [C.wf]) rfl (by rfl)) ?_))
                | false =>
                  rw [hc] at hcl1
                  have hj5 := hj4 false hc (.inl rfl)
                  repeat ((conv => whnf); first | (refine And.intro (by first | omega | exact Nat.le_of_ble_eq_true rfl | (dsimp only [inK]; omega) | (simp only [mulS_eq]; omega) | (simp only [mulS_eq, setL_length]; omega) | (simp only [setL_length]; omega) | (simp only [setL_length, List.length_map]; omega) | (exact ⟨by omega, by omega, by first | exact Nat.le_of_ble_eq_true rfl | (dsimp only; omega) | (simp only [setL_length]; omega) | (simp only [setL_length, List.length_map]; omega)⟩) | (exact ⟨by omega, by first | rfl | omega, by omega, Nat.le_of_ble_eq_true rfl, Nat.le_of_ble_eq_true rfl⟩) | (exact ⟨rfl, rfl, rfl, Nat.le_of_ble_eq_true rfl, by first | rfl | omega | exact Nat.le_of_ble_eq_true rfl | (dsimp only; omega) | (simp; done) | (simp; omega), by first | rfl | omega | exact Nat.le_of_ble_eq_true rfl | (dsimp only; omega) | (simp; done) | (simp; omega), by omega, Nat.le_of_ble_eq_true rfl⟩) | exact Eq.refl true) ?_) | with_reducible refine ld (hlb) ?_ | with_reducible refine ld (hld1) ?_ | with_reducible refine ld (hld2) ?_ | refine Exists.intro _ (And.intro rfl ?_) | refine And.intro (And.intro rfl (chk_rowI _ _ _ _)) ?_ | refine br_t (by omega) ?_ | refine br_f (by omega) ?_ | refine bs_t (by omega) ?_ | refine bs_f (by omega) ?_ | refine fun (K' : K3) hK' => ?_ | (refine hK' _ _ _ ?_; clear hK' K') | refine draw_auto tok mixed (by kernel_rfl) ?_ | refine bs_t h1 ?_ | refine br_t h1 ?_ | (refine HD_mk (fun _ h => CallK.val (R := []) hcl1 (by kernel_rfl) rfl (by simp [V.wf, A.wf, C.wf, V.i]) ⟨roE_f (flat_c _) (l := 0) rfl (by omega) rfl (.inr rfl), trivial⟩ rfl rfl (by first | trivial | simp [V.wf, A.wf, C.wf]) h) ?_) | refine bs_bt (Eq.refl true) ?_ | refine bs_bf (Eq.refl false) ?_ | refine br_bt (Eq.refl true) ?_ | refine br_bf (Eq.refl false) ?_ | refine CallK.m ?_ | refine Two.l ?_ | refine And.intro (And.intro rfl rfl) ?_)
                  refine ⟨(x1, ag, j + 1), [], ⟨by simp only; omega, g1, g2, g3, hj5, g5⟩, by simp only; omega, ?_⟩
                  refine ⟨?_, ?_, rfl, rfl, by first | exact Nat.le_of_ble_eq_true rfl | exact Nat.le_refl _ | omega⟩
                  · repeat (first | exact trivial | (refine And.intro (covS_syn (by first | rfl | (refine congrArg some (congrArg V.i ?_); (show (_ : Int) = ((j + 1 : Nat) : Int); omega))) rfl (by first | exact trivial | exact Nat.le_of_ble_eq_true rfl | exact hy | (first | ((show ∀ p ∈ (_ : List (Nat × Nat)), p.1 < _); decide) | exact (fun p hp => nomatch hp)) | (show (_ : Nat) < _; omega))) ?_) | (refine And.intro (covS_bool rfl rfl (by first | rfl | rfl)) ?_))
                  · repeat (first | exact trivial | (refine And.intro (covE_id (Nat.le_of_ble_eq_true rfl) (by first | exact wf_ints _ _ | exact wf_bools _ _ | first | exact wf_us _ _ | exact wf_cells _ _ | exact wf_ints _ _ | (simp [C.wf]; done) | simp [C.wf]) rfl (by rfl)) ?_))
              · have hj5 := hj4 _ rfl (.inr (by omega))
                repeat ((conv => whnf); first | (refine And.intro (by first | omega | exact Nat.le_of_ble_eq_true rfl | (dsimp only [inK]; omega) | (simp only [mulS_eq]; omega) | (simp only [mulS_eq, setL_length]; omega) | (simp only [setL_length]; omega) | (simp only [setL_length, List.length_map]; omega) | (exact ⟨by omega, by omega, by first | exact Nat.le_of_ble_eq_true rfl | (dsimp only; omega) | (simp only [setL_length]; omega) | (simp only [setL_length, List.length_map]; omega)⟩) | (exact ⟨by omega, by first | rfl | omega, by omega, Nat.le_of_ble_eq_true rfl, Nat.le_of_ble_eq_true rfl⟩) | (exact ⟨rfl, rfl, rfl, Nat.le_of_ble_eq_true rfl, by first | rfl | omega | exact Nat.le_of_ble_eq_true rfl | (dsimp only; omega) | (simp; done) | (simp; omega), by first | rfl | omega | exact Nat.le_of_ble_eq_true rfl | (dsimp only; omega) | (simp; done) | (simp; omega), by omega, Nat.le_of_ble_eq_true rfl⟩) | exact Eq.refl true) ?_) | with_reducible refine ld (hlb) ?_ | with_reducible refine ld (hld1) ?_ | with_reducible refine ld (hld2) ?_ | refine Exists.intro _ (And.intro rfl ?_) | refine And.intro (And.intro rfl (chk_rowI _ _ _ _)) ?_ | refine br_t (by omega) ?_ | refine br_f (by omega) ?_ | refine bs_t (by omega) ?_ | refine bs_f (by omega) ?_ | refine fun (K' : K3) hK' => ?_ | (refine hK' _ _ _ ?_; clear hK' K') | refine draw_auto tok mixed (by kernel_rfl) ?_ | refine bs_f h1 ?_ | refine br_f h1 ?_ | refine bs_bt (Eq.refl true) ?_ | refine bs_bf (Eq.refl false) ?_ | refine br_bt (Eq.refl true) ?_ | refine br_bf (Eq.refl false) ?_ | refine CallK.m ?_ | refine Two.l ?_ | refine And.intro (And.intro rfl rfl) ?_)
                refine ⟨(x1, ag, j + 1), [], ⟨by simp only; omega, g1, g2, g3, hj5, g5⟩, by simp only; omega, ?_⟩
                refine ⟨?_, ?_, rfl, rfl, by first | exact Nat.le_of_ble_eq_true rfl | exact Nat.le_refl _ | omega⟩
                · repeat (first | exact trivial | (refine And.intro (covS_syn (by first | rfl | (refine congrArg some (congrArg V.i ?_); (show (_ : Int) = ((j + 1 : Nat) : Int); omega))) rfl (by first | exact trivial | exact Nat.le_of_ble_eq_true rfl | exact hy | (first | ((show ∀ p ∈ (_ : List (Nat × Nat)), p.1 < _); decide) | exact (fun p hp => nomatch hp)) | (show (_ : Nat) < _; omega))) ?_) | (refine And.intro (covS_bool rfl rfl (by first | rfl | rfl)) ?_))
                · repeat (first | exact trivial | (refine And.intro (covE_id (Nat.le_of_ble_eq_true rfl) (by first | exact wf_ints _ _ | exact wf_bools _ _ | first | exact wf_us _ _ | exact wf_cells _ _ | exact wf_ints _ _ | (simp [C.wf]; done) | simp [C.wf]) rfl (by rfl)) ?_))
            · obtain rfl : j = k := by omega
              repeat ((conv => whnf); first | (refine And.intro (by first | omega | exact Nat.le_of_ble_eq_true rfl | (dsimp only [inK]; omega) | (simp only [mulS_eq]; omega) | (simp only [mulS_eq, setL_length]; omega) | (simp only [setL_length]; omega) | (simp only [setL_length, List.length_map]; omega) | (exact ⟨by omega, by omega, by first | exact Nat.le_of_ble_eq_true rfl | (dsimp only; omega) | (simp only [setL_length]; omega) | (simp only [setL_length, List.length_map]; omega)⟩) | (exact ⟨by omega, by first | rfl | omega, by omega, Nat.le_of_ble_eq_true rfl, Nat.le_of_ble_eq_true rfl⟩) | (exact ⟨rfl, rfl, rfl, Nat.le_of_ble_eq_true rfl, by first | rfl | omega | exact Nat.le_of_ble_eq_true rfl | (dsimp only; omega) | (simp; done) | (simp; omega), by first | rfl | omega | exact Nat.le_of_ble_eq_true rfl | (dsimp only; omega) | (simp; done) | (simp; omega), by omega, Nat.le_of_ble_eq_true rfl⟩) | exact Eq.refl true) ?_) | refine Exists.intro _ (And.intro rfl ?_) | refine And.intro (And.intro rfl (chk_rowI _ _ _ _)) ?_ | refine br_t (by omega) ?_ | refine br_f (by omega) ?_ | refine bs_t (by omega) ?_ | refine bs_f (by omega) ?_ | refine fun (K' : K3) hK' => ?_ | (refine hK' _ _ _ ?_; clear hK' K') | refine draw_auto tok mixed (by kernel_rfl) ?_ | refine bs_bt (Eq.refl true) ?_ | refine bs_bf (Eq.refl false) ?_ | refine br_bt (Eq.refl true) ?_ | refine br_bf (Eq.refl false) ?_ | refine CallK.m ?_ | refine Two.l ?_ | refine And.intro (And.intro rfl rfl) ?_)
              refine ⟨(x1, ag), [], ⟨g2, fun h => ?_, g5⟩, ?_, ?_⟩
              · simp only at h
                obtain ⟨q1, q2⟩ := g4 h
                simp only
                rw [q1]; exact hblk0 x q2
              · simp only
                cases ag with
                | true => have := g3 rfl; simp only [Bool.toNat_true]; omega
                | false => have := (g4 rfl).1; simp only [Bool.toNat_true, Bool.toNat_false]; omega
              refine ⟨?_, ?_, rfl, rfl, by first | exact Nat.le_of_ble_eq_true rfl | exact Nat.le_refl _ | omega⟩
              · repeat (first | exact trivial | (refine And.intro (covS_syn (by first | rfl | (refine congrArg some (congrArg V.i ?_); omega)) rfl (by first | exact trivial | exact Nat.le_of_ble_eq_true rfl | exact hy | (first | ((show ∀ p ∈ (_ : List (Nat × Nat)), p.1 < _); decide) | exact (fun p hp => nomatch hp)) | (show (_ : Nat) < _; omega))) ?_) | (refine And.intro (covS_bool rfl rfl (by first | rfl | rfl)) ?_))
              · repeat (first | exact trivial | (refine And.intro (covE_id (Nat.le_of_ble_eq_true rfl) (by first | exact wf_ints _ _ | exact wf_bools _ _ | first | exact wf_us _ _ | exact wf_cells _ _ | exact wf_ints _ _ | (simp [C.wf]; done) | simp [C.wf]) rfl (by rfl)) ?_))
    · obtain rfl : k = n := by omega
      repeat ((conv => whnf); first | (refine And.intro (by first | omega | exact Nat.le_of_ble_eq_true rfl | (dsimp only [inK]; omega) | (simp only [mulS_eq]; omega) | (simp only [mulS_eq, setL_length]; omega) | (simp only [setL_length]; omega) | (simp only [setL_length, List.length_map]; omega) | (exact ⟨by omega, by omega, by first | exact Nat.le_of_ble_eq_true rfl | (dsimp only; omega) | (simp only [setL_length]; omega) | (simp only [setL_length, List.length_map]; omega)⟩) | (exact ⟨by omega, by first | rfl | omega, by omega, Nat.le_of_ble_eq_true rfl, Nat.le_of_ble_eq_true rfl⟩) | (exact ⟨rfl, rfl, rfl, Nat.le_of_ble_eq_true rfl, by first | rfl | omega | exact Nat.le_of_ble_eq_true rfl | (dsimp only; omega) | (simp; done) | (simp; omega), by first | rfl | omega | exact Nat.le_of_ble_eq_true rfl | (dsimp only; omega) | (simp; done) | (simp; omega), by omega, Nat.le_of_ble_eq_true rfl⟩) | exact Eq.refl true) ?_) | refine Exists.intro _ (And.intro rfl ?_) | refine And.intro (And.intro rfl (chk_rowI _ _ _ _)) ?_ | refine br_t (by omega) ?_ | refine br_f (by omega) ?_ | refine bs_t (by omega) ?_ | refine bs_f (by omega) ?_ | refine fun (K' : K3) hK' => ?_ | (refine hK' _ _ _ ?_; clear hK' K') | refine draw_auto tok mixed (by kernel_rfl) ?_ | refine bs_bt (Eq.refl true) ?_ | refine bs_bf (Eq.refl false) ?_ | refine br_bt (Eq.refl true) ?_ | refine br_bf (Eq.refl false) ?_ | refine CallK.m ?_ | refine Two.l ?_ | refine And.intro (And.intro rfl rfl) ?_)
      exact rfl
end Go.Proofs.YtijnimgmpocmaaaDoor

/- Waste: what the laws share: Wide, Awake. -/
namespace Go.Proofs.YtijnimgmpocmaaaDoor
open Go.RowKit
set_option linter.unusedVariables false
set_option linter.unusedSimpArgs false
theorem wide_spec (N : Int) (n : Nat) (hn : n < 9223372036854775808) : Spec Tryd.prog 14 [V.agg [C.i N, C.sl 0 n]] [] 1 (Is (V.c (.bool (decide ((n : Int) > 60))))) := by
  refine Spec.of tok Tryd.func14 rfl rfl rfl fun n0 cx => vc_ok tok ?_
  repeat ((conv => whnf); first | (refine And.intro (by first | omega | exact Nat.le_of_ble_eq_true rfl | (dsimp only [inK]; omega) | (simp only [mulS_eq]; omega) | (simp only [mulS_eq, setL_length]; omega) | (simp only [setL_length]; omega) | (simp only [setL_length, List.length_map]; omega) | (exact ⟨by omega, by omega, by first | exact Nat.le_of_ble_eq_true rfl | (dsimp only; omega) | (simp only [setL_length]; omega) | (simp only [setL_length, List.length_map]; omega)⟩) | (exact ⟨by omega, by first | rfl | omega, by omega, Nat.le_of_ble_eq_true rfl, Nat.le_of_ble_eq_true rfl⟩) | (exact ⟨rfl, rfl, rfl, Nat.le_of_ble_eq_true rfl, by first | rfl | omega | exact Nat.le_of_ble_eq_true rfl | (dsimp only; omega) | (simp; done) | (simp; omega), by first | rfl | omega | exact Nat.le_of_ble_eq_true rfl | (dsimp only; omega) | (simp; done) | (simp; omega), by omega, Nat.le_of_ble_eq_true rfl⟩) | exact Eq.refl true) ?_) | refine Exists.intro _ (And.intro rfl ?_) | refine And.intro (And.intro rfl (chk_rowI _ _ _ _)) ?_ | refine br_t (by omega) ?_ | refine br_f (by omega) ?_ | refine bs_t (by omega) ?_ | refine bs_f (by omega) ?_ | refine fun (K' : K3) hK' => ?_ | (refine hK' _ _ _ ?_; clear hK' K') | refine draw_auto tok mixed (by kernel_rfl) ?_ | refine bs_bt (Eq.refl true) ?_ | refine bs_bf (Eq.refl false) ?_ | refine br_bt (Eq.refl true) ?_ | refine br_bf (Eq.refl false) ?_ | refine CallK.m ?_ | refine Two.l ?_ | refine And.intro (And.intro rfl rfl) ?_)
  intro ρ; rfl
theorem three_knd : Knd 3 [(0, 1), (1, 2), (0, 2)] := ⟨by omega, fun p hp => by simp only [List.mem_cons, List.not_mem_nil, or_false] at hp; rcases hp with rfl | rfl | rfl <;> simp, by decide⟩
theorem three_cnt : cntO 3 [(0, 1), (1, 2), (0, 2)] 3 = 6 := by decide +kernel
set_option maxRecDepth 10000 in
theorem awake_spec : Spec Tryd.prog 16 [] [] 0 (Is (V.c (.bool true))) := by
  have hc := count_spec 3 3 [(0, 1), (1, 2), (0, 2)] three_knd
  rw [if_pos (by omega), three_cnt] at hc
  have hc : Spec Tryd.prog 25 [V.agg [C.i 3, C.sl 0 3], V.i 3] [⟨0, .ro 2, [C.i 0, C.i 1, C.i 1, C.i 2, C.i 0, C.i 2]⟩] 1 (Is (V.tup [A.c (C.i 6), A.c (C.i 0)])) := hc
  refine Spec.of tok Tryd.func16 rfl rfl rfl fun n0 cx => vc_ok tok ?_
  repeat ((conv => whnf); first | (refine And.intro (by first | omega | exact Nat.le_of_ble_eq_true rfl | (dsimp only [inK]; omega) | (simp only [mulS_eq]; omega) | (simp only [mulS_eq, setL_length]; omega) | (simp only [setL_length]; omega) | (simp only [setL_length, List.length_map]; omega) | (exact ⟨by omega, by omega, by first | exact Nat.le_of_ble_eq_true rfl | (dsimp only; omega) | (simp only [setL_length]; omega) | (simp only [setL_length, List.length_map]; omega)⟩) | (exact ⟨by omega, by first | rfl | omega, by omega, Nat.le_of_ble_eq_true rfl, Nat.le_of_ble_eq_true rfl⟩) | (exact ⟨rfl, rfl, rfl, Nat.le_of_ble_eq_true rfl, by first | rfl | omega | exact Nat.le_of_ble_eq_true rfl | (dsimp only; omega) | (simp; done) | (simp; omega), by first | rfl | omega | exact Nat.le_of_ble_eq_true rfl | (dsimp only; omega) | (simp; done) | (simp; omega), by omega, Nat.le_of_ble_eq_true rfl⟩) | exact Eq.refl true) ?_) | refine Exists.intro _ (And.intro rfl ?_) | refine And.intro (And.intro rfl (chk_rowI _ _ _ _)) ?_ | refine br_t (by omega) ?_ | refine br_f (by omega) ?_ | refine bs_t (by omega) ?_ | refine bs_f (by omega) ?_ | refine fun (K' : K3) hK' => ?_ | (refine hK' _ _ _ ?_; clear hK' K') | refine draw_auto tok mixed (by kernel_rfl) ?_ | refine CallK.val (R := [(0, some 0)]) hc (by kernel_rfl) rfl (by simp [V.wf, A.wf, C.wf, V.i]) ⟨roE_f (k := .vec 59 2) (flat_c [(0, 1), (1, 2), (0, 2)]) (l := 0) rfl (by omega) rfl (.inr rfl), trivial⟩ rfl rfl (by simp [V.wf, A.wf, C.wf]) ?_ | refine bs_bt (Eq.refl true) ?_ | refine bs_bf (Eq.refl false) ?_ | refine br_bt (Eq.refl true) ?_ | refine br_bf (Eq.refl false) ?_ | refine CallK.m ?_ | refine Two.l ?_ | refine And.intro (And.intro rfl rfl) ?_)
  intro ρ; rfl
section
variable {n0 nx : Nat} {L : List E} {K : V → List E → Nat → Prop}
theorem awake_k (hK : K (V.c (.bool true)) [] nx) : CallK Tryd.prog n0 16 [] L nx K :=
  CallK.val (R := []) awake_spec (by kernel_rfl) rfl (by simp) trivial rfl rfl trivial hK
theorem wide_k {N : Int} {n a : Nat} (hn : n < 9223372036854775808) (hK : K (V.c (.bool (decide ((n : Int) > 60)))) [] nx) : CallK Tryd.prog n0 14 [V.agg [C.i N, C.sl a n]] L nx K :=
  CallK.val (R := [(0, some a)]) (wide_spec N n hn) (by kernel_rfl) rfl (by simp [V.wf, A.wf, C.wf]) trivial rfl rfl trivial hK
end
end Go.Proofs.YtijnimgmpocmaaaDoor

/- Waste: the law of the fillings. -/
namespace Go.Proofs.YtijnimgmpocmaaaDoor
open Go.RowKit
set_option linter.unusedVariables false
set_option linter.unusedSimpArgs false
theorem long_spec (m : Nat) (hm : m < 9223372036854775808) : Spec Tryd.prog 15 [V.c (.sl 0 m)] [] 1 (Is (V.c (.bool (decide ((m : Int) > 60))))) := by
  refine Spec.of tok Tryd.func15 rfl rfl rfl fun n0 cx => vc_ok tok ?_
  repeat ((conv => whnf); first | (refine And.intro (by first | omega | exact Nat.le_of_ble_eq_true rfl | (dsimp only [inK]; omega) | (simp only [mulS_eq]; omega) | (simp only [mulS_eq, setL_length]; omega) | (simp only [setL_length]; omega) | (simp only [setL_length, List.length_map]; omega) | (exact ⟨by omega, by omega, by first | exact Nat.le_of_ble_eq_true rfl | (dsimp only; omega) | (simp only [setL_length]; omega) | (simp only [setL_length, List.length_map]; omega)⟩) | (exact ⟨by omega, by first | rfl | omega, by omega, Nat.le_of_ble_eq_true rfl, Nat.le_of_ble_eq_true rfl⟩) | (exact ⟨rfl, rfl, rfl, Nat.le_of_ble_eq_true rfl, by first | rfl | omega | exact Nat.le_of_ble_eq_true rfl | (dsimp only; omega) | (simp; done) | (simp; omega), by first | rfl | omega | exact Nat.le_of_ble_eq_true rfl | (dsimp only; omega) | (simp; done) | (simp; omega), by omega, Nat.le_of_ble_eq_true rfl⟩) | exact Eq.refl true) ?_) | refine Exists.intro _ (And.intro rfl ?_) | refine And.intro (And.intro rfl (chk_rowI _ _ _ _)) ?_ | refine br_t (by omega) ?_ | refine br_f (by omega) ?_ | refine bs_t (by omega) ?_ | refine bs_f (by omega) ?_ | refine fun (K' : K3) hK' => ?_ | (refine hK' _ _ _ ?_; clear hK' K') | refine draw_auto tok mixed (by kernel_rfl) ?_ | refine bs_bt (Eq.refl true) ?_ | refine bs_bf (Eq.refl false) ?_ | refine br_bt (Eq.refl true) ?_ | refine br_bf (Eq.refl false) ?_ | refine CallK.m ?_ | refine Two.l ?_ | refine And.intro (And.intro rfl rfl) ?_)
  intro ρ; rfl
section
variable {n0 nx : Nat} {L : List E} {K : V → List E → Nat → Prop}
theorem long_k {m a : Nat} (hm : m < 9223372036854775808) (hK : K (V.c (.bool (decide ((m : Int) > 60)))) [] nx) : CallK Tryd.prog n0 15 [V.c (.sl a m)] L nx K :=
  CallK.val (R := [(0, some a)]) (long_spec m hm) (by kernel_rfl) rfl (by simp [V.wf, A.wf, C.wf]) trivial rfl rfl trivial hK
end
section
variable (N : Int) (ps : List Cell) (l : List Int)
end
section
variable (n : Nat) (qs : List (Nat × Nat)) (l : List Int) (hk : Knd n qs) (h2 : ¬ (l.length : Int) > 60)
include hk h2
end
end Go.Proofs.YtijnimgmpocmaaaDoor

/- Waste: the document's longest list, walked. -/
namespace Go.Proofs.YtijnimgmpocmaaaDoor
open Go.RowKit
set_option linter.unusedVariables false
set_option linter.unusedSimpArgs false
end Go.Proofs.YtijnimgmpocmaaaDoor

/- Waste: the law of lists. -/
namespace Go.Proofs.YtijnimgmpocmaaaDoor
open Go.RowKit
set_option linter.unusedVariables false
set_option linter.unusedSimpArgs false
theorem sameI_nil : Spec Tryd.prog 44 [V.c .nil, V.c .nil] [] 0 (Is (V.c (.bool true))) := by
  refine Spec.of tok Tryd.func44 rfl rfl rfl fun n0 cx => vc_ok tok ?_
  repeat ((conv => whnf); first | refine br_f (by omega) ?_ | refine fun (K' : K3) hK' => ?_ | (refine hK' _ _ _ ?_; clear hK' K'))
  refine Tri.loop (γ := Nat) (fun k => k = 0) (fun k => [(12, V.i 0), (13, V.i 0)])
    (fun k => []) 0 (fun k => 0) 0 (R0 := []) ?_ ?_ ?_
  · rfl
  · skip
    refine ⟨?_, ?_, rfl, rfl, by exact Nat.le_of_ble_eq_true rfl⟩
    · repeat (first | exact trivial | refine And.intro (covS_syn (by rfl) rfl (by exact trivial)) ?_)
    · repeat (exact trivial)
  · intro k hk
    refine vc_ok tok ?_
    repeat ((conv => whnf); first | refine br_f (by omega) ?_ | refine fun (K' : K3) hK' => ?_ | (refine hK' _ _ _ ?_; clear hK' K'))
    intro ρ; rfl
theorem sameN_spec (l : List Nat) (hl : l.length ≤ 1000) : Spec Tryd.prog 44 [V.c (.sl 0 l.length), V.c (.sl 1 l.length)] [⟨0, .ro 0, (natI l).map C.i⟩, ⟨1, .ro 0, (natI l).map C.i⟩] 2 (Is (V.c (.bool true))) := by
  have h := sameInts_spec (natI l) (natI l) (by rw [natI_len]; omega) (by rw [natI_len]; omega)
  rw [decide_eq_true rfl, natI_len] at h
  exact h
section
variable (N : Int) (ps : List Cell)
end
end Go.Proofs.YtijnimgmpocmaaaDoor

/- Waste: rows of numbers that came in, with the room behind them. -/
namespace Go.Proofs.YtijnimgmpocmaaaDoor
open Go.RowKit
set_option linter.unusedVariables false
set_option linter.unusedSimpArgs false
open Go.ChangeShapes Go.WideShapes Go.ChangeAt Go.RowKit Go.Deep Go.Joins
def IntsC (W : World) (ao : Option Addr) (c : Nat) (l : List Int) : Prop := IntsAt W ao l ∧ l.length ≤ c
section
variable {H : Type} {enc : TypeId × Value → H} {W : World} {sp : Nat → Bool}
theorem open_ints25C {n : Nat} {v : Value} {x : DataW H × List MemPlace} (h : DataW.trod enc Tryd.prog W 0 sp true n 25 [v] = some x) :
    ∃ (ao : Option Addr) (c : Nat) (l : List Int), v = .slice ao l.length c ∧ IntsC W ao c l := by
  rcases open_slice1 Tryd.underlying25 (by kernel_rfl) h with ⟨hcs, _⟩ | ⟨a, len, cap, m, f, V, D, Pl, hcs, _, hl, hmax, hm, _, hx⟩
  · cases hcs
    exact ⟨none, 0, [], rfl, ⟨fun hne => absurd rfl hne, by simp⟩, by simp⟩
  · cases hcs
    have hlm : len ≤ m := by rw [hm]; split <;> omega
    have hlen : len < 9223372036854775808 := by unfold maxLen at hmax; omega
    obtain ⟨b, hb⟩ := choose_lt (α := Int) (n := len) (p := fun i b => V i = .int .i64 b) (fun i hi => by
      obtain ⟨b, hb, _, hw⟩ := DataW.trod_int Tryd.underlying3 (hx i (by omega)).2
      exact ⟨b, by simpa using hb⟩)
    refine ⟨some a, cap, (List.range len).map b, by simp, ⟨ro_at (fun i hi => ?_), by simpa using hlen⟩, by simpa using hl⟩
    have hi' : i < len := by simpa using hi
    rw [(hx i (by omega)).1, hb i hi']
    simp [List.getD_eq_getElem?_getD, hi']
set_option maxRecDepth 100000 in
theorem open_intsvC {v : Value} {d : DataW H} {p : List MemPlace} {r : Reach} {b0 : Nat} (hv : Value.okWide Tryd.prog W r b0 25 v) (h : DataW.Trod enc Tryd.prog W 0 sp true 25 v d p) :
    ∃ (ao : Option Addr) (c : Nat) (l : List Int), v = .slice ao l.length c ∧ IntsC W ao c l := by
  obtain ⟨fuel, hf⟩ := h
  obtain ⟨ao, n, cp, rfl⟩ := okWide_slice Tryd.underlying25 hv
  simp only [Value.cells] at hf
  exact open_ints25C hf
end
theorem ent_ints1 {W : World} {ρ : Env} {l : List Int} {k nx c : Nat} {ao : Option Addr} (h : IntsC W ao c l) (hk : k < nx) (hr : ρ k = (ao, c)) : (∃ z, (Kd.ro 1) = .ro z ∧ (z = 0 ∨ (l.map C.i).length ≤ (ρ k).2 * z)) ∧ k < nx ∧ (∀ c ∈ l.map C.i, c.wf nx) ∧ RoAt W (ρ k).1 ((l.map C.i).map (C.den ρ)) := by
  refine ⟨⟨1, rfl, .inr ?_⟩, hk, wf_ints _ _, ?_⟩
  · rw [hr, List.length_map]; have := h.2; simp only; omega
  · rw [List.map_map, hr]; exact h.1.1
theorem hp_ki1 {W : World} {l : List Int} {ps : List Cell} {ao bo : Option Addr} {c d : Nat} (h : CellsAt W ao c ps) (h2 : IntsC W bo d l) (hF : Fct W.heap.size W) : Hp W.heap.size (envL [(ao, c), (bo, d)]) W [⟨0, .ro 2, cellC ps⟩, ⟨1, .ro 1, l.map C.i⟩] 2 := by
  refine Hp.rosz (fun e he => ?_) rfl hF
  simp only [List.mem_cons, List.not_mem_nil, or_false] at he
  rcases he with rfl | rfl
  · exact ent_cells h (by show 0 < 2; omega) rfl
  · exact ent_ints1 h2 (by show 1 < 2; omega) rfl
end Go.Proofs.YtijnimgmpocmaaaDoor

/- Waste: the law of the skips. -/
namespace Go.Proofs.YtijnimgmpocmaaaDoor
open Go.RowKit
set_option linter.unusedVariables false
set_option linter.unusedSimpArgs false
theorem sameZ_spec (r : List Int) (n : Nat) (hl : r.length = n) (hn : n ≤ 1000) : Spec Tryd.prog 44 [V.c (.sl 0 n), V.c (.sl 1 n)] [⟨0, .ro 0, r.map C.i⟩, ⟨1, .ro 0, r.map C.i⟩] 2 (Is (V.c (.bool true))) := by
  have h := sameInts_spec r r (by omega) (by omega)
  rw [decide_eq_true rfl, hl] at h
  exact h
set_option maxRecDepth 10000 in
theorem Fewest_err (N : Int) (ps : List Cell) (hl : ps.length ≤ 100) (he : okK' N ps = false) : Spec Tryd.prog 31 [V.agg [C.i N, C.sl 0 ps.length]] [⟨0, .ro 2, cellC ps⟩] 1 (Is (V.tup [A.c (C.i 0), A.c (C.i 70)])) := by
  have hnt := newTable_no N ps hl he
  have hE : (70 : Int) ≠ 0 := by omega
  refine Spec.of tok Tryd.func31 rfl rfl rfl fun n0 cx => vc_ok tok ?_
  repeat ((conv => whnf); first | (refine And.intro (by first | omega | exact Nat.le_of_ble_eq_true rfl | (dsimp only [inK]; omega) | (simp only [mulS_eq]; omega) | (simp only [mulS_eq, setL_length]; omega) | (simp only [setL_length]; omega) | (simp only [setL_length, List.length_map]; omega) | (exact ⟨by omega, by omega, by first | exact Nat.le_of_ble_eq_true rfl | (dsimp only; omega) | (simp only [setL_length]; omega) | (simp only [setL_length, List.length_map]; omega)⟩) | (exact ⟨by omega, by first | rfl | omega, by omega, Nat.le_of_ble_eq_true rfl, Nat.le_of_ble_eq_true rfl⟩) | (exact ⟨rfl, rfl, rfl, Nat.le_of_ble_eq_true rfl, by first | rfl | omega | exact Nat.le_of_ble_eq_true rfl | (dsimp only; omega) | (simp; done) | (simp; omega), by first | rfl | omega | exact Nat.le_of_ble_eq_true rfl | (dsimp only; omega) | (simp; done) | (simp; omega), by omega, Nat.le_of_ble_eq_true rfl⟩) | exact Eq.refl true) ?_) | refine Exists.intro _ (And.intro rfl ?_) | refine And.intro (And.intro rfl (chk_rowI _ _ _ _)) ?_ | refine br_t (by omega) ?_ | refine br_f (by omega) ?_ | refine bs_t (by omega) ?_ | refine bs_f (by omega) ?_ | refine fun (K' : K3) hK' => ?_ | (refine hK' _ _ _ ?_; clear hK' K') | refine draw_auto tok mixed (by kernel_rfl) ?_ | (refine CallK.val (R := []) hnt (by kernel_rfl) rfl (by simp [V.wf, A.wf, C.wf, V.i]) ⟨roE_f (flat_c _) (l := 0) rfl (by omega) rfl (.inr rfl), trivial⟩ rfl rfl (by first | trivial | simp [V.wf, A.wf, C.wf]) ?_) | refine bs_t hE ?_ | refine br_t hE ?_ | refine bs_bt (Eq.refl true) ?_ | refine bs_bf (Eq.refl false) ?_ | refine br_bt (Eq.refl true) ?_ | refine br_bf (Eq.refl false) ?_ | refine CallK.m ?_ | refine Two.l ?_ | refine And.intro (And.intro rfl rfl) ?_)
  intro ρ; rfl
section
variable (N z : Int) (ps : List Cell) (l : List Int)
theorem skips_long (hps : ps.length < 9223372036854775808) (hll : l.length < 9223372036854775808) (h : (ps.length : Int) > 60 ∨ (l.length : Int) > 60) :
    Spec Tryd.prog 12 [V.agg [C.i N, C.sl 0 ps.length], V.i z, V.c (.sl 1 l.length)] [⟨0, .ro 2, cellC ps⟩, ⟨1, .ro 1, l.map C.i⟩] 2 (Is (V.c (.bool true))) := by
  refine Spec.of tok Tryd.func12 rfl rfl rfl fun n0 cx => vc_ok tok ?_
  by_cases h1 : (ps.length : Int) > 60
  · repeat ((conv => whnf); first | (refine And.intro (by first | omega | exact Nat.le_of_ble_eq_true rfl | (dsimp only [inK]; omega) | (simp only [mulS_eq]; omega) | (simp only [mulS_eq, setL_length]; omega) | (simp only [setL_length]; omega) | (simp only [setL_length, List.length_map]; omega) | (exact ⟨by omega, by omega, by first | exact Nat.le_of_ble_eq_true rfl | (dsimp only; omega) | (simp only [setL_length]; omega) | (simp only [setL_length, List.length_map]; omega)⟩) | (exact ⟨by omega, by first | rfl | omega, by omega, Nat.le_of_ble_eq_true rfl, Nat.le_of_ble_eq_true rfl⟩) | (exact ⟨rfl, rfl, rfl, Nat.le_of_ble_eq_true rfl, by first | rfl | omega | exact Nat.le_of_ble_eq_true rfl | (dsimp only; omega) | (simp; done) | (simp; omega), by first | rfl | omega | exact Nat.le_of_ble_eq_true rfl | (dsimp only; omega) | (simp; done) | (simp; omega), by omega, Nat.le_of_ble_eq_true rfl⟩) | exact Eq.refl true) ?_) | refine Exists.intro _ (And.intro rfl ?_) | refine And.intro (And.intro rfl (chk_rowI _ _ _ _)) ?_ | refine br_t (by omega) ?_ | refine br_f (by omega) ?_ | refine bs_t (by omega) ?_ | refine bs_f (by omega) ?_ | refine fun (K' : K3) hK' => ?_ | (refine hK' _ _ _ ?_; clear hK' K') | refine draw_auto tok mixed (by kernel_rfl) ?_ | refine wide_k hps ?_ | refine bs_t h1 ?_ | refine br_t h1 ?_ | refine awake_k ?_ | refine bs_bt (Eq.refl true) ?_ | refine bs_bf (Eq.refl false) ?_ | refine br_bt (Eq.refl true) ?_ | refine br_bf (Eq.refl false) ?_ | refine CallK.m ?_ | refine Two.l ?_ | refine And.intro (And.intro rfl rfl) ?_)
    intro ρ; rfl
  · have h2 : (l.length : Int) > 60 := by omega
    repeat ((conv => whnf); first | (refine And.intro (by first | omega | exact Nat.le_of_ble_eq_true rfl | (dsimp only [inK]; omega) | (simp only [mulS_eq]; omega) | (simp only [mulS_eq, setL_length]; omega) | (simp only [setL_length]; omega) | (simp only [setL_length, List.length_map]; omega) | (exact ⟨by omega, by omega, by first | exact Nat.le_of_ble_eq_true rfl | (dsimp only; omega) | (simp only [setL_length]; omega) | (simp only [setL_length, List.length_map]; omega)⟩) | (exact ⟨by omega, by first | rfl | omega, by omega, Nat.le_of_ble_eq_true rfl, Nat.le_of_ble_eq_true rfl⟩) | (exact ⟨rfl, rfl, rfl, Nat.le_of_ble_eq_true rfl, by first | rfl | omega | exact Nat.le_of_ble_eq_true rfl | (dsimp only; omega) | (simp; done) | (simp; omega), by first | rfl | omega | exact Nat.le_of_ble_eq_true rfl | (dsimp only; omega) | (simp; done) | (simp; omega), by omega, Nat.le_of_ble_eq_true rfl⟩) | exact Eq.refl true) ?_) | refine Exists.intro _ (And.intro rfl ?_) | refine And.intro (And.intro rfl (chk_rowI _ _ _ _)) ?_ | refine br_t (by omega) ?_ | refine br_f (by omega) ?_ | refine bs_t (by omega) ?_ | refine bs_f (by omega) ?_ | refine fun (K' : K3) hK' => ?_ | (refine hK' _ _ _ ?_; clear hK' K') | refine draw_auto tok mixed (by kernel_rfl) ?_ | refine wide_k hps ?_ | refine bs_f h1 ?_ | refine br_f h1 ?_ | refine long_k hll ?_ | refine bs_t h2 ?_ | refine br_t h2 ?_ | refine awake_k ?_ | refine bs_bt (Eq.refl true) ?_ | refine bs_bf (Eq.refl false) ?_ | refine br_bt (Eq.refl true) ?_ | refine br_bf (Eq.refl false) ?_ | refine CallK.m ?_ | refine Two.l ?_ | refine And.intro (And.intro rfl rfl) ?_)
    intro ρ; rfl
set_option maxRecDepth 10000 in
set_option maxHeartbeats 8000000 in
theorem skips_no (h1 : ¬ (ps.length : Int) > 60) (h2 : ¬ (l.length : Int) > 60) (hv : okK' N ps = false) :
    Spec Tryd.prog 12 [V.agg [C.i N, C.sl 0 ps.length], V.i z, V.c (.sl 1 l.length)] [⟨0, .ro 2, cellC ps⟩, ⟨1, .ro 1, l.map C.i⟩] 2 (Is (V.c (.bool true))) := by
  have k1 := Fewest_err N ps (by omega) hv
  have k2 := rFewest_err N ps (by omega) hv
  have k3 := First_err N z ps (by omega) hv
  have k4 := rFirst_err N z ps (by omega) hv
  have k5 := Line_err N ps l (by omega) hv
  have k6 := rLine_err N ps l (by omega) hv
  refine Spec.of tok Tryd.func12 rfl rfl rfl fun n0 cx => vc_ok tok ?_
  repeat ((conv => whnf); first | (refine And.intro (by first | omega | exact Nat.le_of_ble_eq_true rfl | (dsimp only [inK]; omega) | (simp only [mulS_eq]; omega) | (simp only [mulS_eq, setL_length]; omega) | (simp only [setL_length]; omega) | (simp only [setL_length, List.length_map]; omega) | (exact ⟨by omega, by omega, by first | exact Nat.le_of_ble_eq_true rfl | (dsimp only; omega) | (simp only [setL_length]; omega) | (simp only [setL_length, List.length_map]; omega)⟩) | (exact ⟨by omega, by first | rfl | omega, by omega, Nat.le_of_ble_eq_true rfl, Nat.le_of_ble_eq_true rfl⟩) | (exact ⟨rfl, rfl, rfl, Nat.le_of_ble_eq_true rfl, by first | rfl | omega | exact Nat.le_of_ble_eq_true rfl | (dsimp only; omega) | (simp; done) | (simp; omega), by first | rfl | omega | exact Nat.le_of_ble_eq_true rfl | (dsimp only; omega) | (simp; done) | (simp; omega), by omega, Nat.le_of_ble_eq_true rfl⟩) | exact Eq.refl true) ?_) | refine Exists.intro _ (And.intro rfl ?_) | refine And.intro (And.intro rfl (chk_rowI _ _ _ _)) ?_ | refine br_t (by omega) ?_ | refine br_f (by omega) ?_ | refine bs_t (by omega) ?_ | refine bs_f (by omega) ?_ | refine fun (K' : K3) hK' => ?_ | (refine hK' _ _ _ ?_; clear hK' K') | refine draw_auto tok mixed (by kernel_rfl) ?_ | refine wide_k (by omega) ?_ | refine bs_f h1 ?_ | refine br_f h1 ?_ | refine long_k (by omega) ?_ | refine bs_f h2 ?_ | refine br_f h2 ?_ | (refine CallK.val (R := []) k1 (by kernel_rfl) rfl (by simp [V.wf, A.wf, C.wf, V.i]) ⟨roE_f (flat_c _) (l := 0) rfl (by omega) rfl (.inr rfl), trivial⟩ rfl rfl (by first | trivial | simp [V.wf, A.wf, C.wf]) ?_) | (refine CallK.val (R := []) k2 (by kernel_rfl) rfl (by simp [V.wf, A.wf, C.wf, V.i]) ⟨roE_f (flat_c _) (l := 0) rfl (by omega) rfl (.inr rfl), trivial⟩ rfl rfl (by first | trivial | simp [V.wf, A.wf, C.wf]) ?_) | (refine CallK.val (R := []) k3 (by kernel_rfl) rfl (by simp [V.wf, A.wf, C.wf, V.i]) ⟨roE_f (flat_c _) (l := 0) rfl (by omega) rfl (.inr rfl), trivial⟩ rfl rfl (by first | trivial | simp [V.wf, A.wf, C.wf]) ?_) | (refine CallK.val (R := []) k4 (by kernel_rfl) rfl (by simp [V.wf, A.wf, C.wf, V.i]) ⟨roE_f (flat_c _) (l := 0) rfl (by omega) rfl (.inr rfl), trivial⟩ rfl rfl (by first | trivial | simp [V.wf, A.wf, C.wf]) ?_) | (refine CallK.val (R := []) k5 (by kernel_rfl) rfl (by simp [V.wf, A.wf, C.wf, V.i]) ⟨roE_f (flat_c _) (l := 0) rfl (by omega) rfl (.inr rfl), roE_f (flat_i _) (l := 1) rfl (by omega) rfl (.inl rfl), trivial⟩ rfl rfl (by first | trivial | simp [V.wf, A.wf, C.wf]) ?_) | (refine CallK.val (R := []) k6 (by kernel_rfl) rfl (by simp [V.wf, A.wf, C.wf, V.i]) ⟨roE_f (flat_c _) (l := 0) rfl (by omega) rfl (.inr rfl), roE_f (flat_i _) (l := 1) rfl (by omega) rfl (.inr rfl), trivial⟩ rfl rfl (by first | trivial | simp [V.wf, A.wf, C.wf]) ?_) | (refine CallK.val (R := []) sameI_nil (by kernel_rfl) rfl (by simp [V.wf, A.wf, C.wf, V.i]) trivial rfl rfl (by first | trivial | simp [V.wf, A.wf, C.wf]) ?_) | refine awake_k ?_ | refine bs_bt (Eq.refl true) ?_ | refine bs_bf (Eq.refl false) ?_ | refine br_bt (Eq.refl true) ?_ | refine br_bf (Eq.refl false) ?_ | refine CallK.m ?_ | refine Two.l ?_ | refine And.intro (And.intro rfl rfl) ?_)
  intro ρ; rfl
end
/-- What First and Line answer. -/
def Fst (n : Nat) (qs : List (Nat × Nat)) (z : Int) : Prop := (∃ e : Int, Spec Tryd.prog 48 [V.agg [C.i n, C.sl 0 (castP qs).length], V.i z] [⟨0, .ro 2, cellC (castP qs)⟩] 1 (Is (V.tup [A.c .nil, A.c (C.i e)])) ∧ Spec Tryd.prog 51 [V.agg [C.i n, C.sl 0 (castP qs).length], V.i z] [⟨0, .ro 2, cellC (castP qs)⟩] 1 (Is (V.tup [A.c .nil, A.c (C.i e)]))) ∨
  ∃ r : List Nat, r.length = n ∧ Spec Tryd.prog 48 [V.agg [C.i n, C.sl 0 (castP qs).length], V.i z] [⟨0, .ro 2, cellC (castP qs)⟩] 1 (fun v L' _ => rowI r v L') ∧ Spec Tryd.prog 51 [V.agg [C.i n, C.sl 0 (castP qs).length], V.i z] [⟨0, .ro 2, cellC (castP qs)⟩] 1 (fun v L' _ => rowI r v L')
theorem fst_of (n : Nat) (qs : List (Nat × Nat)) (hk : Knd n qs) (z : Int) : Fst n qs z := by
  by_cases hz : 0 ≤ z ∧ z ≤ 20
  · obtain ⟨s, rfl⟩ : ∃ s : Nat, z = s := ⟨z.toNat, by omega⟩
    cases h : frst (symC (clP qs)) s n [] with
    | none => exact .inl ⟨5, First_none n s qs hk (by omega) h, rFirst_none n s qs hk (by omega) h⟩
    | some r =>
      have := frst_sound h (rgt_nil _) (by simp)
      exact .inr ⟨r, by simpa using this.1, First_some n s qs hk (by omega) r h, rFirst_some n s qs hk (by omega) r h⟩
  · exact .inl ⟨2, First_arg n z qs hk hz, rFirst_arg n z qs hk hz⟩
theorem line_no (n : Nat) (qs : List (Nat × Nat)) (hk : Knd n qs) (l : List Int) (hl : l.length ≤ 1000) (hb : ordB n l = false) : Spec Tryd.prog 52 [V.agg [C.i n, C.sl 0 (castP qs).length], V.c (.sl 1 l.length)] [⟨0, .ro 2, cellC (castP qs)⟩, ⟨1, .ro 0, l.map C.i⟩] 2 (Is (V.tup [A.c .nil, A.c (C.i 2)])) := by
  by_cases h : l.length = n
  · exact Line_srt n qs hk l h ((srtB_ord hk.rng.1 h).trans hb)
  · exact Line_len n qs hk l hl h
section
variable (n : Nat) (z : Int) (qs : List (Nat × Nat)) (hk : Knd n qs)
include hk
set_option maxRecDepth 10000 in
set_option maxHeartbeats 16000000 in
theorem skips_arg (l : List Int) (h2 : ¬ (l.length : Int) > 60) (hb : ordB n l = false) :
    Spec Tryd.prog 12 [V.agg [C.i n, C.sl 0 (castP qs).length], V.i z, V.c (.sl 1 l.length)] [⟨0, .ro 2, cellC (castP qs)⟩, ⟨1, .ro 1, l.map C.i⟩] 2 (Is (V.c (.bool true))) := by
  have hpl := castP_len qs
  have hql := knd_len hk
  have hn := hk.rng
  have h1 : ¬ ((castP qs).length : Int) > 60 := by omega
  have k1 := Fewest_spec n qs hk
  have k2 := rFewest_spec n qs hk
  obtain ⟨f, hf⟩ : ∃ f, f = fewI (tabS n qs) n := ⟨_, rfl⟩
  rw [← hf] at k1 k2
  have q1 : ¬ f ≠ f := fun h => h rfl
  have k5 := line_no n qs hk l (by omega) hb
  have k6 := rLine_arg n qs hk l (by omega) hb
  rcases fst_of n qs hk z with ⟨e, k3, k4⟩ | ⟨r, hr, k3, k4⟩
  · have q2 : e = e := rfl
    refine Spec.of tok Tryd.func12 rfl rfl rfl fun n0 cx => vc_ok tok ?_
    repeat ((conv => whnf); first | (refine And.intro (by first | omega | exact Nat.le_of_ble_eq_true rfl | (dsimp only [inK]; omega) | (simp only [mulS_eq]; omega) | (simp only [mulS_eq, setL_length]; omega) | (simp only [setL_length]; omega) | (simp only [setL_length, List.length_map]; omega) | (exact ⟨by omega, by omega, by first | exact Nat.le_of_ble_eq_true rfl | (dsimp only; omega) | (simp only [setL_length]; omega) | (simp only [setL_length, List.length_map]; omega)⟩) | (exact ⟨by omega, by first | rfl | omega, by omega, Nat.le_of_ble_eq_true rfl, Nat.le_of_ble_eq_true rfl⟩) | (exact ⟨rfl, rfl, rfl, Nat.le_of_ble_eq_true rfl, by first | rfl | omega | exact Nat.le_of_ble_eq_true rfl | (dsimp only; omega) | (simp; done) | (simp; omega), by first | rfl | omega | exact Nat.le_of_ble_eq_true rfl | (dsimp only; omega) | (simp; done) | (simp; omega), by omega, Nat.le_of_ble_eq_true rfl⟩) | exact Eq.refl true) ?_) | refine Exists.intro _ (And.intro rfl ?_) | refine And.intro (And.intro rfl (chk_rowI _ _ _ _)) ?_ | refine br_t (by omega) ?_ | refine br_f (by omega) ?_ | refine bs_t (by omega) ?_ | refine bs_f (by omega) ?_ | refine fun (K' : K3) hK' => ?_ | (refine hK' _ _ _ ?_; clear hK' K') | refine draw_auto tok mixed (by kernel_rfl) ?_ | refine wide_k (by omega) ?_ | refine bs_f h1 ?_ | refine br_f h1 ?_ | refine long_k (by omega) ?_ | refine bs_f h2 ?_ | refine br_f h2 ?_ | (refine CallK.val (R := []) k1 (by kernel_rfl) rfl (by simp [V.wf, A.wf, C.wf, V.i]) ⟨roE_f (flat_c _) (l := 0) rfl (by omega) rfl (.inr rfl), trivial⟩ rfl rfl (by first | trivial | simp [V.wf, A.wf, C.wf]) ?_) | (refine CallK.val (R := []) k2 (by kernel_rfl) rfl (by simp [V.wf, A.wf, C.wf, V.i]) ⟨roE_f (flat_c _) (l := 0) rfl (by omega) rfl (.inr rfl), trivial⟩ rfl rfl (by first | trivial | simp [V.wf, A.wf, C.wf]) ?_) | refine bs_f q1 ?_ | refine br_f q1 ?_ | (refine CallK.val (R := []) k3 (by kernel_rfl) rfl (by simp [V.wf, A.wf, C.wf, V.i]) ⟨roE_f (flat_c _) (l := 0) rfl (by omega) rfl (.inr rfl), trivial⟩ rfl rfl (by first | trivial | simp [V.wf, A.wf, C.wf]) ?_) | (refine CallK.val (R := []) k4 (by kernel_rfl) rfl (by simp [V.wf, A.wf, C.wf, V.i]) ⟨roE_f (flat_c _) (l := 0) rfl (by omega) rfl (.inr rfl), trivial⟩ rfl rfl (by first | trivial | simp [V.wf, A.wf, C.wf]) ?_) | (refine CallK.val (R := []) k5 (by kernel_rfl) rfl (by simp [V.wf, A.wf, C.wf, V.i]) ⟨roE_f (flat_c _) (l := 0) rfl (by omega) rfl (.inr rfl), roE_f (flat_i _) (l := 1) rfl (by omega) rfl (.inl rfl), trivial⟩ rfl rfl (by first | trivial | simp [V.wf, A.wf, C.wf]) ?_) | (refine CallK.val (R := []) k6 (by kernel_rfl) rfl (by simp [V.wf, A.wf, C.wf, V.i]) ⟨roE_f (flat_c _) (l := 0) rfl (by omega) rfl (.inr rfl), roE_f (flat_i _) (l := 1) rfl (by omega) rfl (.inr rfl), trivial⟩ rfl rfl (by first | trivial | simp [V.wf, A.wf, C.wf]) ?_) | refine bs_t q2 ?_ | refine br_t q2 ?_ | (refine CallK.val (R := []) sameI_nil (by kernel_rfl) rfl (by simp [V.wf, A.wf, C.wf, V.i]) trivial rfl rfl (by first | trivial | simp [V.wf, A.wf, C.wf]) ?_) | refine awake_k ?_ | refine bs_bt (Eq.refl true) ?_ | refine bs_bf (Eq.refl false) ?_ | refine br_bt (Eq.refl true) ?_ | refine br_bf (Eq.refl false) ?_ | refine CallK.m ?_ | refine Two.l ?_ | refine And.intro (And.intro rfl rfl) ?_)
    intro ρ; rfl
  · have s1 := sameN_spec r (by omega)
    unfold rowI at k3 k4
    refine Spec.of tok Tryd.func12 rfl rfl rfl fun n0 cx => vc_ok tok ?_
    repeat ((conv => whnf); first | (refine And.intro (by first | omega | exact Nat.le_of_ble_eq_true rfl | (dsimp only [inK]; omega) | (simp only [mulS_eq]; omega) | (simp only [mulS_eq, setL_length]; omega) | (simp only [setL_length]; omega) | (simp only [setL_length, List.length_map]; omega) | (exact ⟨by omega, by omega, by first | exact Nat.le_of_ble_eq_true rfl | (dsimp only; omega) | (simp only [setL_length]; omega) | (simp only [setL_length, List.length_map]; omega)⟩) | (exact ⟨by omega, by first | rfl | omega, by omega, Nat.le_of_ble_eq_true rfl, Nat.le_of_ble_eq_true rfl⟩) | (exact ⟨rfl, rfl, rfl, Nat.le_of_ble_eq_true rfl, by first | rfl | omega | exact Nat.le_of_ble_eq_true rfl | (dsimp only; omega) | (simp; done) | (simp; omega), by first | rfl | omega | exact Nat.le_of_ble_eq_true rfl | (dsimp only; omega) | (simp; done) | (simp; omega), by omega, Nat.le_of_ble_eq_true rfl⟩) | exact Eq.refl true) ?_) | refine Exists.intro _ (And.intro rfl ?_) | refine And.intro (And.intro rfl (chk_rowI _ _ _ _)) ?_ | refine br_t (by omega) ?_ | refine br_f (by omega) ?_ | refine bs_t (by omega) ?_ | refine bs_f (by omega) ?_ | refine fun (K' : K3) hK' => ?_ | (refine hK' _ _ _ ?_; clear hK' K') | refine draw_auto tok mixed (by kernel_rfl) ?_ | refine wide_k (by omega) ?_ | refine bs_f h1 ?_ | refine br_f h1 ?_ | refine long_k (by omega) ?_ | refine bs_f h2 ?_ | refine br_f h2 ?_ | (refine CallK.val (R := []) k1 (by kernel_rfl) rfl (by simp [V.wf, A.wf, C.wf, V.i]) ⟨roE_f (flat_c _) (l := 0) rfl (by omega) rfl (.inr rfl), trivial⟩ rfl rfl (by first | trivial | simp [V.wf, A.wf, C.wf]) ?_) | (refine CallK.val (R := []) k2 (by kernel_rfl) rfl (by simp [V.wf, A.wf, C.wf, V.i]) ⟨roE_f (flat_c _) (l := 0) rfl (by omega) rfl (.inr rfl), trivial⟩ rfl rfl (by first | trivial | simp [V.wf, A.wf, C.wf]) ?_) | refine bs_f q1 ?_ | refine br_f q1 ?_ | refine CallK.rowE (R := []) (flat_i _) k3 (by kernel_rfl) rfl (by simp [V.wf, A.wf, C.wf, V.i]) ⟨roE_f (flat_c _) (l := 0) rfl (by omega) rfl (.inr rfl), trivial⟩ rfl ?_ | refine CallK.rowE (R := []) (flat_i _) k4 (by kernel_rfl) rfl (by simp [V.wf, A.wf, C.wf, V.i]) ⟨roE_f (flat_c _) (l := 0) rfl (by omega) rfl (.inr rfl), trivial⟩ rfl ?_ | (refine CallK.val (R := []) k5 (by kernel_rfl) rfl (by simp [V.wf, A.wf, C.wf, V.i]) ⟨roE_f (flat_c _) (l := 0) rfl (by omega) rfl (.inr rfl), roE_f (flat_i _) (l := 1) rfl (by omega) rfl (.inl rfl), trivial⟩ rfl rfl (by first | trivial | simp [V.wf, A.wf, C.wf]) ?_) | (refine CallK.val (R := []) k6 (by kernel_rfl) rfl (by simp [V.wf, A.wf, C.wf, V.i]) ⟨roE_f (flat_c _) (l := 0) rfl (by omega) rfl (.inr rfl), roE_f (flat_i _) (l := 1) rfl (by omega) rfl (.inr rfl), trivial⟩ rfl rfl (by first | trivial | simp [V.wf, A.wf, C.wf]) ?_) | (refine CallK.val (R := [(0, some 3), (1, some 4)]) s1 (by kernel_rfl) rfl (by simp [V.wf, A.wf, C.wf, V.i]) ⟨roE_f (flat_i _) (l := 3) rfl (by omega) rfl (.inl rfl), roE_f (flat_i _) (l := 4) rfl (by omega) rfl (.inl rfl), trivial⟩ rfl rfl (by first | trivial | simp [V.wf, A.wf, C.wf]) ?_) | (refine CallK.val (R := []) sameI_nil (by kernel_rfl) rfl (by simp [V.wf, A.wf, C.wf, V.i]) trivial rfl rfl (by first | trivial | simp [V.wf, A.wf, C.wf]) ?_) | refine awake_k ?_ | refine bs_bt (Eq.refl true) ?_ | refine bs_bf (Eq.refl false) ?_ | refine br_bt (Eq.refl true) ?_ | refine br_bf (Eq.refl false) ?_ | refine CallK.m ?_ | refine Two.l ?_ | refine And.intro (And.intro rfl rfl) ?_)
    intro ρ; rfl
set_option maxRecDepth 10000 in
set_option maxHeartbeats 16000000 in
theorem skips_yes (os : List Nat) (ho : Ord n os) :
    Spec Tryd.prog 12 [V.agg [C.i n, C.sl 0 (castP qs).length], V.i z, V.c (.sl 1 n)] [⟨0, .ro 2, cellC (castP qs)⟩, ⟨1, .ro 1, (natI os).map C.i⟩] 2 (Is (V.c (.bool true))) := by
  have hpl := castP_len qs
  have hql := knd_len hk
  have hn := hk.rng
  have h1 : ¬ ((castP qs).length : Int) > 60 := by omega
  have h2 : ¬ ((n : Nat) : Int) > 60 := by omega
  have k1 := Fewest_spec n qs hk
  have k2 := rFewest_spec n qs hk
  obtain ⟨f, hf⟩ : ∃ f, f = fewI (tabS n qs) n := ⟨_, rfl⟩
  rw [← hf] at k1 k2
  have q1 : ¬ f ≠ f := fun h => h rfl
  have k5 := Line_spec n qs hk os ho
  have k6 := rLine_spec n qs hk os ho
  have s2 := sameZ_spec (rowL (lnF (symC (clP qs)) os n) n) n (rowL_len _ _) (by omega)
  have hrl := rowL_len (lnF (symC (clP qs)) os n) n
  have hrw : fnL (fun x => ((lnF (symC (clP qs)) os n x : Nat) : Int)) n = rowL (lnF (symC (clP qs)) os n) n := rfl
  rw [hrw] at k5
  obtain ⟨y, hy⟩ : ∃ y, y = rowL (lnF (symC (clP qs)) os n) n := ⟨_, rfl⟩
  rw [← hy] at k5 k6 s2 hrl
  rcases fst_of n qs hk z with ⟨e, k3, k4⟩ | ⟨r, hr, k3, k4⟩
  · have q2 : e = e := rfl
    refine Spec.of tok Tryd.func12 rfl rfl rfl fun n0 cx => vc_ok tok ?_
    repeat ((conv => whnf); first | (refine And.intro (by first | omega | exact Nat.le_of_ble_eq_true rfl | (dsimp only [inK]; omega) | (simp only [mulS_eq]; omega) | (simp only [mulS_eq, setL_length]; omega) | (simp only [setL_length]; omega) | (simp only [setL_length, List.length_map]; omega) | (exact ⟨by omega, by omega, by first | exact Nat.le_of_ble_eq_true rfl | (dsimp only; omega) | (simp only [setL_length]; omega) | (simp only [setL_length, List.length_map]; omega)⟩) | (exact ⟨by omega, by first | rfl | omega, by omega, Nat.le_of_ble_eq_true rfl, Nat.le_of_ble_eq_true rfl⟩) | (exact ⟨rfl, rfl, rfl, Nat.le_of_ble_eq_true rfl, by first | rfl | omega | exact Nat.le_of_ble_eq_true rfl | (dsimp only; omega) | (simp; done) | (simp; omega), by first | rfl | omega | exact Nat.le_of_ble_eq_true rfl | (dsimp only; omega) | (simp; done) | (simp; omega), by omega, Nat.le_of_ble_eq_true rfl⟩) | exact Eq.refl true) ?_) | refine Exists.intro _ (And.intro rfl ?_) | refine And.intro (And.intro rfl (chk_rowI _ _ _ _)) ?_ | refine br_t (by omega) ?_ | refine br_f (by omega) ?_ | refine bs_t (by omega) ?_ | refine bs_f (by omega) ?_ | refine fun (K' : K3) hK' => ?_ | (refine hK' _ _ _ ?_; clear hK' K') | refine draw_auto tok mixed (by kernel_rfl) ?_ | refine wide_k (by omega) ?_ | refine bs_f h1 ?_ | refine br_f h1 ?_ | refine long_k (by omega) ?_ | refine bs_f h2 ?_ | refine br_f h2 ?_ | (refine CallK.val (R := []) k1 (by kernel_rfl) rfl (by simp [V.wf, A.wf, C.wf, V.i]) ⟨roE_f (flat_c _) (l := 0) rfl (by omega) rfl (.inr rfl), trivial⟩ rfl rfl (by first | trivial | simp [V.wf, A.wf, C.wf]) ?_) | (refine CallK.val (R := []) k2 (by kernel_rfl) rfl (by simp [V.wf, A.wf, C.wf, V.i]) ⟨roE_f (flat_c _) (l := 0) rfl (by omega) rfl (.inr rfl), trivial⟩ rfl rfl (by first | trivial | simp [V.wf, A.wf, C.wf]) ?_) | refine bs_f q1 ?_ | refine br_f q1 ?_ | (refine CallK.val (R := []) k3 (by kernel_rfl) rfl (by simp [V.wf, A.wf, C.wf, V.i]) ⟨roE_f (flat_c _) (l := 0) rfl (by omega) rfl (.inr rfl), trivial⟩ rfl rfl (by first | trivial | simp [V.wf, A.wf, C.wf]) ?_) | (refine CallK.val (R := []) k4 (by kernel_rfl) rfl (by simp [V.wf, A.wf, C.wf, V.i]) ⟨roE_f (flat_c _) (l := 0) rfl (by omega) rfl (.inr rfl), trivial⟩ rfl rfl (by first | trivial | simp [V.wf, A.wf, C.wf]) ?_) | refine CallK.rowE (R := []) (flat_i _) k5 (by kernel_rfl) rfl (by simp [V.wf, A.wf, C.wf, V.i]) ⟨roE_f (flat_c _) (l := 0) rfl (by omega) rfl (.inr rfl), roE_f (flat_i _) (l := 1) rfl (by omega) rfl (.inl rfl), trivial⟩ rfl ?_ | refine CallK.rowE (R := []) (flat_i _) k6 (by kernel_rfl) rfl (by simp [V.wf, A.wf, C.wf, V.i]) ⟨roE_f (flat_c _) (l := 0) rfl (by omega) rfl (.inr rfl), roE_f (flat_i _) (l := 1) rfl (by omega) rfl (.inr rfl), trivial⟩ rfl ?_ | refine bs_t q2 ?_ | refine br_t q2 ?_ | (refine CallK.val (R := []) sameI_nil (by kernel_rfl) rfl (by simp [V.wf, A.wf, C.wf, V.i]) trivial rfl rfl (by first | trivial | simp [V.wf, A.wf, C.wf]) ?_) | (refine CallK.val (R := [(0, some 3), (1, some 4)]) s2 (by kernel_rfl) rfl (by simp [V.wf, A.wf, C.wf, V.i]) ⟨roE_f (flat_i _) (l := 3) rfl (by omega) rfl (.inl rfl), roE_f (flat_i _) (l := 4) rfl (by omega) rfl (.inl rfl), trivial⟩ rfl rfl (by first | trivial | simp [V.wf, A.wf, C.wf]) ?_) | refine awake_k ?_ | refine bs_bt (Eq.refl true) ?_ | refine bs_bf (Eq.refl false) ?_ | refine br_bt (Eq.refl true) ?_ | refine br_bf (Eq.refl false) ?_ | refine CallK.m ?_ | refine Two.l ?_ | refine And.intro (And.intro rfl rfl) ?_)
    intro ρ; rfl
  · have s1 := sameN_spec r (by omega)
    unfold rowI at k3 k4
    refine Spec.of tok Tryd.func12 rfl rfl rfl fun n0 cx => vc_ok tok ?_
    repeat ((conv => whnf); first | (refine And.intro (by first | omega | exact Nat.le_of_ble_eq_true rfl | (dsimp only [inK]; omega) | (simp only [mulS_eq]; omega) | (simp only [mulS_eq, setL_length]; omega) | (simp only [setL_length]; omega) | (simp only [setL_length, List.length_map]; omega) | (exact ⟨by omega, by omega, by first | exact Nat.le_of_ble_eq_true rfl | (dsimp only; omega) | (simp only [setL_length]; omega) | (simp only [setL_length, List.length_map]; omega)⟩) | (exact ⟨by omega, by first | rfl | omega, by omega, Nat.le_of_ble_eq_true rfl, Nat.le_of_ble_eq_true rfl⟩) | (exact ⟨rfl, rfl, rfl, Nat.le_of_ble_eq_true rfl, by first | rfl | omega | exact Nat.le_of_ble_eq_true rfl | (dsimp only; omega) | (simp; done) | (simp; omega), by first | rfl | omega | exact Nat.le_of_ble_eq_true rfl | (dsimp only; omega) | (simp; done) | (simp; omega), by omega, Nat.le_of_ble_eq_true rfl⟩) | exact Eq.refl true) ?_) | refine Exists.intro _ (And.intro rfl ?_) | refine And.intro (And.intro rfl (chk_rowI _ _ _ _)) ?_ | refine br_t (by omega) ?_ | refine br_f (by omega) ?_ | refine bs_t (by omega) ?_ | refine bs_f (by omega) ?_ | refine fun (K' : K3) hK' => ?_ | (refine hK' _ _ _ ?_; clear hK' K') | refine draw_auto tok mixed (by kernel_rfl) ?_ | refine wide_k (by omega) ?_ | refine bs_f h1 ?_ | refine br_f h1 ?_ | refine long_k (by omega) ?_ | refine bs_f h2 ?_ | refine br_f h2 ?_ | (refine CallK.val (R := []) k1 (by kernel_rfl) rfl (by simp [V.wf, A.wf, C.wf, V.i]) ⟨roE_f (flat_c _) (l := 0) rfl (by omega) rfl (.inr rfl), trivial⟩ rfl rfl (by first | trivial | simp [V.wf, A.wf, C.wf]) ?_) | (refine CallK.val (R := []) k2 (by kernel_rfl) rfl (by simp [V.wf, A.wf, C.wf, V.i]) ⟨roE_f (flat_c _) (l := 0) rfl (by omega) rfl (.inr rfl), trivial⟩ rfl rfl (by first | trivial | simp [V.wf, A.wf, C.wf]) ?_) | refine bs_f q1 ?_ | refine br_f q1 ?_ | refine CallK.rowE (R := []) (flat_i _) k3 (by kernel_rfl) rfl (by simp [V.wf, A.wf, C.wf, V.i]) ⟨roE_f (flat_c _) (l := 0) rfl (by omega) rfl (.inr rfl), trivial⟩ rfl ?_ | refine CallK.rowE (R := []) (flat_i _) k4 (by kernel_rfl) rfl (by simp [V.wf, A.wf, C.wf, V.i]) ⟨roE_f (flat_c _) (l := 0) rfl (by omega) rfl (.inr rfl), trivial⟩ rfl ?_ | refine CallK.rowE (R := []) (flat_i _) k5 (by kernel_rfl) rfl (by simp [V.wf, A.wf, C.wf, V.i]) ⟨roE_f (flat_c _) (l := 0) rfl (by omega) rfl (.inr rfl), roE_f (flat_i _) (l := 1) rfl (by omega) rfl (.inl rfl), trivial⟩ rfl ?_ | refine CallK.rowE (R := []) (flat_i _) k6 (by kernel_rfl) rfl (by simp [V.wf, A.wf, C.wf, V.i]) ⟨roE_f (flat_c _) (l := 0) rfl (by omega) rfl (.inr rfl), roE_f (flat_i _) (l := 1) rfl (by omega) rfl (.inr rfl), trivial⟩ rfl ?_ | (refine CallK.val (R := [(0, some 3), (1, some 4)]) s1 (by kernel_rfl) rfl (by simp [V.wf, A.wf, C.wf, V.i]) ⟨roE_f (flat_i _) (l := 3) rfl (by omega) rfl (.inl rfl), roE_f (flat_i _) (l := 4) rfl (by omega) rfl (.inl rfl), trivial⟩ rfl rfl (by first | trivial | simp [V.wf, A.wf, C.wf]) ?_) | (refine CallK.val (R := [(0, some 5), (1, some 6)]) s2 (by kernel_rfl) rfl (by simp [V.wf, A.wf, C.wf, V.i]) ⟨roE_f (flat_i _) (l := 5) rfl (by omega) rfl (.inl rfl), roE_f (flat_i _) (l := 6) rfl (by omega) rfl (.inl rfl), trivial⟩ rfl rfl (by first | trivial | simp [V.wf, A.wf, C.wf]) ?_) | refine awake_k ?_ | refine bs_bt (Eq.refl true) ?_ | refine bs_bf (Eq.refl false) ?_ | refine br_bt (Eq.refl true) ?_ | refine br_bf (Eq.refl false) ?_ | refine CallK.m ?_ | refine Two.l ?_ | refine And.intro (And.intro rfl rfl) ?_)
    intro ρ; rfl
end
theorem skips_any (N z : Int) (ps : List Cell) (l : List Int) (ao bo : Option Addr) (c d : Nat) (w : World) (h : CellsAt w ao c ps) (hb : IntsC w bo d l) (hF : Fct w.heap.size w) :
    Calls Tryd.prog 12 #[.agg #[.int .i64 N, .slice ao ps.length c], .int .i64 z, .slice bo l.length d] w fun e w' => e = .returned (.bool true) ∧ Below w.heap.size w w' := by
  by_cases hl : (ps.length : Int) > 60 ∨ (l.length : Int) > 60
  · exact isTrue_any (vs := [V.agg [C.i N, C.sl 0 ps.length], V.i z, V.c (.sl 1 l.length)]) (skips_long N z ps l h.2.2 hb.1.2 hl) (hp_ki1 h hb hF) (by simp [V.wf, A.wf, C.wf, V.i]) rfl
  · have h1 : ¬ (ps.length : Int) > 60 := fun h => hl (.inl h)
    have h2 : ¬ (l.length : Int) > 60 := fun h => hl (.inr h)
    cases hv : okK' N ps with
    | false => exact isTrue_any (vs := [V.agg [C.i N, C.sl 0 ps.length], V.i z, V.c (.sl 1 l.length)]) (skips_no N z ps l h1 h2 hv) (hp_ki1 h hb hF) (by simp [V.wf, A.wf, C.wf, V.i]) rfl
    | true =>
      obtain ⟨n, qs, rfl, rfl, hk⟩ := knd_of hv
      cases hob : ordB n l with
      | false => exact isTrue_any (vs := [V.agg [C.i n, C.sl 0 (castP qs).length], V.i z, V.c (.sl 1 l.length)]) (skips_arg n z qs hk l h2 hob) (hp_ki1 h hb hF) (by simp [V.wf, A.wf, C.wf, V.i]) rfl
      | true =>
        obtain ⟨os, rfl, ho⟩ := ordB_nat hob
        have he : (natI os).length = n := by rw [natI_len, ho.1]
        rw [he]
        exact isTrue_any (vs := [V.agg [C.i n, C.sl 0 (castP qs).length], V.i z, V.c (.sl 1 n)]) (skips_yes n z qs hk os ho) (hp_ki1 h hb hF) (by simp [V.wf, A.wf, C.wf, V.i]) rfl
end Go.Proofs.YtijnimgmpocmaaaDoor

/- Waste: what the listed variables give; a start that meets the condition. -/
namespace Go.Proofs.YtijnimgmpocmaaaDoor
open Go.RowKit
set_option linter.unusedVariables false
set_option linter.unusedSimpArgs false
open Go.ChangeShapes Go.WideShapes Go.ChangeAt Go.RowKit Go.Deep Go.Joins
abbrev laidV : List (String × DataW Unit) := [("math/bits.deBruijn32tab", Rows.laid_math_bits_deBruijn32tab), ("math/bits.deBruijn64tab", Rows.laid_math_bits_deBruijn64tab)]
theorem gTab : Tryd.prog.globalNamed "math/bits.deBruijn64tab" = some 1 := by kernel_rfl
theorem tTab : (Tryd.prog.globals[1]?).map (·.type) = some 120 := by kernel_rfl
theorem tabDat : (Rows.laid_math_bits_deBruijn64tab (H := Unit)) = .agg (Lib.deBruijn64tab.map fun n : Nat => .lit (.int .u8 n)) := rfl
set_option maxRecDepth 10000 in
theorem fct_of_laid {W : World} (h : laidMetH Tryd.prog laidV W) : Fct W.heap.size W := by
  have h' : laidMet Tryd.prog laidV W := h
  obtain ⟨ps, ⟨_, _, _, _, _, _, _, _, _, _, ⟨g, t, cs, fuel, p, q, hg, ht, hv, hd, _⟩, _⟩, _⟩ := h'
  obtain rfl := Option.some.inj (gTab.symm.trans hg)
  obtain rfl := Option.some.inj (tTab.symm.trans ht)
  rw [tabDat] at hd
  obtain ⟨xs, m, _, hx, hl, hxl, hgo⟩ := DataW.trod_array Tryd.underlying120 hd
  have hc1 : Tryd.prog.cellsOf 5 = 1 := by kernel_rfl
  have hc64 : Tryd.prog.cellsOf 120 = 64 := by kernel_rfl
  rw [hc64] at hl
  have hcell : ∀ j, j < Lib.deBruijn64tab.length → W.cell? ⟨1, j, none⟩ = some (.int .u8 (Lib.deBruijn64tab.getD j 0)) := by
    intro j hj
    have hj64 : j < 64 := hj
    have h3 := hgo j hj64
    rw [hc1, Nat.mul_one] at h3
    obtain ⟨y, hy⟩ : ∃ y, xs[j]? = some y := ⟨xs[j]'(by omega), List.getElem?_eq_getElem _⟩
    rw [hy] at h3
    obtain ⟨u, hu⟩ : ∃ u, cs.toList[j]? = some u := ⟨cs.toList[j]'(by omega), List.getElem?_eq_getElem _⟩
    have e1 : (cs.toList.drop j).take 1 = [u] := by
      rw [List.take_one, List.head?_drop, hu]; rfl
    rw [e1] at h3
    obtain ⟨z, e0, e2, _⟩ := DataW.trod_int Tryd.underlying5 h3
    have e0 : u = .int .u8 z := by simpa using e0
    have hxm : xs.map (·.1) = Lib.deBruijn64tab.map fun n : Nat => (DataW.lit (.int .u8 n) : DataW Unit) := by
      have := congrArg Prod.fst hx
      simp only [DataW.agg.injEq] at this
      exact this.symm
    have hym : (xs.map (·.1))[j]? = some y.1 := by rw [List.getElem?_map, hy]; rfl
    rw [hxm, List.getElem?_map] at hym
    have hz : (DataW.lit (.int .u8 (Lib.deBruijn64tab.getD j 0 : Nat)) : DataW Unit) = y.1 := by
      rw [List.getElem?_eq_getElem hj] at hym
      simp only [Option.map_some, Option.some.injEq] at hym
      rw [← hym, List.getD_eq_getElem?_getD, List.getElem?_eq_getElem hj]; rfl
    have hzz : (Lib.deBruijn64tab.getD j 0 : Int) = z := by
      rw [e2] at hz
      simpa using hz
    have hw := World.var?_cell gTab hv j
    rw [hw]
    have : cs[j]? = some u := by rw [← Array.getElem?_toList]; exact hu
    rw [this, e0, hzz]
  have h0 := hcell 0 (by decide)
  have hlt := World.block_lt_of_cell? _ _ h0
  refine ⟨hlt, ?_⟩
  have h1 := h0
  unfold World.cell? at h1
  cases hb : W.heap[1]? with
  | none => simp [hb] at h1
  | some o =>
    cases o with
    | cells c t fr => exact ⟨c, t, fr, rfl, hcell⟩
    | _ => simp [hb] at h1
theorem door_met (os : Os) (args : Array Value) : laidMetH Tryd.prog laidV ((World.doorLaid Tryd.prog 19 os).forCall (fun _ _ => 0) ⟨#[], args, []⟩).memory :=
  laidMetH_of_parts3 (fuel := 8) (laidMet_of_run' 8 (by kernel_rfl) (by kernel_rfl)) (by kernel_rfl) (by kernel_rfl)
end Go.Proofs.YtijnimgmpocmaaaDoor

