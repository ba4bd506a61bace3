/- Texts of the proof, part 6: M1, U2, M2, M3, M4, L0, L7, D1. -/
import Derived.Test.YtijnimgmpocmaaaDoorH5
import Derived.WalkKit
import Derived.Below
import Derived.Lib.TrailingZeros
import Derived.Laws.OwnMore
import Derived.Maps.AppendAt
import Derived.Laws.IdiomCopy
import Derived.Laws.CopyRow
import Derived.IntWalk
import Derived.StillTail
import Derived.Scope
import Derived.ChangeKeysEq
import Derived.Laws.Small
import Derived.OrdersIn
import Derived.TacticsIn
import Derived.OwnWalkIn
import Derived.RangeFuncNested
import Derived.RangeFuncLeaves
import Derived.RangeFuncRecord
import Derived.Maps.Keyed
import Derived.Maps.RangeRun
import Derived.DeepKeys4
import Derived.Test.YtijnimgmpocmaaaDoorRows
import Derived.KernelRfl
import Derived.Shelf.Spec.TrailingZeros
import Derived.PlainAid
import Derived.StillTailTactics
import Derived.WalkSpells
import Derived.OwnWalk
import Derived.Deep.RegionLaw
import Derived.Lib.SliceRun
import Derived.ProofKit
import Derived.OpenShut
import Derived.Lib.SmallJoins
import Derived.Deep.Slices
import Derived.Deep.RegionHeld3
import Derived.Lib.Hide
import Derived.LaidMore
import Derived.Stop.Joined
/- Waste: the document's pairs left out, and whether kinds are the same. -/
namespace Go.Proofs.YtijnimgmpocmaaaDoor
open Go.RowKit
set_option linter.unusedVariables false
set_option linter.unusedSimpArgs false
set_option maxRecDepth 10000 in
theorem rpaired_spec (N z : Int) (ps : List Cell) (hl : ps.length ≤ 100) : Spec Tryd.prog 75 [kX N ps, V.i z] [⟨0, .ro 2, cellC ps⟩] 1 (Is (V.i (pairE N ps z))) := by
  have hva := rvalid_spec N ps hl
  refine Spec.of tok Tryd.func75 rfl rfl rfl fun n0 cx => vc_ok tok ?_
  cases hv : okK' N ps with
  | false =>
    rw [hv] at hva
    repeat ((conv => whnf); first | (refine And.intro (by first | omega | exact Nat.le_of_ble_eq_true rfl | (dsimp only [inK]; omega) | (simp only [mulS_eq]; omega) | (simp only [mulS_eq, setL_length]; omega) | (simp only [setL_length]; omega) | (simp only [setL_length, List.length_map]; omega) | (exact ⟨by omega, by omega, by first | exact Nat.le_of_ble_eq_true rfl | (dsimp only; omega) | (simp only [setL_length]; omega) | (simp only [setL_length, List.length_map]; omega)⟩) | (exact ⟨by omega, by first | rfl | omega, by omega, Nat.le_of_ble_eq_true rfl, Nat.le_of_ble_eq_true rfl⟩) | (exact ⟨rfl, rfl, rfl, Nat.le_of_ble_eq_true rfl, by first | rfl | omega | exact Nat.le_of_ble_eq_true rfl | (dsimp only; omega) | (simp; done) | (simp; omega), by first | rfl | omega | exact Nat.le_of_ble_eq_true rfl | (dsimp only; omega) | (simp; done) | (simp; omega), by omega, Nat.le_of_ble_eq_true rfl⟩) | exact Eq.refl true) ?_) | refine Exists.intro _ (And.intro rfl ?_) | refine And.intro (And.intro rfl (chk_rowI _ _ _ _)) ?_ | refine br_t (by omega) ?_ | refine br_f (by omega) ?_ | refine bs_t (by omega) ?_ | refine bs_f (by omega) ?_ | refine fun (K' : K3) hK' => ?_ | (refine hK' _ _ _ ?_; clear hK' K') | refine draw_auto tok mixed (by kernel_rfl) ?_ | refine CallK.val (R := []) hva (by kernel_rfl) rfl (by simp [V.wf, A.wf, C.wf]) ⟨roE_f (flat_c _) (l := 0) rfl (by omega) rfl (.inr rfl), trivial⟩ rfl rfl trivial ?_ | refine bs_bt (Eq.refl true) ?_ | refine bs_bf (Eq.refl false) ?_ | refine br_bt (Eq.refl true) ?_ | refine br_bf (Eq.refl false) ?_ | refine CallK.m ?_ | refine Two.l ?_ | refine And.intro (And.intro rfl rfl) ?_)
    intro ρ; unfold pairE; rw [hv]; rfl
  | true =>
    rw [hv] at hva
    by_cases h1 : z < 0
    · repeat ((conv => whnf); first | (refine And.intro (by first | omega | exact Nat.le_of_ble_eq_true rfl | (dsimp only [inK]; omega) | (simp only [mulS_eq]; omega) | (simp only [mulS_eq, setL_length]; omega) | (simp only [setL_length]; omega) | (simp only [setL_length, List.length_map]; omega) | (exact ⟨by omega, by omega, by first | exact Nat.le_of_ble_eq_true rfl | (dsimp only; omega) | (simp only [setL_length]; omega) | (simp only [setL_length, List.length_map]; omega)⟩) | (exact ⟨by omega, by first | rfl | omega, by omega, Nat.le_of_ble_eq_true rfl, Nat.le_of_ble_eq_true rfl⟩) | (exact ⟨rfl, rfl, rfl, Nat.le_of_ble_eq_true rfl, by first | rfl | omega | exact Nat.le_of_ble_eq_true rfl | (dsimp only; omega) | (simp; done) | (simp; omega), by first | rfl | omega | exact Nat.le_of_ble_eq_true rfl | (dsimp only; omega) | (simp; done) | (simp; omega), by omega, Nat.le_of_ble_eq_true rfl⟩) | exact Eq.refl true) ?_) | refine Exists.intro _ (And.intro rfl ?_) | refine And.intro (And.intro rfl (chk_rowI _ _ _ _)) ?_ | refine br_t (by omega) ?_ | refine br_f (by omega) ?_ | refine bs_t (by omega) ?_ | refine bs_f (by omega) ?_ | refine fun (K' : K3) hK' => ?_ | (refine hK' _ _ _ ?_; clear hK' K') | refine draw_auto tok mixed (by kernel_rfl) ?_ | refine CallK.val (R := []) hva (by kernel_rfl) rfl (by simp [V.wf, A.wf, C.wf]) ⟨roE_f (flat_c _) (l := 0) rfl (by omega) rfl (.inr rfl), trivial⟩ rfl rfl trivial ?_ | refine bs_t h1 ?_ | refine br_t h1 ?_ | refine bs_bt (Eq.refl true) ?_ | refine bs_bf (Eq.refl false) ?_ | refine br_bt (Eq.refl true) ?_ | refine br_bf (Eq.refl false) ?_ | refine CallK.m ?_ | refine Two.l ?_ | refine And.intro (And.intro rfl rfl) ?_)
      intro ρ; unfold pairE; rw [hv, if_pos rfl, if_neg (by omega)]; rfl
    · by_cases h2 : z ≥ (ps.length : Int)
      · repeat ((conv => whnf); first | (refine And.intro (by first | omega | exact Nat.le_of_ble_eq_true rfl | (dsimp only [inK]; omega) | (simp only [mulS_eq]; omega) | (simp only [mulS_eq, setL_length]; omega) | (simp only [setL_length]; omega) | (simp only [setL_length, List.length_map]; omega) | (exact ⟨by omega, by omega, by first | exact Nat.le_of_ble_eq_true rfl | (dsimp only; omega) | (simp only [setL_length]; omega) | (simp only [setL_length, List.length_map]; omega)⟩) | (exact ⟨by omega, by first | rfl | omega, by omega, Nat.le_of_ble_eq_true rfl, Nat.le_of_ble_eq_true rfl⟩) | (exact ⟨rfl, rfl, rfl, Nat.le_of_ble_eq_true rfl, by first | rfl | omega | exact Nat.le_of_ble_eq_true rfl | (dsimp only; omega) | (simp; done) | (simp; omega), by first | rfl | omega | exact Nat.le_of_ble_eq_true rfl | (dsimp only; omega) | (simp; done) | (simp; omega), by omega, Nat.le_of_ble_eq_true rfl⟩) | exact Eq.refl true) ?_) | refine Exists.intro _ (And.intro rfl ?_) | refine And.intro (And.intro rfl (chk_rowI _ _ _ _)) ?_ | refine br_t (by omega) ?_ | refine br_f (by omega) ?_ | refine bs_t (by omega) ?_ | refine bs_f (by omega) ?_ | refine fun (K' : K3) hK' => ?_ | (refine hK' _ _ _ ?_; clear hK' K') | refine draw_auto tok mixed (by kernel_rfl) ?_ | refine CallK.val (R := []) hva (by kernel_rfl) rfl (by simp [V.wf, A.wf, C.wf]) ⟨roE_f (flat_c _) (l := 0) rfl (by omega) rfl (.inr rfl), trivial⟩ rfl rfl trivial ?_ | refine bs_f h1 ?_ | refine br_f h1 ?_ | refine bs_t h2 ?_ | refine br_t h2 ?_ | refine bs_bt (Eq.refl true) ?_ | refine bs_bf (Eq.refl false) ?_ | refine br_bt (Eq.refl true) ?_ | refine br_bf (Eq.refl false) ?_ | refine CallK.m ?_ | refine Two.l ?_ | refine And.intro (And.intro rfl rfl) ?_)
        intro ρ; unfold pairE; rw [hv, if_pos rfl, if_neg (by omega)]; rfl
      · repeat ((conv => whnf); first | (refine And.intro (by first | omega | exact Nat.le_of_ble_eq_true rfl | (dsimp only [inK]; omega) | (simp only [mulS_eq]; omega) | (simp only [mulS_eq, setL_length]; omega) | (simp only [setL_length]; omega) | (simp only [setL_length, List.length_map]; omega) | (exact ⟨by omega, by omega, by first | exact Nat.le_of_ble_eq_true rfl | (dsimp only; omega) | (simp only [setL_length]; omega) | (simp only [setL_length, List.length_map]; omega)⟩) | (exact ⟨by omega, by first | rfl | omega, by omega, Nat.le_of_ble_eq_true rfl, Nat.le_of_ble_eq_true rfl⟩) | (exact ⟨rfl, rfl, rfl, Nat.le_of_ble_eq_true rfl, by first | rfl | omega | exact Nat.le_of_ble_eq_true rfl | (dsimp only; omega) | (simp; done) | (simp; omega), by first | rfl | omega | exact Nat.le_of_ble_eq_true rfl | (dsimp only; omega) | (simp; done) | (simp; omega), by omega, Nat.le_of_ble_eq_true rfl⟩) | exact Eq.refl true) ?_) | refine Exists.intro _ (And.intro rfl ?_) | refine And.intro (And.intro rfl (chk_rowI _ _ _ _)) ?_ | refine br_t (by omega) ?_ | refine br_f (by omega) ?_ | refine bs_t (by omega) ?_ | refine bs_f (by omega) ?_ | refine fun (K' : K3) hK' => ?_ | (refine hK' _ _ _ ?_; clear hK' K') | refine draw_auto tok mixed (by kernel_rfl) ?_ | refine CallK.val (R := []) hva (by kernel_rfl) rfl (by simp [V.wf, A.wf, C.wf]) ⟨roE_f (flat_c _) (l := 0) rfl (by omega) rfl (.inr rfl), trivial⟩ rfl rfl trivial ?_ | refine bs_f h1 ?_ | refine br_f h1 ?_ | refine bs_f h2 ?_ | refine br_f h2 ?_ | refine bs_bt (Eq.refl true) ?_ | refine bs_bf (Eq.refl false) ?_ | refine br_bt (Eq.refl true) ?_ | refine br_bf (Eq.refl false) ?_ | refine CallK.m ?_ | refine Two.l ?_ | refine And.intro (And.intro rfl rfl) ?_)
        intro ρ; unfold pairE; rw [hv, if_pos rfl, if_pos (by omega)]; rfl
set_option maxRecDepth 10000 in
set_option maxHeartbeats 4000000 in
theorem same_spec (N : Int) (ps : List Cell) (hl : ps.length ≤ 100) : Spec Tryd.prog 37 [V.agg [C.i N, .sl 0 ps.length], V.agg [C.i N, .sl 1 ps.length]] [⟨0, .ro 2, cellC ps⟩, ⟨1, .ro 2, cellC ps⟩] 2 (Is (V.c (.bool true))) := by
  have hcl := cellC_len ps
  have h1 : ¬ (N ≠ N) := fun h => h rfl
  have h2 : ¬ ((ps.length : Int) ≠ ps.length) := fun h => h rfl
  refine Spec.of tok Tryd.func37 rfl rfl rfl fun n0 cx => vc_ok tok ?_
  repeat ((conv => whnf); first | (refine And.intro (by first | omega | exact Nat.le_of_ble_eq_true rfl | (dsimp only [inK]; omega) | (simp only [mulS_eq]; omega) | (simp only [mulS_eq, setL_length]; omega) | (simp only [setL_length]; omega) | (simp only [setL_length, List.length_map]; omega) | (exact ⟨by omega, by omega, by first | exact Nat.le_of_ble_eq_true rfl | (dsimp only; omega) | (simp only [setL_length]; omega) | (simp only [setL_length, List.length_map]; omega)⟩) | (exact ⟨by omega, by first | rfl | omega, by omega, Nat.le_of_ble_eq_true rfl, Nat.le_of_ble_eq_true rfl⟩) | (exact ⟨rfl, rfl, rfl, Nat.le_of_ble_eq_true rfl, by first | rfl | omega | exact Nat.le_of_ble_eq_true rfl | (dsimp only; omega) | (simp; done) | (simp; omega), by first | rfl | omega | exact Nat.le_of_ble_eq_true rfl | (dsimp only; omega) | (simp; done) | (simp; omega), by omega, Nat.le_of_ble_eq_true rfl⟩) | exact Eq.refl true) ?_) | refine Exists.intro _ (And.intro rfl ?_) | refine And.intro (And.intro rfl (chk_rowI _ _ _ _)) ?_ | refine br_t (by omega) ?_ | refine br_f (by omega) ?_ | refine bs_t (by omega) ?_ | refine bs_f (by omega) ?_ | refine fun (K' : K3) hK' => ?_ | (refine hK' _ _ _ ?_; clear hK' K') | refine draw_auto tok mixed (by kernel_rfl) ?_ | refine bs_f h1 ?_ | refine br_f h1 ?_ | refine bs_f h2 ?_ | refine br_f h2 ?_ | refine bs_bt (Eq.refl true) ?_ | refine bs_bf (Eq.refl false) ?_ | refine br_bt (Eq.refl true) ?_ | refine br_bf (Eq.refl false) ?_ | refine CallK.m ?_ | refine Two.l ?_ | refine And.intro (And.intro rfl rfl) ?_)
  refine Tri.loop (γ := Nat) (fun k => k ≤ ps.length) (fun k => [(2, V.c (.ptr 2 0)), (3, V.c (.ptr 3 0)), (4, V.c .ff), (22, V.i ps.length), (23, V.i (k : Nat))])
    (fun k => [⟨3, .own 24, [C.i N, .sl 1 ps.length]⟩, ⟨2, .own 24, [C.i N, .sl 0 ps.length]⟩, ⟨0, .ro 2, cellC ps⟩, ⟨1, .ro 2, cellC ps⟩]) 4 (fun k => ps.length - k) 0 (R0 := []) ?_ ?_ ?_
  · omega
  · skip
    refine ⟨?_, ?_, rfl, rfl, by first | exact Nat.le_of_ble_eq_true rfl | exact Nat.le_refl _ | omega⟩
    · repeat (first | exact trivial | (refine And.intro (covS_syn (by rfl) rfl (by first | exact trivial | exact Nat.le_of_ble_eq_true rfl | exact hy | (first | ((show ∀ p ∈ (_ : List (Nat × Nat)), p.1 < _); decide) | exact (fun p hp => nomatch hp)) | (show (_ : Nat) < _; omega))) ?_) | refine And.intro (covS_bool rfl rfl (by rfl)) ?_)
    · repeat (first | exact trivial | (refine And.intro (covE_id (Nat.le_of_ble_eq_true rfl) (by first | exact wf_ints _ _ | exact wf_bools _ _ | first | exact wf_us _ _ | exact wf_cells _ _ | (simp [C.wf]; done) | simp [C.wf]) rfl (by rfl)) ?_))
  · intro k hk
    refine vc_ok tok ?_
    by_cases hlt : k < ps.length
    · have hld := cellT (l := ps) (k := k) rfl hlt
      change takeC (cellC ps) (mulS ((k : Nat) : Int).toNat 2) 2 = some [C.i (ps.getD k cz).1, C.i (ps.getD k cz).2] at hld
      have he : (decide ((ps.getD k cz).1 = (ps.getD k cz).1) && (decide ((ps.getD k cz).2 = (ps.getD k cz).2) && true)) = true := by simp
      have hne : (!(decide ((ps.getD k cz).1 = (ps.getD k cz).1) && (decide ((ps.getD k cz).2 = (ps.getD k cz).2) && true))) = false := by simp
      repeat ((conv => whnf); first | (refine And.intro (by first | omega | exact Nat.le_of_ble_eq_true rfl | (dsimp only [inK]; omega) | (simp only [mulS_eq]; omega) | (simp only [mulS_eq, setL_length]; omega) | (simp only [setL_length]; omega) | (simp only [setL_length, List.length_map]; omega) | (exact ⟨by omega, by omega, by first | exact Nat.le_of_ble_eq_true rfl | (dsimp only; omega) | (simp only [setL_length]; omega) | (simp only [setL_length, List.length_map]; omega)⟩) | (exact ⟨by omega, by first | rfl | omega, by omega, Nat.le_of_ble_eq_true rfl, Nat.le_of_ble_eq_true rfl⟩) | (exact ⟨rfl, rfl, rfl, Nat.le_of_ble_eq_true rfl, by first | rfl | omega | exact Nat.le_of_ble_eq_true rfl | (dsimp only; omega) | (simp; done) | (simp; omega), by first | rfl | omega | exact Nat.le_of_ble_eq_true rfl | (dsimp only; omega) | (simp; done) | (simp; omega), by omega, Nat.le_of_ble_eq_true rfl⟩) | exact Eq.refl true) ?_) | with_reducible refine ld (hld) ?_ | refine Exists.intro _ (And.intro rfl ?_) | refine And.intro (And.intro rfl (chk_rowI _ _ _ _)) ?_ | refine br_t (by omega) ?_ | refine br_f (by omega) ?_ | refine bs_t (by omega) ?_ | refine bs_f (by omega) ?_ | refine fun (K' : K3) hK' => ?_ | (refine hK' _ _ _ ?_; clear hK' K') | refine draw_auto tok mixed (by kernel_rfl) ?_ | refine br_bf hne ?_ | refine bs_bf hne ?_ | refine bs_bt (Eq.refl true) ?_ | refine bs_bf (Eq.refl false) ?_ | refine br_bt (Eq.refl true) ?_ | refine br_bf (Eq.refl false) ?_ | refine CallK.m ?_ | refine Two.l ?_ | refine And.intro (And.intro rfl rfl) ?_)
      refine ⟨k + 1, [], by omega, by omega, ?_⟩
      refine ⟨?_, ?_, rfl, rfl, by first | exact Nat.le_of_ble_eq_true rfl | exact Nat.le_refl _ | omega⟩
      · repeat (first | exact trivial | (refine And.intro (covS_syn (by first | rfl | (refine congrArg some (congrArg V.i ?_); omega)) rfl (by first | exact trivial | exact Nat.le_of_ble_eq_true rfl | exact hy | (first | ((show ∀ p ∈ (_ : List (Nat × Nat)), p.1 < _); decide) | exact (fun p hp => nomatch hp)) | (show (_ : Nat) < _; omega))) ?_) | refine And.intro (covS_bool rfl rfl (by rfl)) ?_)
      · repeat (first | exact trivial | (refine And.intro (covE_id (Nat.le_of_ble_eq_true rfl) (by first | exact wf_ints _ _ | exact wf_bools _ _ | first | exact wf_us _ _ | exact wf_cells _ _ | (simp [C.wf]; done) | simp [C.wf]) rfl (by rfl)) ?_))
    · obtain rfl : k = ps.length := by omega
      repeat ((conv => whnf); first | (refine And.intro (by first | omega | exact Nat.le_of_ble_eq_true rfl | (dsimp only [inK]; omega) | (simp only [mulS_eq]; omega) | (simp only [mulS_eq, setL_length]; omega) | (simp only [setL_length]; omega) | (simp only [setL_length, List.length_map]; omega) | (exact ⟨by omega, by omega, by first | exact Nat.le_of_ble_eq_true rfl | (dsimp only; omega) | (simp only [setL_length]; omega) | (simp only [setL_length, List.length_map]; omega)⟩) | (exact ⟨by omega, by first | rfl | omega, by omega, Nat.le_of_ble_eq_true rfl, Nat.le_of_ble_eq_true rfl⟩) | (exact ⟨rfl, rfl, rfl, Nat.le_of_ble_eq_true rfl, by first | rfl | omega | exact Nat.le_of_ble_eq_true rfl | (dsimp only; omega) | (simp; done) | (simp; omega), by first | rfl | omega | exact Nat.le_of_ble_eq_true rfl | (dsimp only; omega) | (simp; done) | (simp; omega), by omega, Nat.le_of_ble_eq_true rfl⟩) | exact Eq.refl true) ?_) | refine Exists.intro _ (And.intro rfl ?_) | refine And.intro (And.intro rfl (chk_rowI _ _ _ _)) ?_ | refine br_t (by omega) ?_ | refine br_f (by omega) ?_ | refine bs_t (by omega) ?_ | refine bs_f (by omega) ?_ | refine fun (K' : K3) hK' => ?_ | (refine hK' _ _ _ ?_; clear hK' K') | refine draw_auto tok mixed (by kernel_rfl) ?_ | refine bs_bt (Eq.refl true) ?_ | refine bs_bf (Eq.refl false) ?_ | refine br_bt (Eq.refl true) ?_ | refine br_bf (Eq.refl false) ?_ | refine CallK.m ?_ | refine Two.l ?_ | refine And.intro (And.intro rfl rfl) ?_)
      intro ρ; rfl
theorem same_nil : Spec Tryd.prog 37 [V.agg [C.i 0, .nil], V.agg [C.i 0, .nil]] [] 0 (Is (V.c (.bool true))) := by
  have h1 : ¬ ((0 : Int) ≠ 0) := fun h => h rfl
  refine Spec.of tok Tryd.func37 rfl rfl rfl fun n0 cx => vc_ok tok ?_
  repeat ((conv => whnf); first | (refine And.intro (by first | omega | exact Nat.le_of_ble_eq_true rfl | (dsimp only [inK]; omega) | (simp only [mulS_eq]; omega) | (simp only [mulS_eq, setL_length]; omega) | (simp only [setL_length]; omega) | (simp only [setL_length, List.length_map]; omega) | (exact ⟨by omega, by omega, by first | exact Nat.le_of_ble_eq_true rfl | (dsimp only; omega) | (simp only [setL_length]; omega) | (simp only [setL_length, List.length_map]; omega)⟩) | (exact ⟨by omega, by first | rfl | omega, by omega, Nat.le_of_ble_eq_true rfl, Nat.le_of_ble_eq_true rfl⟩) | (exact ⟨rfl, rfl, rfl, Nat.le_of_ble_eq_true rfl, by first | rfl | omega | exact Nat.le_of_ble_eq_true rfl | (dsimp only; omega) | (simp; done) | (simp; omega), by first | rfl | omega | exact Nat.le_of_ble_eq_true rfl | (dsimp only; omega) | (simp; done) | (simp; omega), by omega, Nat.le_of_ble_eq_true rfl⟩) | exact Eq.refl true) ?_) | refine Exists.intro _ (And.intro rfl ?_) | refine And.intro (And.intro rfl (chk_rowI _ _ _ _)) ?_ | refine br_t (by omega) ?_ | refine br_f (by omega) ?_ | refine bs_t (by omega) ?_ | refine bs_f (by omega) ?_ | refine fun (K' : K3) hK' => ?_ | (refine hK' _ _ _ ?_; clear hK' K') | refine draw_auto tok mixed (by kernel_rfl) ?_ | refine bs_f h1 ?_ | refine br_f h1 ?_ | refine bs_bt (Eq.refl true) ?_ | refine bs_bf (Eq.refl false) ?_ | refine br_bt (Eq.refl true) ?_ | refine br_bf (Eq.refl false) ?_ | refine CallK.m ?_ | refine Two.l ?_ | refine And.intro (And.intro rfl rfl) ?_)
  refine Tri.loop (γ := Nat) (fun k => k = 0) (fun k => [(2, V.c (.ptr 0 0)), (3, V.c (.ptr 1 0)), (4, V.c .ff), (22, V.i 0), (23, V.i 0)])
    (fun k => [⟨1, .own 24, [C.i 0, .nil]⟩, ⟨0, .own 24, [C.i 0, .nil]⟩]) 2 (fun k => 0) 0 (R0 := []) ?_ ?_ ?_
  · rfl
  · skip
    refine ⟨?_, ?_, rfl, rfl, by first | exact Nat.le_of_ble_eq_true rfl | exact Nat.le_refl _ | omega⟩
    · repeat (first | exact trivial | (refine And.intro (covS_syn (by rfl) rfl (by first | exact trivial | exact Nat.le_of_ble_eq_true rfl | exact hy | (first | ((show ∀ p ∈ (_ : List (Nat × Nat)), p.1 < _); decide) | exact (fun p hp => nomatch hp)) | (show (_ : Nat) < _; omega))) ?_) | refine And.intro (covS_bool rfl rfl (by rfl)) ?_)
    · repeat (first | exact trivial | (refine And.intro (covE_id (Nat.le_of_ble_eq_true rfl) (by first | exact wf_ints _ _ | exact wf_bools _ _ | first | exact wf_us _ _ | exact wf_cells _ _ | (simp [C.wf]; done) | simp [C.wf]) rfl (by rfl)) ?_))
  · intro k hk
    refine vc_ok tok ?_
    repeat ((conv => whnf); first | (refine And.intro (by first | omega | exact Nat.le_of_ble_eq_true rfl | (dsimp only [inK]; omega) | (simp only [mulS_eq]; omega) | (simp only [mulS_eq, setL_length]; omega) | (simp only [setL_length]; omega) | (simp only [setL_length, List.length_map]; omega) | (exact ⟨by omega, by omega, by first | exact Nat.le_of_ble_eq_true rfl | (dsimp only; omega) | (simp only [setL_length]; omega) | (simp only [setL_length, List.length_map]; omega)⟩) | (exact ⟨by omega, by first | rfl | omega, by omega, Nat.le_of_ble_eq_true rfl, Nat.le_of_ble_eq_true rfl⟩) | (exact ⟨rfl, rfl, rfl, Nat.le_of_ble_eq_true rfl, by first | rfl | omega | exact Nat.le_of_ble_eq_true rfl | (dsimp only; omega) | (simp; done) | (simp; omega), by first | rfl | omega | exact Nat.le_of_ble_eq_true rfl | (dsimp only; omega) | (simp; done) | (simp; omega), by omega, Nat.le_of_ble_eq_true rfl⟩) | exact Eq.refl true) ?_) | refine Exists.intro _ (And.intro rfl ?_) | refine And.intro (And.intro rfl (chk_rowI _ _ _ _)) ?_ | refine br_t (by omega) ?_ | refine br_f (by omega) ?_ | refine bs_t (by omega) ?_ | refine bs_f (by omega) ?_ | refine fun (K' : K3) hK' => ?_ | (refine hK' _ _ _ ?_; clear hK' K') | refine draw_auto tok mixed (by kernel_rfl) ?_ | refine bs_bt (Eq.refl true) ?_ | refine bs_bf (Eq.refl false) ?_ | refine br_bt (Eq.refl true) ?_ | refine br_bf (Eq.refl false) ?_ | refine CallK.m ?_ | refine Two.l ?_ | refine And.intro (And.intro rfl rfl) ?_)
    intro ρ; rfl
/-- What has come behind some pairs. -/
def erK (ps : List Cell) (i k : Nat) : List Cell := (ps.take k).eraseIdx i
theorem erK_succ {ps : List Cell} {i k : Nat} (h : k < ps.length) : erK ps i (k + 1) = if k = i then erK ps i k else erK ps i k ++ [ps.getD k cz] := by
  have e : ps[k]?.toList = [ps.getD k cz] := by rw [List.getElem?_eq_getElem h, List.getD_eq_getElem?_getD, List.getElem?_eq_getElem h]; rfl
  have hl : (ps.take k).length = k := by rw [List.length_take]; omega
  unfold erK
  rw [List.take_add_one, e]
  rcases Nat.lt_or_ge i k with h1 | h1
  · rw [if_neg (by omega), List.eraseIdx_append_of_lt_length (by omega)]
  · rw [List.eraseIdx_append_of_length_le (by omega), hl]
    have h3 : (ps.take k).eraseIdx i = ps.take k := List.eraseIdx_of_length_le (by omega)
    rw [h3]
    by_cases h2 : k = i
    · subst h2; rw [if_pos rfl, Nat.sub_self]; simp
    · rw [if_neg h2, List.eraseIdx_of_length_le (by simp; omega)]
set_option maxRecDepth 10000 in
theorem rwithout_err (N z : Int) (ps : List Cell) (hl : ps.length ≤ 100) (Er : Int) (he : pairE N ps z = Er) (hE : Er ≠ 0) : Spec Tryd.prog 36 [kX N ps, V.i z] [⟨0, .ro 2, cellC ps⟩] 1 (Is (V.tup [A.agg [C.i 0, .nil], A.c (C.i Er)])) := by
  have hpd := rpaired_spec N z ps hl
  rw [he] at hpd
  refine Spec.of tok Tryd.func36 rfl rfl rfl fun n0 cx => vc_ok tok ?_
  repeat ((conv => whnf); first | (refine And.intro (by first | omega | exact Nat.le_of_ble_eq_true rfl | (dsimp only [inK]; omega) | (simp only [mulS_eq]; omega) | (simp only [mulS_eq, setL_length]; omega) | (simp only [setL_length]; omega) | (simp only [setL_length, List.length_map]; omega) | (exact ⟨by omega, by omega, by first | exact Nat.le_of_ble_eq_true rfl | (dsimp only; omega) | (simp only [setL_length]; omega) | (simp only [setL_length, List.length_map]; omega)⟩) | (exact ⟨by omega, by first | rfl | omega, by omega, Nat.le_of_ble_eq_true rfl, Nat.le_of_ble_eq_true rfl⟩) | (exact ⟨rfl, rfl, rfl, Nat.le_of_ble_eq_true rfl, by first | rfl | omega | exact Nat.le_of_ble_eq_true rfl | (dsimp only; omega) | (simp; done) | (simp; omega), by first | rfl | omega | exact Nat.le_of_ble_eq_true rfl | (dsimp only; omega) | (simp; done) | (simp; omega), by omega, Nat.le_of_ble_eq_true rfl⟩) | exact Eq.refl true) ?_) | refine Exists.intro _ (And.intro rfl ?_) | refine And.intro (And.intro rfl (chk_rowI _ _ _ _)) ?_ | refine br_t (by omega) ?_ | refine br_f (by omega) ?_ | refine bs_t (by omega) ?_ | refine bs_f (by omega) ?_ | refine fun (K' : K3) hK' => ?_ | (refine hK' _ _ _ ?_; clear hK' K') | refine draw_auto tok mixed (by kernel_rfl) ?_ | refine CallK.val (R := []) hpd (by kernel_rfl) rfl (by simp [V.wf, A.wf, C.wf, V.i]) ⟨roE_f (flat_c _) (l := 0) rfl (by omega) rfl (.inr rfl), trivial⟩ rfl rfl trivial ?_ | refine br_t hE ?_ | refine bs_bt (Eq.refl true) ?_ | refine bs_bf (Eq.refl false) ?_ | refine br_bt (Eq.refl true) ?_ | refine br_bf (Eq.refl false) ?_ | refine CallK.m ?_ | refine Two.l ?_ | refine And.intro (And.intro rfl rfl) ?_)
  intro ρ; rfl
theorem chk_rowC (p : Nat → Bool) (l : List Cell) (lab : Nat) (kd : Kd) : (([⟨lab, kd, cellC l⟩] : List E).all fun e => e.cs.all (C.chk p)) = true := by
  simp only [List.all_cons, List.all_nil, Bool.and_true]
  exact (flat_c _).chk p
set_option maxRecDepth 10000 in
set_option maxHeartbeats 4000000 in
theorem rwithout_spec (n : Nat) (qs : List (Nat × Nat)) (hk : Knd n qs) (i : Nat) (hi : i < qs.length) : Spec Tryd.prog 36 [kX n (castP qs), V.i (i : Nat)] [⟨0, .ro 2, cellC (castP qs)⟩] 1
    (fun v L' _ => rowA 59 2 ((castP qs).eraseIdx i).length (n : Int) (cellC ((castP qs).eraseIdx i)) v L') := by
  have hpl := castP_len qs
  have hql := knd_len hk
  have hpd := rpaired_spec n i (castP qs) (by omega)
  rw [pairE_ok hk hi] at hpd
  obtain ⟨ps, hps⟩ : ∃ ps, ps = castP qs := ⟨_, rfl⟩
  rw [← hps] at hpl hpd ⊢
  have hcl := cellC_len ps
  refine Spec.of tok Tryd.func36 rfl rfl rfl fun n0 cx => vc_ok tok ?_
  repeat ((conv => whnf); first | (refine And.intro (by first | omega | exact Nat.le_of_ble_eq_true rfl | (dsimp only [inK]; omega) | (simp only [mulS_eq]; omega) | (simp only [mulS_eq, setL_length]; omega) | (simp only [setL_length]; omega) | (simp only [setL_length, List.length_map]; omega) | (exact ⟨by omega, by omega, by first | exact Nat.le_of_ble_eq_true rfl | (dsimp only; omega) | (simp only [setL_length]; omega) | (simp only [setL_length, List.length_map]; omega)⟩) | (exact ⟨by omega, by first | rfl | omega, by omega, Nat.le_of_ble_eq_true rfl, Nat.le_of_ble_eq_true rfl⟩) | (exact ⟨rfl, rfl, rfl, Nat.le_of_ble_eq_true rfl, by first | rfl | omega | exact Nat.le_of_ble_eq_true rfl | (dsimp only; omega) | (simp; done) | (simp; omega), by first | rfl | omega | exact Nat.le_of_ble_eq_true rfl | (dsimp only; omega) | (simp; done) | (simp; omega), by omega, Nat.le_of_ble_eq_true rfl⟩) | exact Eq.refl true) ?_) | refine Exists.intro _ (And.intro rfl ?_) | refine And.intro (And.intro rfl (chk_rowI _ _ _ _)) ?_ | refine br_t (by omega) ?_ | refine br_f (by omega) ?_ | refine bs_t (by omega) ?_ | refine bs_f (by omega) ?_ | refine fun (K' : K3) hK' => ?_ | (refine hK' _ _ _ ?_; clear hK' K') | refine draw_auto tok mixed (by kernel_rfl) ?_ | refine CallK.val (R := []) hpd (by kernel_rfl) rfl (by simp [V.wf, A.wf, C.wf, V.i]) ⟨roE_f (flat_c _) (l := 0) rfl (by omega) rfl (.inr rfl), trivial⟩ rfl rfl trivial ?_ | refine bs_bt (Eq.refl true) ?_ | refine bs_bf (Eq.refl false) ?_ | refine br_bt (Eq.refl true) ?_ | refine br_bf (Eq.refl false) ?_ | refine CallK.m ?_ | refine Two.l ?_ | refine And.intro (And.intro rfl rfl) ?_)
  refine Tri.loop (γ := Nat) (fun k => k ≤ ps.length) (fun k => [(1, V.i (i : Nat)), (2, V.c (.ptr 1 0)), (4, V.c (.ptr 2 0)), (7, V.c (.ptr 3 0)), (21, V.c (.sl 0 ps.length)), (22, V.i ps.length), (23, V.i (k : Nat))])
    (fun k => [⟨4, .vec 59 2, cellC (erK ps i k)⟩, ⟨3, .own 24, [C.i n, .sl 4 (erK ps i k).length]⟩, ⟨2, .own 24, [C.i 0, .nil]⟩, ⟨1, .own 24, [C.i n, .sl 0 ps.length]⟩, ⟨0, .ro 2, cellC ps⟩]) 5 (fun k => ps.length - k) 0 (R0 := [(4, none)]) ?_ ?_ ?_
  · omega
  · have h0 : erK ps i 0 = [] := by simp [erK]
    rw [h0]
    refine ⟨?_, ?_, rfl, rfl, by first | exact Nat.le_of_ble_eq_true rfl | exact Nat.le_refl _ | omega⟩
    · repeat (first | exact trivial | (refine And.intro (covS_syn (by rfl) rfl (by first | exact trivial | exact Nat.le_of_ble_eq_true rfl | exact hy | (first | ((show ∀ p ∈ (_ : List (Nat × Nat)), p.1 < _); decide) | exact (fun p hp => nomatch hp)) | (show (_ : Nat) < _; omega))) ?_) | refine And.intro (covS_bool rfl rfl (by rfl)) ?_)
    · repeat (first | exact trivial | refine And.intro ⟨Nat.le_of_ble_eq_true rfl, by simp [C.wf], _, _, rfl, .inl rfl, fun ρ => rfl⟩ ?_ | refine And.intro (covE_c rfl (Nat.le_of_ble_eq_true rfl) rfl rfl) ?_ | refine And.intro (covE_nil rfl (Nat.le_of_ble_eq_true rfl) rfl rfl) ?_ | (refine And.intro (covE_some rfl (Nat.le_of_ble_eq_true rfl) (by first | exact wf_ints _ _ | exact wf_bools _ _ | first | exact wf_us _ _ | exact wf_cells _ _ | (simp [C.wf]; done) | simp [C.wf]) rfl (by first | exact ren_ints _ _ | exact ren_bools _ _ | exact ren_shares _ _ | rfl)) ?_))
  · intro k hk
    refine vc_ok tok ?_
    by_cases hlt : k < ps.length
    · have hld := cellT (l := ps) (k := k) rfl hlt
      change takeC (cellC ps) (mulS ((k : Nat) : Int).toNat 2) 2 = some [C.i (ps.getD k cz).1, C.i (ps.getD k cz).2] at hld
      have hsucc := erK_succ (i := i) hlt
      have hel : (erK ps i k).length ≤ 28 := by
        have h1 := List.length_eraseIdx_le (ps.take k) i
        rw [List.length_take] at h1
        unfold erK; omega
      obtain ⟨p, hp⟩ : ∃ p, p = ps.getD k cz := ⟨_, rfl⟩
      obtain ⟨e0, he0⟩ : ∃ e0, e0 = erK ps i k := ⟨_, rfl⟩
      rw [← hp] at hld hsucc
      rw [← he0] at hsucc hel ⊢
      have hcl0 := cellC_len e0
      by_cases hki : (k : Int) ≠ (i : Nat)
      · rw [if_neg (by omega)] at hsucc
        have happ : cellC e0 ++ [C.i p.1, C.i p.2] = cellC (e0 ++ [p]) := by rw [cellC_app]; rfl
        have hll : (e0 ++ [p]).length = e0.length + 1 := by simp
        repeat ((conv => whnf); first | (refine And.intro (by first | omega | exact Nat.le_of_ble_eq_true rfl | (dsimp only [inK]; omega) | (simp only [mulS_eq]; omega) | (simp only [mulS_eq, setL_length]; omega) | (simp only [setL_length]; omega) | (simp only [setL_length, List.length_map]; omega) | (exact ⟨by omega, by omega, by first | exact Nat.le_of_ble_eq_true rfl | (dsimp only; omega) | (simp only [setL_length]; omega) | (simp only [setL_length, List.length_map]; omega)⟩) | (exact ⟨by omega, by first | rfl | omega, by omega, Nat.le_of_ble_eq_true rfl, Nat.le_of_ble_eq_true rfl⟩) | (exact ⟨rfl, rfl, rfl, Nat.le_of_ble_eq_true rfl, by first | rfl | omega | exact Nat.le_of_ble_eq_true rfl | (dsimp only; omega) | (simp; done) | (simp; omega), by first | rfl | omega | exact Nat.le_of_ble_eq_true rfl | (dsimp only; omega) | (simp; done) | (simp; omega), by omega, Nat.le_of_ble_eq_true rfl⟩) | exact Eq.refl true) ?_) | with_reducible refine ld (hld) ?_ | refine Exists.intro _ (And.intro rfl ?_) | refine And.intro (And.intro rfl (chk_rowI _ _ _ _)) ?_ | refine br_t (by omega) ?_ | refine br_f (by omega) ?_ | refine bs_t (by omega) ?_ | refine bs_f (by omega) ?_ | refine fun (K' : K3) hK' => ?_ | (refine hK' _ _ _ ?_; clear hK' K') | refine draw_auto tok mixed (by kernel_rfl) ?_ | refine bs_t hki ?_ | refine br_t hki ?_ | refine And.intro (And.intro rfl ((congrArg (fun cs => ([⟨_, _, cs⟩] : List E).all _) happ).trans (chk_rowC _ _ _ _))) ?_ | refine bs_bt (Eq.refl true) ?_ | refine bs_bf (Eq.refl false) ?_ | refine br_bt (Eq.refl true) ?_ | refine br_bf (Eq.refl false) ?_ | refine CallK.m ?_ | refine Two.l ?_ | refine And.intro (And.intro rfl rfl) ?_)
        refine ⟨k + 1, [(4, some 7)], by omega, by omega, ?_⟩
        rw [hsucc, hll]
        refine ⟨?_, ?_, rfl, rfl, by first | exact Nat.le_of_ble_eq_true rfl | exact Nat.le_refl _ | omega⟩
        · repeat (first | exact trivial | (refine And.intro (covS_syn (by first | rfl | (refine congrArg some (congrArg V.i ?_); omega)) rfl (by first | exact trivial | exact Nat.le_of_ble_eq_true rfl | exact hy | (first | ((show ∀ p ∈ (_ : List (Nat × Nat)), p.1 < _); decide) | exact (fun p hp => nomatch hp)) | (show (_ : Nat) < _; omega))) ?_) | refine And.intro (covS_bool rfl rfl (by rfl)) ?_)
        · repeat (first | exact trivial | refine And.intro (covE_c rfl (Nat.le_of_ble_eq_true rfl) rfl happ) ?_ | refine And.intro (covE_c rfl (Nat.le_of_ble_eq_true rfl) rfl rfl) ?_ | refine And.intro (covE_nil rfl (Nat.le_of_ble_eq_true rfl) rfl rfl) ?_ | (refine And.intro (covE_some rfl (Nat.le_of_ble_eq_true rfl) (by first | exact wf_ints _ _ | exact wf_bools _ _ | first | exact wf_us _ _ | exact wf_cells _ _ | (simp [C.wf]; done) | simp [C.wf]) rfl (by first | exact ren_ints _ _ | exact ren_bools _ _ | exact ren_shares _ _ | rfl)) ?_))
      · rw [if_pos (by omega)] at hsucc
        repeat ((conv => whnf); first | (refine And.intro (by first | omega | exact Nat.le_of_ble_eq_true rfl | (dsimp only [inK]; omega) | (simp only [mulS_eq]; omega) | (simp only [mulS_eq, setL_length]; omega) | (simp only [setL_length]; omega) | (simp only [setL_length, List.length_map]; omega) | (exact ⟨by omega, by omega, by first | exact Nat.le_of_ble_eq_true rfl | (dsimp only; omega) | (simp only [setL_length]; omega) | (simp only [setL_length, List.length_map]; omega)⟩) | (exact ⟨by omega, by first | rfl | omega, by omega, Nat.le_of_ble_eq_true rfl, Nat.le_of_ble_eq_true rfl⟩) | (exact ⟨rfl, rfl, rfl, Nat.le_of_ble_eq_true rfl, by first | rfl | omega | exact Nat.le_of_ble_eq_true rfl | (dsimp only; omega) | (simp; done) | (simp; omega), by first | rfl | omega | exact Nat.le_of_ble_eq_true rfl | (dsimp only; omega) | (simp; done) | (simp; omega), by omega, Nat.le_of_ble_eq_true rfl⟩) | exact Eq.refl true) ?_) | with_reducible refine ld (hld) ?_ | refine Exists.intro _ (And.intro rfl ?_) | refine And.intro (And.intro rfl (chk_rowI _ _ _ _)) ?_ | refine br_t (by omega) ?_ | refine br_f (by omega) ?_ | refine bs_t (by omega) ?_ | refine bs_f (by omega) ?_ | refine fun (K' : K3) hK' => ?_ | (refine hK' _ _ _ ?_; clear hK' K') | refine draw_auto tok mixed (by kernel_rfl) ?_ | refine bs_f hki ?_ | refine br_f hki ?_ | refine bs_bt (Eq.refl true) ?_ | refine bs_bf (Eq.refl false) ?_ | refine br_bt (Eq.refl true) ?_ | refine br_bf (Eq.refl false) ?_ | refine CallK.m ?_ | refine Two.l ?_ | refine And.intro (And.intro rfl rfl) ?_)
        refine ⟨k + 1, [], by omega, by omega, ?_⟩
        rw [hsucc]
        refine ⟨?_, ?_, rfl, rfl, by first | exact Nat.le_of_ble_eq_true rfl | exact Nat.le_refl _ | omega⟩
        · repeat (first | exact trivial | (refine And.intro (covS_syn (by first | rfl | (refine congrArg some (congrArg V.i ?_); omega)) rfl (by first | exact trivial | exact Nat.le_of_ble_eq_true rfl | exact hy | (first | ((show ∀ p ∈ (_ : List (Nat × Nat)), p.1 < _); decide) | exact (fun p hp => nomatch hp)) | (show (_ : Nat) < _; omega))) ?_) | refine And.intro (covS_bool rfl rfl (by rfl)) ?_)
        · repeat (first | exact trivial | (refine And.intro (covE_id (Nat.le_of_ble_eq_true rfl) (by first | exact wf_ints _ _ | exact wf_bools _ _ | first | exact wf_us _ _ | exact wf_cells _ _ | (simp [C.wf]; done) | simp [C.wf]) rfl (by rfl)) ?_))
    · obtain rfl : k = ps.length := by omega
      have hfin : erK ps i ps.length = ps.eraseIdx i := by unfold erK; rw [List.take_length]
      rw [hfin]
      repeat ((conv => whnf); first | (refine And.intro (by first | omega | exact Nat.le_of_ble_eq_true rfl | (dsimp only [inK]; omega) | (simp only [mulS_eq]; omega) | (simp only [mulS_eq, setL_length]; omega) | (simp only [setL_length]; omega) | (simp only [setL_length, List.length_map]; omega) | (exact ⟨by omega, by omega, by first | exact Nat.le_of_ble_eq_true rfl | (dsimp only; omega) | (simp only [setL_length]; omega) | (simp only [setL_length, List.length_map]; omega)⟩) | (exact ⟨by omega, by first | rfl | omega, by omega, Nat.le_of_ble_eq_true rfl, Nat.le_of_ble_eq_true rfl⟩) | (exact ⟨rfl, rfl, rfl, Nat.le_of_ble_eq_true rfl, by first | rfl | omega | exact Nat.le_of_ble_eq_true rfl | (dsimp only; omega) | (simp; done) | (simp; omega), by first | rfl | omega | exact Nat.le_of_ble_eq_true rfl | (dsimp only; omega) | (simp; done) | (simp; omega), by omega, Nat.le_of_ble_eq_true rfl⟩) | exact Eq.refl true) ?_) | refine Exists.intro _ (And.intro rfl ?_) | refine And.intro (And.intro rfl (chk_rowI _ _ _ _)) ?_ | refine br_t (by omega) ?_ | refine br_f (by omega) ?_ | refine bs_t (by omega) ?_ | refine bs_f (by omega) ?_ | refine fun (K' : K3) hK' => ?_ | (refine hK' _ _ _ ?_; clear hK' K') | refine draw_auto tok mixed (by kernel_rfl) ?_ | refine bs_bt (Eq.refl true) ?_ | refine bs_bf (Eq.refl false) ?_ | refine br_bt (Eq.refl true) ?_ | refine br_bf (Eq.refl false) ?_ | refine CallK.m ?_ | refine Two.l ?_ | refine And.intro (And.intro rfl rfl) ?_)
      exact rfl
end Go.Proofs.YtijnimgmpocmaaaDoor

/- Waste: everything, size, loadings. -/
namespace Go.Proofs.YtijnimgmpocmaaaDoor
open Go.RowKit
set_option linter.unusedVariables false
set_option linter.unusedSimpArgs false
theorem every_spec (n m : Nat) (hn : n ≤ 8) : Spec Tryd.prog 94 [V.c (.sl 0 n)] [] 1 (Is (V.u (2 ^ n - 1))) := by
  have h1 := pow_8 hn
  have h0 : 0 < 2 ^ n := Nat.two_pow_pos n
  have h2 : ((2 : Int) ^ n) = ((2 ^ n : Nat) : Int) := by simp
  have h3 : (1 : Int) * 2 ^ ((n : Nat) : Int).toNat = ((2 ^ n : Nat) : Int) := by rw [Int.toNat_natCast, h2]; simp
  clear h2
  obtain ⟨k, hm⟩ : ∃ k, k = 2 ^ n := ⟨_, rfl⟩
  rw [← hm] at h1 h0 h3 ⊢
  clear hm
  refine Spec.of tok Tryd.func94 rfl rfl rfl fun n0 cx => vc_ok tok ?_
  repeat ((conv => whnf); first | (refine And.intro (by first | omega | exact Nat.le_of_ble_eq_true rfl | (dsimp only [inK]; omega) | (simp only [mulS_eq]; omega) | (simp only [mulS_eq, setL_length]; omega) | (simp only [setL_length]; omega) | (simp only [setL_length, List.length_map]; omega) | (exact ⟨by omega, by omega, by first | exact Nat.le_of_ble_eq_true rfl | (dsimp only; omega) | (simp only [setL_length]; omega) | (simp only [setL_length, List.length_map]; omega)⟩) | (exact ⟨by omega, by first | rfl | omega, by omega, Nat.le_of_ble_eq_true rfl, Nat.le_of_ble_eq_true rfl⟩) | (exact ⟨rfl, rfl, rfl, Nat.le_of_ble_eq_true rfl, by first | rfl | omega | exact Nat.le_of_ble_eq_true rfl | (dsimp only; omega) | (simp; done) | (simp; omega), by first | rfl | omega | exact Nat.le_of_ble_eq_true rfl | (dsimp only; omega) | (simp; done) | (simp; omega), by omega, Nat.le_of_ble_eq_true rfl⟩) | exact Eq.refl true) ?_) | refine Exists.intro _ (And.intro rfl ?_) | refine And.intro (And.intro rfl (chk_rowI _ _ _ _)) ?_ | refine br_t (by omega) ?_ | refine br_f (by omega) ?_ | refine bs_t (by omega) ?_ | refine bs_f (by omega) ?_ | refine fun (K' : K3) hK' => ?_ | (refine hK' _ _ _ ?_; clear hK' K') | refine draw_auto tok mixed (by kernel_rfl) ?_ | (refine And.intro ⟨by omega, by omega, by rw [h3]; dsimp only [inK]; omega⟩ ?_) | (refine And.intro (by rw [h3]; dsimp only [inK]; omega) ?_) | refine bs_bt (Eq.refl true) ?_ | refine bs_bf (Eq.refl false) ?_ | refine br_bt (Eq.refl true) ?_ | refine br_bf (Eq.refl false) ?_ | refine CallK.m ?_ | refine Two.l ?_ | refine And.intro (And.intro rfl rfl) ?_)
  intro ρ
  show Value.int _ _ = Value.int _ _
  rw [h3, show ((k - 1 : Nat) : Int) = (k : Int) - 1 by omega]
/-- How many bits, as the library works it out. -/
def oc1 (x : Int) : Int := bitI .and .u64 (shrI .u64 x 1) 6148914691236517205 + bitI .and .u64 x 6148914691236517205
def oc2 (x : Int) : Int := bitI .and .u64 (shrI .u64 x 2) 3689348814741910323 + bitI .and .u64 x 3689348814741910323
def oc3 (x : Int) : Int := bitI .and .u64 (shrI .u64 x 4 + x) 1085102592571150095
def oc4 (x : Int) : Int := x + shrI .u64 x 8
def oc5 (x : Int) : Int := x + shrI .u64 x 16
def oc6 (x : Int) : Int := x + shrI .u64 x 32
end Go.Proofs.YtijnimgmpocmaaaDoor

/- Waste: the kinds of which the others clash. -/
namespace Go.Proofs.YtijnimgmpocmaaaDoor
open Go.RowKit
set_option linter.unusedVariables false
set_option linter.unusedSimpArgs false
def otF (t : List Nat) (n a : Nat) : Nat := dif (2 ^ n - 1) (t.getD a 0 ||| 2 ^ a)
def otK (t : List Nat) (n k : Nat) : List Nat := (List.range k).map (otF t n)
theorem otK_succ (t : List Nat) (n k : Nat) : otK t n (k + 1) = otK t n k ++ [otF t n k] := by simp [otK, List.range_succ]
theorem otK_len (t : List Nat) (n k : Nat) : (otK t n k).length = k := by simp [otK]
theorem dif_lt8 {x y n : Nat} (h : x < 2 ^ n) : dif x y < 2 ^ n := by
  unfold dif; exact Nat.xor_lt_two_pow h (Nat.lt_of_le_of_lt Nat.and_le_left h)
theorem otK_lt {t : List Nat} {n k : Nat} (hn : n ≤ 8) : ∀ x ∈ otK t n k, x < 256 := fun x hx => by
  obtain ⟨a, _, rfl⟩ := List.mem_map.1 hx
  have h1 := pow_8 hn
  have h0 := Nat.two_pow_pos n
  have := dif_lt8 (x := 2 ^ n - 1) (y := t.getD a 0 ||| 2 ^ a) (n := n) (by omega)
  unfold otF; omega
set_option maxRecDepth 10000 in
set_option maxHeartbeats 4000000 in
theorem other_spec (t : List Nat) (n : Nat) (htl : t.length = n) (hn : n ≤ 8) (ht : ∀ x ∈ t, x < 256) : Spec Tryd.prog 76 [V.c (.sl 0 n)] [⟨0, .ro 0, t.map C.u⟩] 1 (fun v L' _ => ∃ lab, v = V.c (.sl lab n) ∧ find L' lab = some ⟨lab, .vec 75 1, (otK t n n).map C.u⟩) := by
  have hev := every_spec n 0 hn
  have h8 := pow_8 hn
  have h0 := Nat.two_pow_pos n
  have htm : (t.map C.u).length = n := by rw [List.length_map, htl]
  refine Spec.of tok Tryd.func76 rfl rfl rfl fun n0 cx => vc_ok tok ?_
  repeat ((conv => whnf); first | (refine And.intro (by first | omega | exact Nat.le_of_ble_eq_true rfl | (dsimp only [inK]; omega) | (simp only [mulS_eq]; omega) | (simp only [mulS_eq, setL_length]; omega) | (simp only [setL_length]; omega) | (simp only [setL_length, List.length_map]; omega) | (exact ⟨by omega, by omega, by first | exact Nat.le_of_ble_eq_true rfl | (dsimp only; omega) | (simp only [setL_length]; omega) | (simp only [setL_length, List.length_map]; omega)⟩) | (exact ⟨by omega, by first | rfl | omega, by omega, Nat.le_of_ble_eq_true rfl, Nat.le_of_ble_eq_true rfl⟩) | (exact ⟨rfl, rfl, rfl, Nat.le_of_ble_eq_true rfl, by first | rfl | omega | exact Nat.le_of_ble_eq_true rfl | (dsimp only; omega) | (simp; done) | (simp; omega), by first | rfl | omega | exact Nat.le_of_ble_eq_true rfl | (dsimp only; omega) | (simp; done) | (simp; omega), by omega, Nat.le_of_ble_eq_true rfl⟩) | exact Eq.refl true) ?_) | refine Exists.intro _ (And.intro rfl ?_) | refine And.intro (And.intro rfl (chk_rowI _ _ _ _)) ?_ | refine br_t (by omega) ?_ | refine br_f (by omega) ?_ | refine bs_t (by omega) ?_ | refine bs_f (by omega) ?_ | refine fun (K' : K3) hK' => ?_ | (refine hK' _ _ _ ?_; clear hK' K') | refine draw_auto tok mixed (by kernel_rfl) ?_ | refine bs_bt (Eq.refl true) ?_ | refine bs_bf (Eq.refl false) ?_ | refine br_bt (Eq.refl true) ?_ | refine br_bf (Eq.refl false) ?_ | refine CallK.m ?_ | refine Two.l ?_ | refine And.intro (And.intro rfl rfl) ?_)
  refine Tri.loop (γ := Nat) (fun k => k ≤ n) (fun k => [(0, V.c (.sl 0 n)), (3, V.c (.sl 1 k)), (6, V.c (.sl 0 n)), (7, V.i n), (8, V.i (k : Nat))])
    (fun k => [⟨1, .vec 75 1, (otK t n k).map C.u⟩, ⟨0, .ro 0, t.map C.u⟩]) 2 (fun k => n - k) 0 (R0 := [(1, none)]) ?_ ?_ ?_
  · omega
  · skip
    refine ⟨?_, ?_, rfl, rfl, by first | exact Nat.le_of_ble_eq_true rfl | exact Nat.le_refl _ | omega⟩
    · repeat (first | exact trivial | (refine And.intro (covS_syn (by rfl) rfl (by first | exact trivial | exact Nat.le_of_ble_eq_true rfl | exact hy | (first | ((show ∀ p ∈ (_ : List (Nat × Nat)), p.1 < _); decide) | exact (fun p hp => nomatch hp)) | (show (_ : Nat) < _; omega))) ?_) | refine And.intro (covS_bool rfl rfl (by rfl)) ?_)
    · repeat (first | exact trivial | refine And.intro (covE_u rfl (Nat.le_of_ble_eq_true rfl) rfl rfl) ?_ | refine And.intro (covE_nil rfl (Nat.le_of_ble_eq_true rfl) rfl rfl) ?_ | (refine And.intro (covE_some rfl (Nat.le_of_ble_eq_true rfl) (by first | exact wf_ints _ _ | exact wf_bools _ _ | first | exact wf_us _ _ | exact wf_cells _ _ | (simp [C.wf]; done) | simp [C.wf]) rfl (by first | exact ren_ints _ _ | exact ren_bools _ _ | exact ren_shares _ _ | rfl)) ?_))
  · intro k hk
    refine vc_ok tok ?_
    by_cases hlt : k < n
    · have hld : (t.map C.u)[mulS ((k : Nat) : Int).toNat 1]? = some (C.u (t.getD k 0)) := uLz rfl (by omega)
      have hsucc := otK_succ t n k
      have ha := getD_lt (by omega) ht k
      have hw := with_spec (t.getD k 0) k ha (by omega)
      have hpk := pow_256 (show k < 8 by omega)
      have hof : otF t n k = dif (2 ^ n - 1) (t.getD k 0 ||| 2 ^ k) := rfl
      obtain ⟨M, hM⟩ : ∃ M, M = 2 ^ n - 1 := ⟨_, rfl⟩
      obtain ⟨u, hu⟩ : ∃ u, u = t.getD k 0 ||| 2 ^ k := ⟨_, rfl⟩
      have hu256 : u < 256 := by rw [hu]; exact or_256 ha hpk
      rw [← hM, ← hu] at hof
      rw [← hM] at hev
      rw [← hu] at hw
      have hbt := bit_andNot (x := M) (y := u) (by omega) (by omega)
      have hkl := otK_len t n k
      obtain ⟨o, ho⟩ : ∃ o, o = otK t n k := ⟨_, rfl⟩
      rw [← ho] at hsucc hkl ⊢
      have hol : (o.map C.u).length = k := by rw [List.length_map, hkl]
      have happ : o.map C.u ++ [C.int .u64 (bitI .andNot .u64 (M : Int) (u : Int))] = (otK t n (k + 1)).map C.u := by rw [hbt, ← hof, hsucc]; simp
      repeat ((conv => whnf); first | (refine And.intro (by first | omega | exact Nat.le_of_ble_eq_true rfl | (dsimp only [inK]; omega) | (simp only [mulS_eq]; omega) | (simp only [mulS_eq, setL_length]; omega) | (simp only [setL_length]; omega) | (simp only [setL_length, List.length_map]; omega) | (exact ⟨by omega, by omega, by first | exact Nat.le_of_ble_eq_true rfl | (dsimp only; omega) | (simp only [setL_length]; omega) | (simp only [setL_length, List.length_map]; omega)⟩) | (exact ⟨by omega, by first | rfl | omega, by omega, Nat.le_of_ble_eq_true rfl, Nat.le_of_ble_eq_true rfl⟩) | (exact ⟨rfl, rfl, rfl, Nat.le_of_ble_eq_true rfl, by first | rfl | omega | exact Nat.le_of_ble_eq_true rfl | (dsimp only; omega) | (simp; done) | (simp; omega), by first | rfl | omega | exact Nat.le_of_ble_eq_true rfl | (dsimp only; omega) | (simp; done) | (simp; omega), by omega, Nat.le_of_ble_eq_true rfl⟩) | exact Eq.refl true) ?_) | with_reducible refine ld (hld) ?_ | refine Exists.intro _ (And.intro rfl ?_) | refine And.intro (And.intro rfl (chk_rowI _ _ _ _)) ?_ | refine br_t (by omega) ?_ | refine br_f (by omega) ?_ | refine bs_t (by omega) ?_ | refine bs_f (by omega) ?_ | refine fun (K' : K3) hK' => ?_ | (refine hK' _ _ _ ?_; clear hK' K') | refine draw_auto tok mixed (by kernel_rfl) ?_ | refine CallK.val (R := []) hev (by kernel_rfl) rfl (by simp [V.wf, A.wf, C.wf]) trivial rfl rfl trivial ?_ | refine CallK.val (R := []) hw (by kernel_rfl) rfl (by simp [V.wf, A.wf, C.wf, V.i]) trivial rfl rfl trivial ?_ | refine And.intro (And.intro rfl (chk_rowU _ _ _ _ _)) ?_ | refine bs_bt (Eq.refl true) ?_ | refine bs_bf (Eq.refl false) ?_ | refine br_bt (Eq.refl true) ?_ | refine br_bf (Eq.refl false) ?_ | refine CallK.m ?_ | refine Two.l ?_ | refine And.intro (And.intro rfl rfl) ?_)
      refine ⟨k + 1, [(1, some 3)], by omega, by omega, ?_⟩
      refine ⟨?_, ?_, rfl, rfl, by first | exact Nat.le_of_ble_eq_true rfl | exact Nat.le_refl _ | omega⟩
      · repeat (first | exact trivial | (refine And.intro (covS_syn (by first | rfl | (refine congrArg some (congrArg V.i ?_); omega)) rfl (by first | exact trivial | exact Nat.le_of_ble_eq_true rfl | exact hy | (first | ((show ∀ p ∈ (_ : List (Nat × Nat)), p.1 < _); decide) | exact (fun p hp => nomatch hp)) | (show (_ : Nat) < _; omega))) ?_) | refine And.intro (covS_bool rfl rfl (by rfl)) ?_)
      · repeat (first | exact trivial | refine And.intro (covE_u rfl (Nat.le_of_ble_eq_true rfl) rfl happ) ?_ | refine And.intro (covE_u rfl (Nat.le_of_ble_eq_true rfl) rfl rfl) ?_ | refine And.intro (covE_nil rfl (Nat.le_of_ble_eq_true rfl) rfl rfl) ?_ | (refine And.intro (covE_some rfl (Nat.le_of_ble_eq_true rfl) (by first | exact wf_ints _ _ | exact wf_bools _ _ | first | exact wf_us _ _ | exact wf_cells _ _ | (simp [C.wf]; done) | simp [C.wf]) rfl (by first | exact ren_ints _ _ | exact ren_bools _ _ | exact ren_shares _ _ | rfl)) ?_))
    · obtain rfl : k = n := by omega
      repeat ((conv => whnf); first | (refine And.intro (by first | omega | exact Nat.le_of_ble_eq_true rfl | (dsimp only [inK]; omega) | (simp only [mulS_eq]; omega) | (simp only [mulS_eq, setL_length]; omega) | (simp only [setL_length]; omega) | (simp only [setL_length, List.length_map]; omega) | (exact ⟨by omega, by omega, by first | exact Nat.le_of_ble_eq_true rfl | (dsimp only; omega) | (simp only [setL_length]; omega) | (simp only [setL_length, List.length_map]; omega)⟩) | (exact ⟨by omega, by first | rfl | omega, by omega, Nat.le_of_ble_eq_true rfl, Nat.le_of_ble_eq_true rfl⟩) | (exact ⟨rfl, rfl, rfl, Nat.le_of_ble_eq_true rfl, by first | rfl | omega | exact Nat.le_of_ble_eq_true rfl | (dsimp only; omega) | (simp; done) | (simp; omega), by first | rfl | omega | exact Nat.le_of_ble_eq_true rfl | (dsimp only; omega) | (simp; done) | (simp; omega), by omega, Nat.le_of_ble_eq_true rfl⟩) | exact Eq.refl true) ?_) | refine Exists.intro _ (And.intro rfl ?_) | refine And.intro (And.intro rfl (chk_rowI _ _ _ _)) ?_ | refine br_t (by omega) ?_ | refine br_f (by omega) ?_ | refine bs_t (by omega) ?_ | refine bs_f (by omega) ?_ | refine fun (K' : K3) hK' => ?_ | (refine hK' _ _ _ ?_; clear hK' K') | refine draw_auto tok mixed (by kernel_rfl) ?_ | refine bs_bt (Eq.refl true) ?_ | refine bs_bf (Eq.refl false) ?_ | refine br_bt (Eq.refl true) ?_ | refine br_bf (Eq.refl false) ?_ | refine CallK.m ?_ | refine Two.l ?_ | refine And.intro (And.intro rfl rfl) ?_)
      exact rfl
def otQ (n : Nat) (qs : List (Nat × Nat)) : List (Nat × Nat) := prK (otK (tabS n qs) n n) n
set_option maxRecDepth 10000 in
theorem Other_err (N : Int) (ps : List Cell) (hl : ps.length ≤ 100) (he : okK' N ps = false) : Spec Tryd.prog 39 [kX N ps] [⟨0, .ro 2, cellC ps⟩] 1 (Is (V.tup [A.agg [C.i 0, .nil], A.c (C.i 70)])) := by
  have hnt := newTable_no N ps hl he
  have hE : (70 : Int) ≠ 0 := by omega
  refine Spec.of tok Tryd.func39 rfl rfl rfl fun n0 cx => vc_ok tok ?_
  repeat ((conv => whnf); first | (refine And.intro (by first | omega | exact Nat.le_of_ble_eq_true rfl | (dsimp only [inK]; omega) | (simp only [mulS_eq]; omega) | (simp only [mulS_eq, setL_length]; omega) | (simp only [setL_length]; omega) | (simp only [setL_length, List.length_map]; omega) | (exact ⟨by omega, by omega, by first | exact Nat.le_of_ble_eq_true rfl | (dsimp only; omega) | (simp only [setL_length]; omega) | (simp only [setL_length, List.length_map]; omega)⟩) | (exact ⟨by omega, by first | rfl | omega, by omega, Nat.le_of_ble_eq_true rfl, Nat.le_of_ble_eq_true rfl⟩) | (exact ⟨rfl, rfl, rfl, Nat.le_of_ble_eq_true rfl, by first | rfl | omega | exact Nat.le_of_ble_eq_true rfl | (dsimp only; omega) | (simp; done) | (simp; omega), by first | rfl | omega | exact Nat.le_of_ble_eq_true rfl | (dsimp only; omega) | (simp; done) | (simp; omega), by omega, Nat.le_of_ble_eq_true rfl⟩) | exact Eq.refl true) ?_) | refine Exists.intro _ (And.intro rfl ?_) | refine And.intro (And.intro rfl (chk_rowI _ _ _ _)) ?_ | refine br_t (by omega) ?_ | refine br_f (by omega) ?_ | refine bs_t (by omega) ?_ | refine bs_f (by omega) ?_ | refine fun (K' : K3) hK' => ?_ | (refine hK' _ _ _ ?_; clear hK' K') | refine draw_auto tok mixed (by kernel_rfl) ?_ | refine CallK.val (R := []) hnt (by kernel_rfl) rfl (by simp [V.wf, A.wf, C.wf, V.i]) ⟨roE_f (flat_c _) (l := 0) rfl (by omega) rfl (.inr rfl), trivial⟩ rfl rfl (by simp [V.wf, A.wf, C.wf]) ?_ | refine br_t hE ?_ | refine bs_bt (Eq.refl true) ?_ | refine bs_bf (Eq.refl false) ?_ | refine br_bt (Eq.refl true) ?_ | refine br_bf (Eq.refl false) ?_ | refine CallK.m ?_ | refine Two.l ?_ | refine And.intro (And.intro rfl rfl) ?_)
  intro ρ; rfl
set_option maxRecDepth 10000 in
theorem Other_spec (n : Nat) (qs : List (Nat × Nat)) (hk : Knd n qs) : Spec Tryd.prog 39 [kX n (castP qs)] [⟨0, .ro 2, cellC (castP qs)⟩] 1
    (fun v L' _ => rowA 59 2 (castP (otQ n qs)).length (n : Int) (cellC (castP (otQ n qs))) v L') := by
  have hn := hk.rng
  have hnt := newTable_spec n qs hk
  have hot := other_spec (tabS n qs) n (tabS_len n qs) hn.2 (tabS_256 hk)
  have hks := kinds_spec (otK (tabS n qs) n n) n (otK_len _ _ _) hn.2 (otK_lt hn.2)
  have hQ : prK (otK (tabS n qs) n n) n = otQ n qs := rfl
  rw [hQ] at hks
  refine Spec.of tok Tryd.func39 rfl rfl rfl fun n0 cx => vc_ok tok ?_
  repeat ((conv => whnf); first | (refine And.intro (by first | omega | exact Nat.le_of_ble_eq_true rfl | (dsimp only [inK]; omega) | (simp only [mulS_eq]; omega) | (simp only [mulS_eq, setL_length]; omega) | (simp only [setL_length]; omega) | (simp only [setL_length, List.length_map]; omega) | (exact ⟨by omega, by omega, by first | exact Nat.le_of_ble_eq_true rfl | (dsimp only; omega) | (simp only [setL_length]; omega) | (simp only [setL_length, List.length_map]; omega)⟩) | (exact ⟨by omega, by first | rfl | omega, by omega, Nat.le_of_ble_eq_true rfl, Nat.le_of_ble_eq_true rfl⟩) | (exact ⟨rfl, rfl, rfl, Nat.le_of_ble_eq_true rfl, by first | rfl | omega | exact Nat.le_of_ble_eq_true rfl | (dsimp only; omega) | (simp; done) | (simp; omega), by first | rfl | omega | exact Nat.le_of_ble_eq_true rfl | (dsimp only; omega) | (simp; done) | (simp; omega), by omega, Nat.le_of_ble_eq_true rfl⟩) | exact Eq.refl true) ?_) | refine Exists.intro _ (And.intro rfl ?_) | refine And.intro (And.intro rfl (chk_rowI _ _ _ _)) ?_ | refine br_t (by omega) ?_ | refine br_f (by omega) ?_ | refine bs_t (by omega) ?_ | refine bs_f (by omega) ?_ | refine fun (K' : K3) hK' => ?_ | (refine hK' _ _ _ ?_; clear hK' K') | refine draw_auto tok mixed (by kernel_rfl) ?_ | refine CallK.rowE (R := []) (flat_u _) hnt (by kernel_rfl) rfl (by simp [V.wf, A.wf, C.wf, V.i]) ⟨roE_f (flat_c _) (l := 0) rfl (by omega) rfl (.inr rfl), trivial⟩ rfl ?_ | refine CallK.rowF (R := [(0, some 3)]) (flat_u _) hot (by kernel_rfl) rfl (by simp [V.wf, A.wf, C.wf, V.i]) ⟨roE_f (flat_u _) (l := 3) rfl (by omega) rfl (.inl rfl), trivial⟩ rfl ?_ | refine CallK.optK (R := [(0, some 4)]) hks (by kernel_rfl) rfl (by simp [V.wf, A.wf, C.wf, V.i]) ⟨roE_f (flat_u _) (l := 4) rfl (by omega) rfl (.inl rfl), trivial⟩ rfl ?_ | refine And.intro (And.intro rfl (chk_rowC _ _ _ _)) ?_ | refine bs_bt (Eq.refl true) ?_ | refine bs_bf (Eq.refl false) ?_ | refine br_bt (Eq.refl true) ?_ | refine br_bf (Eq.refl false) ?_ | refine CallK.m ?_ | refine Two.l ?_ | refine And.intro (And.intro rfl rfl) ?_)
  exact rfl
end Go.Proofs.YtijnimgmpocmaaaDoor

/- Waste: the document's kinds of which the others clash. -/
namespace Go.Proofs.YtijnimgmpocmaaaDoor
open Go.RowKit
set_option linter.unusedVariables false
set_option linter.unusedSimpArgs false
/-- Pairs in ascending order. -/
def plB (f : Nat → Nat → Bool) (a b : Nat) : List (Nat × Nat) := ((List.range b).filter fun b => decide (a < b) && f a b).map fun b => (a, b)
def plA (f : Nat → Nat → Bool) (n a : Nat) : List (Nat × Nat) := (List.range a).flatMap fun a => plB f a n
theorem plB_succ (f : Nat → Nat → Bool) (a b : Nat) : plB f a (b + 1) = plB f a b ++ if decide (a < b) && f a b then [(a, b)] else [] := by
  unfold plB
  rw [List.range_succ, List.filter_append, List.map_append]
  congr 1
  cases h : decide (a < b) && f a b
  · rw [List.filter_cons, h]; rfl
  · rw [List.filter_cons, h]; rfl
theorem plB_low {f : Nat → Nat → Bool} {a : Nat} : ∀ {b : Nat}, b ≤ a + 1 → plB f a b = []
  | 0, _ => rfl
  | b + 1, h => by rw [plB_succ, plB_low (by omega), decide_eq_false (by omega)]; rfl
theorem plA_succ (f : Nat → Nat → Bool) (n a : Nat) : plA f n (a + 1) = plA f n a ++ plB f a n := by simp [plA, List.range_succ, List.flatMap_append]
theorem plB_len (f : Nat → Nat → Bool) (a b : Nat) : (plB f a b).length ≤ b := by
  unfold plB
  rw [List.length_map]
  have := List.length_filter_le (fun b => decide (a < b) && f a b) (List.range b)
  rw [List.length_range] at this; exact this
theorem plA_len (f : Nat → Nat → Bool) (n : Nat) : ∀ a, (plA f n a).length ≤ n * a
  | 0 => by simp [plA]
  | a + 1 => by rw [plA_succ, List.length_append, Nat.mul_succ]; have := plA_len f n a; have := plB_len f a n; omega
theorem plB_congr {f g : Nat → Nat → Bool} {a b : Nat} (h : ∀ x, a < x → x < b → f a x = g a x) : plB f a b = plB g a b := by
  unfold plB
  congr 1
  refine List.filter_congr fun x hx => ?_
  by_cases hax : a < x
  · rw [h x hax (List.mem_range.1 hx)]
  · rw [decide_eq_false hax]; rfl
theorem flatMap_congr' {α β : Type} {l : List α} {f g : α → List β} (h : ∀ a ∈ l, f a = g a) : l.flatMap f = l.flatMap g := by
  induction l with
  | nil => rfl
  | cons a r ih => rw [List.flatMap_cons, List.flatMap_cons, h a (by simp), ih fun b hb => h b (by simp [hb])]
theorem plA_congr {f g : Nat → Nat → Bool} {n a : Nat} (h : ∀ x y, x < a → x < y → y < n → f x y = g x y) : plA f n a = plA g n a :=
  flatMap_congr' fun x hx => plB_congr fun y h1 h2 => h x y (List.mem_range.1 hx) h1 h2
theorem range_cut {p : Nat → Bool} {n : Nat} (h : ∀ b, n ≤ b → p b = false) : ∀ {m : Nat}, n ≤ m → (List.range m).filter p = (List.range n).filter p
  | 0, hm => by obtain rfl : n = 0 := by omega
                rfl
  | m + 1, hm => by
    rcases Nat.lt_or_ge m n with h1 | h1
    · obtain rfl : n = m + 1 := by omega
      rfl
    · rw [List.range_succ, List.filter_append, range_cut h h1, List.filter_cons, h m h1]; simp
theorem prK_pl {t : List Nat} {n a : Nat} (hn : n ≤ 8) (h : ∀ x, x < a → ∀ b, (t.getD x 0).testBit b = true → b < n) : prK t a = plA (fun x y => (t.getD x 0).testBit y) n a := by
  refine flatMap_congr' fun x hx => ?_
  have hb := h x (List.mem_range.1 hx)
  unfold prI plB
  rw [List.take_length]
  congr 1
  unfold bitsL
  rw [List.filter_filter]
  refine range_cut (fun b hnb => ?_) hn
  cases ht : (t.getD x 0).testBit b with
  | false => simp
  | true => have := hb b ht; omega
theorem otQ_pl {n : Nat} {qs : List (Nat × Nat)} (hk : Knd n qs) : otQ n qs = plA (fun a b => !symC (clP qs) a b) n n := by
  have hn := hk.rng
  have hget : ∀ a, a < n → (otK (tabS n qs) n n).getD a 0 = otF (tabS n qs) n a := fun a ha => by
    simp [otK, List.getD_eq_getElem?_getD, ha]
  have hbit : ∀ a, a < n → ∀ b, ((otK (tabS n qs) n n).getD a 0).testBit b = (decide (b < n) && !(symC (clP qs) a b || decide (a = b))) := fun a ha b => by
    rw [hget a ha, otF, dif_bit, Nat.testBit_two_pow_sub_one, Nat.testBit_or, Nat.testBit_two_pow, tabS_cl hk]
  refine (prK_pl hn.2 fun x hx b hb => ?_).trans (plA_congr fun a b h1 h2 h3 => ?_)
  · rw [hbit x hx] at hb
    simp only [Bool.and_eq_true, decide_eq_true_iff] at hb
    exact hb.1
  · rw [hbit a h1, decide_eq_true h3, decide_eq_false (by omega)]; simp
set_option maxRecDepth 10000 in
theorem rOther_err (N : Int) (ps : List Cell) (hl : ps.length ≤ 100) (he : okK' N ps = false) : Spec Tryd.prog 40 [kX N ps] [⟨0, .ro 2, cellC ps⟩] 1 (Is (V.tup [A.agg [C.i 0, .nil], A.c (C.i 70)])) := by
  have hva := rvalid_spec N ps hl
  rw [he] at hva
  refine Spec.of tok Tryd.func40 rfl rfl rfl fun n0 cx => vc_ok tok ?_
  repeat ((conv => whnf); first | (refine And.intro (by first | omega | exact Nat.le_of_ble_eq_true rfl | (dsimp only [inK]; omega) | (simp only [mulS_eq]; omega) | (simp only [mulS_eq, setL_length]; omega) | (simp only [setL_length]; omega) | (simp only [setL_length, List.length_map]; omega) | (exact ⟨by omega, by omega, by first | exact Nat.le_of_ble_eq_true rfl | (dsimp only; omega) | (simp only [setL_length]; omega) | (simp only [setL_length, List.length_map]; omega)⟩) | (exact ⟨by omega, by first | rfl | omega, by omega, Nat.le_of_ble_eq_true rfl, Nat.le_of_ble_eq_true rfl⟩) | (exact ⟨rfl, rfl, rfl, Nat.le_of_ble_eq_true rfl, by first | rfl | omega | exact Nat.le_of_ble_eq_true rfl | (dsimp only; omega) | (simp; done) | (simp; omega), by first | rfl | omega | exact Nat.le_of_ble_eq_true rfl | (dsimp only; omega) | (simp; done) | (simp; omega), by omega, Nat.le_of_ble_eq_true rfl⟩) | exact Eq.refl true) ?_) | refine Exists.intro _ (And.intro rfl ?_) | refine And.intro (And.intro rfl (chk_rowI _ _ _ _)) ?_ | refine br_t (by omega) ?_ | refine br_f (by omega) ?_ | refine bs_t (by omega) ?_ | refine bs_f (by omega) ?_ | refine fun (K' : K3) hK' => ?_ | (refine hK' _ _ _ ?_; clear hK' K') | refine draw_auto tok mixed (by kernel_rfl) ?_ | refine CallK.val (R := []) hva (by kernel_rfl) rfl (by simp [V.wf, A.wf, C.wf, V.i]) ⟨roE_f (flat_c _) (l := 0) rfl (by omega) rfl (.inr rfl), trivial⟩ rfl rfl trivial ?_ | refine bs_bt (Eq.refl true) ?_ | refine bs_bf (Eq.refl false) ?_ | refine br_bt (Eq.refl true) ?_ | refine br_bf (Eq.refl false) ?_ | refine CallK.m ?_ | refine Two.l ?_ | refine And.intro (And.intro rfl rfl) ?_)
  intro ρ; rfl
set_option maxRecDepth 10000 in
set_option maxHeartbeats 8000000 in
theorem rOther_spec (n : Nat) (qs : List (Nat × Nat)) (hk : Knd n qs) : Spec Tryd.prog 40 [kX n (castP qs)] [⟨0, .ro 2, cellC (castP qs)⟩] 1
    (fun v L' _ => rowA 59 2 (castP (otQ n qs)).length (n : Int) (cellC (castP (otQ n qs))) v L') := by
  have hpl := castP_len qs
  have hql := knd_len hk
  have hn := hk.rng
  have hva := rvalid_spec n (castP qs) (by omega)
  rw [knd_ok hk] at hva
  rw [otQ_pl hk]
  have hcl := clash_spec n qs hk
  obtain ⟨F, hF⟩ : ∃ F : Nat → Nat → Bool, F = fun a b => !symC (clP qs) a b := ⟨_, rfl⟩
  rw [← hF]
  refine Spec.of tok Tryd.func40 rfl rfl rfl fun n0 cx => vc_ok tok ?_
  repeat ((conv => whnf); first | (refine And.intro (by first | omega | exact Nat.le_of_ble_eq_true rfl | (dsimp only [inK]; omega) | (simp only [mulS_eq]; omega) | (simp only [mulS_eq, setL_length]; omega) | (simp only [setL_length]; omega) | (simp only [setL_length, List.length_map]; omega) | (exact ⟨by omega, by omega, by first | exact Nat.le_of_ble_eq_true rfl | (dsimp only; omega) | (simp only [setL_length]; omega) | (simp only [setL_length, List.length_map]; omega)⟩) | (exact ⟨by omega, by first | rfl | omega, by omega, Nat.le_of_ble_eq_true rfl, Nat.le_of_ble_eq_true rfl⟩) | (exact ⟨rfl, rfl, rfl, Nat.le_of_ble_eq_true rfl, by first | rfl | omega | exact Nat.le_of_ble_eq_true rfl | (dsimp only; omega) | (simp; done) | (simp; omega), by first | rfl | omega | exact Nat.le_of_ble_eq_true rfl | (dsimp only; omega) | (simp; done) | (simp; omega), by omega, Nat.le_of_ble_eq_true rfl⟩) | exact Eq.refl true) ?_) | refine Exists.intro _ (And.intro rfl ?_) | refine And.intro (And.intro rfl (chk_rowI _ _ _ _)) ?_ | refine br_t (by omega) ?_ | refine br_f (by omega) ?_ | refine bs_t (by omega) ?_ | refine bs_f (by omega) ?_ | refine fun (K' : K3) hK' => ?_ | (refine hK' _ _ _ ?_; clear hK' K') | refine draw_auto tok mixed (by kernel_rfl) ?_ | refine CallK.val (R := []) hva (by kernel_rfl) rfl (by simp [V.wf, A.wf, C.wf, V.i]) ⟨roE_f (flat_c _) (l := 0) rfl (by omega) rfl (.inr rfl), trivial⟩ rfl rfl trivial ?_ | refine bs_bt (Eq.refl true) ?_ | refine bs_bf (Eq.refl false) ?_ | refine br_bt (Eq.refl true) ?_ | refine br_bf (Eq.refl false) ?_ | refine CallK.m ?_ | refine Two.l ?_ | refine And.intro (And.intro rfl rfl) ?_)
  refine Tri.loop (γ := Nat) (fun a => a ≤ n) (fun a => [(1, V.c (.ptr 1 0)), (2, V.c (.ptr 2 0)), (4, V.c (.ptr 3 0)), (15, V.i n), (16, V.i (a : Nat))])
    (fun a => [⟨4, .vec 59 2, cellC (castP (plA F n a))⟩, ⟨3, .own 24, [C.i n, .sl 4 (castP (plA F n a)).length]⟩, ⟨2, .own 24, [C.i 0, .nil]⟩, ⟨1, .own 24, [C.i n, .sl 0 (castP qs).length]⟩, ⟨0, .ro 2, cellC (castP qs)⟩]) 5 (fun a => n - a) 0 (R0 := [(4, none)]) ?_ ?_ ?_
  · omega
  · skip
    refine ⟨?_, ?_, rfl, rfl, by first | exact Nat.le_of_ble_eq_true rfl | exact Nat.le_refl _ | omega⟩
    · repeat (first | exact trivial | (refine And.intro (covS_syn (by rfl) rfl (by first | exact trivial | exact Nat.le_of_ble_eq_true rfl | exact hy | (first | ((show ∀ p ∈ (_ : List (Nat × Nat)), p.1 < _); decide) | exact (fun p hp => nomatch hp)) | (show (_ : Nat) < _; omega))) ?_) | refine And.intro (covS_bool rfl rfl (by rfl)) ?_)
    · repeat (first | exact trivial | refine And.intro ⟨Nat.le_of_ble_eq_true rfl, by simp [C.wf], _, _, rfl, .inl rfl, fun ρ => rfl⟩ ?_ | refine And.intro (covE_c rfl (Nat.le_of_ble_eq_true rfl) rfl rfl) ?_ | refine And.intro (covE_nil rfl (Nat.le_of_ble_eq_true rfl) rfl rfl) ?_ | (refine And.intro (covE_some rfl (Nat.le_of_ble_eq_true rfl) (by first | exact wf_ints _ _ | exact wf_bools _ _ | first | exact wf_us _ _ | exact wf_cells _ _ | (simp [C.wf]; done) | simp [C.wf]) rfl (by first | exact ren_ints _ _ | exact ren_bools _ _ | exact ren_shares _ _ | rfl)) ?_))
  · intro a ha
    refine vc_ok tok ?_
    by_cases hlt : a < n
    · have hA := plA_succ F n a
      have hAl := plA_len F n a
      have hAl2 : n * a ≤ 64 := Nat.mul_le_mul hn.2 (show a ≤ 8 by omega)
      have h0 := plB_low (f := F) (a := a) (Nat.le_refl (a + 1))
      obtain ⟨p0, hp0⟩ : ∃ p0, p0 = plA F n a := ⟨_, rfl⟩
      rw [← hp0] at hA hAl ⊢
      repeat ((conv => whnf); first | (refine And.intro (by first | omega | exact Nat.le_of_ble_eq_true rfl | (dsimp only [inK]; omega) | (simp only [mulS_eq]; omega) | (simp only [mulS_eq, setL_length]; omega) | (simp only [setL_length]; omega) | (simp only [setL_length, List.length_map]; omega) | (exact ⟨by omega, by omega, by first | exact Nat.le_of_ble_eq_true rfl | (dsimp only; omega) | (simp only [setL_length]; omega) | (simp only [setL_length, List.length_map]; omega)⟩) | (exact ⟨by omega, by first | rfl | omega, by omega, Nat.le_of_ble_eq_true rfl, Nat.le_of_ble_eq_true rfl⟩) | (exact ⟨rfl, rfl, rfl, Nat.le_of_ble_eq_true rfl, by first | rfl | omega | exact Nat.le_of_ble_eq_true rfl | (dsimp only; omega) | (simp; done) | (simp; omega), by first | rfl | omega | exact Nat.le_of_ble_eq_true rfl | (dsimp only; omega) | (simp; done) | (simp; omega), by omega, Nat.le_of_ble_eq_true rfl⟩) | exact Eq.refl true) ?_) | refine Exists.intro _ (And.intro rfl ?_) | refine And.intro (And.intro rfl (chk_rowI _ _ _ _)) ?_ | refine br_t (by omega) ?_ | refine br_f (by omega) ?_ | refine bs_t (by omega) ?_ | refine bs_f (by omega) ?_ | refine fun (K' : K3) hK' => ?_ | (refine hK' _ _ _ ?_; clear hK' K') | refine draw_auto tok mixed (by kernel_rfl) ?_ | refine bs_bt (Eq.refl true) ?_ | refine bs_bf (Eq.refl false) ?_ | refine br_bt (Eq.refl true) ?_ | refine br_bf (Eq.refl false) ?_ | refine CallK.m ?_ | refine Two.l ?_ | refine And.intro (And.intro rfl rfl) ?_)
      refine Tri.loop (γ := Nat) (fun b => a + 1 ≤ b ∧ b ≤ n) (fun b => [(1, V.c (.ptr 1 0)), (2, V.c (.ptr 2 0)), (4, V.c (.ptr 3 0)), (5, V.i (a : Nat)), (6, V.i (b : Nat)), (15, V.i n), (16, V.i (a : Nat))])
        (fun b => [⟨4, .vec 59 2, cellC (castP (p0 ++ plB F a b))⟩, ⟨3, .own 24, [C.i n, .sl 4 (castP (p0 ++ plB F a b)).length]⟩, ⟨2, .own 24, [C.i 0, .nil]⟩, ⟨1, .own 24, [C.i n, .sl 0 (castP qs).length]⟩, ⟨0, .ro 2, cellC (castP qs)⟩]) 5 (fun b => n - b) (a + 1) (R0 := []) ?_ ?_ ?_
      · omega
      · have hz : p0 ++ plB F a (a + 1) = p0 := by rw [h0, List.append_nil]
        rw [hz]
        refine ⟨?_, ?_, rfl, rfl, by first | exact Nat.le_of_ble_eq_true rfl | exact Nat.le_refl _ | omega⟩
        · repeat (first | exact trivial | (refine And.intro (covS_syn (by rfl) rfl (by first | exact trivial | exact Nat.le_of_ble_eq_true rfl | exact hy | (first | ((show ∀ p ∈ (_ : List (Nat × Nat)), p.1 < _); decide) | exact (fun p hp => nomatch hp)) | (show (_ : Nat) < _; omega))) ?_) | refine And.intro (covS_bool rfl rfl (by rfl)) ?_)
        · repeat (first | exact trivial | (refine And.intro (covE_id (Nat.le_of_ble_eq_true rfl) (by first | exact wf_ints _ _ | exact wf_bools _ _ | first | exact wf_us _ _ | exact wf_cells _ _ | (simp [C.wf]; done) | simp [C.wf]) rfl (by rfl)) ?_))
      · rintro b ⟨hb1, hb2⟩
        refine vc_ok tok ?_
        have hBl := plB_len F a b
        by_cases hbl : b < n
        · have hB := plB_succ F a b
          have hcl1 := hcl a b
          rw [decide_eq_true (show a < b by omega), Bool.true_and] at hB
          have hFa : F a b = !symC (clP qs) a b := by rw [hF]
          obtain ⟨p1, hp1⟩ : ∃ p1, p1 = p0 ++ plB F a b := ⟨_, rfl⟩
          have hp1l : p1.length ≤ 100 := by rw [hp1, List.length_append]; omega
          have hcl2 := cellC_len (castP p1)
          have hcp1 := castP_len p1
          rw [← hp1]
          cases hc : symC (clP qs) a b with
          | true =>
            rw [hc] at hcl1 hFa
            have hst : p0 ++ plB F a (b + 1) = p1 := by rw [hB, hFa, hp1]; simp
            repeat ((conv => whnf); first | (refine And.intro (by first | omega | exact Nat.le_of_ble_eq_true rfl | (dsimp only [inK]; omega) | (simp only [mulS_eq]; omega) | (simp only [mulS_eq, setL_length]; omega) | (simp only [setL_length]; omega) | (simp only [setL_length, List.length_map]; omega) | (exact ⟨by omega, by omega, by first | exact Nat.le_of_ble_eq_true rfl | (dsimp only; omega) | (simp only [setL_length]; omega) | (simp only [setL_length, List.length_map]; omega)⟩) | (exact ⟨by omega, by first | rfl | omega, by omega, Nat.le_of_ble_eq_true rfl, Nat.le_of_ble_eq_true rfl⟩) | (exact ⟨rfl, rfl, rfl, Nat.le_of_ble_eq_true rfl, by first | rfl | omega | exact Nat.le_of_ble_eq_true rfl | (dsimp only; omega) | (simp; done) | (simp; omega), by first | rfl | omega | exact Nat.le_of_ble_eq_true rfl | (dsimp only; omega) | (simp; done) | (simp; omega), by omega, Nat.le_of_ble_eq_true rfl⟩) | exact Eq.refl true) ?_) | refine Exists.intro _ (And.intro rfl ?_) | refine And.intro (And.intro rfl (chk_rowI _ _ _ _)) ?_ | refine br_t (by omega) ?_ | refine br_f (by omega) ?_ | refine bs_t (by omega) ?_ | refine bs_f (by omega) ?_ | refine fun (K' : K3) hK' => ?_ | (refine hK' _ _ _ ?_; clear hK' K') | refine draw_auto tok mixed (by kernel_rfl) ?_ | refine CallK.val (R := []) hcl1 (by kernel_rfl) rfl (by simp [V.wf, A.wf, C.wf, V.i]) ⟨roE_f (flat_c _) (l := 0) rfl (by omega) rfl (.inr rfl), trivial⟩ rfl rfl trivial ?_ | refine bs_bt (Eq.refl true) ?_ | refine bs_bf (Eq.refl false) ?_ | refine br_bt (Eq.refl true) ?_ | refine br_bf (Eq.refl false) ?_ | refine CallK.m ?_ | refine Two.l ?_ | refine And.intro (And.intro rfl rfl) ?_)
            refine ⟨b + 1, [], by omega, by omega, ?_⟩
            rw [hst]
            refine ⟨?_, ?_, rfl, rfl, by first | exact Nat.le_of_ble_eq_true rfl | exact Nat.le_refl _ | omega⟩
            · repeat (first | exact trivial | (refine And.intro (covS_syn (by first | rfl | (refine congrArg some (congrArg V.i ?_); omega)) rfl (by first | exact trivial | exact Nat.le_of_ble_eq_true rfl | exact hy | (first | ((show ∀ p ∈ (_ : List (Nat × Nat)), p.1 < _); decide) | exact (fun p hp => nomatch hp)) | (show (_ : Nat) < _; omega))) ?_) | refine And.intro (covS_bool rfl rfl (by rfl)) ?_)
            · repeat (first | exact trivial | (refine And.intro (covE_id (Nat.le_of_ble_eq_true rfl) (by first | exact wf_ints _ _ | exact wf_bools _ _ | first | exact wf_us _ _ | exact wf_cells _ _ | (simp [C.wf]; done) | simp [C.wf]) rfl (by rfl)) ?_))
          | false =>
            rw [hc] at hcl1 hFa
            have hst : p0 ++ plB F a (b + 1) = p1 ++ [(a, b)] := by rw [hB, hFa, hp1, List.append_assoc]; rfl
            have happ : cellC (castP p1) ++ [C.i (a : Nat), C.i (b : Nat)] = cellC (castP (p1 ++ [(a, b)])) := by rw [castP_app, cellC_app]; rfl
            have hll : (castP (p1 ++ [(a, b)])).length = (castP p1).length + 1 := by rw [castP_app, List.length_append]; rfl
            repeat ((conv => whnf); first | (refine And.intro (by first | omega | exact Nat.le_of_ble_eq_true rfl | (dsimp only [inK]; omega) | (simp only [mulS_eq]; omega) | (simp only [mulS_eq, setL_length]; omega) | (simp only [setL_length]; omega) | (simp only [setL_length, List.length_map]; omega) | (exact ⟨by omega, by omega, by first | exact Nat.le_of_ble_eq_true rfl | (dsimp only; omega) | (simp only [setL_length]; omega) | (simp only [setL_length, List.length_map]; omega)⟩) | (exact ⟨by omega, by first | rfl | omega, by omega, Nat.le_of_ble_eq_true rfl, Nat.le_of_ble_eq_true rfl⟩) | (exact ⟨rfl, rfl, rfl, Nat.le_of_ble_eq_true rfl, by first | rfl | omega | exact Nat.le_of_ble_eq_true rfl | (dsimp only; omega) | (simp; done) | (simp; omega), by first | rfl | omega | exact Nat.le_of_ble_eq_true rfl | (dsimp only; omega) | (simp; done) | (simp; omega), by omega, Nat.le_of_ble_eq_true rfl⟩) | exact Eq.refl true) ?_) | refine Exists.intro _ (And.intro rfl ?_) | refine And.intro (And.intro rfl (chk_rowI _ _ _ _)) ?_ | refine br_t (by omega) ?_ | refine br_f (by omega) ?_ | refine bs_t (by omega) ?_ | refine bs_f (by omega) ?_ | refine fun (K' : K3) hK' => ?_ | (refine hK' _ _ _ ?_; clear hK' K') | refine draw_auto tok mixed (by kernel_rfl) ?_ | refine CallK.val (R := []) hcl1 (by kernel_rfl) rfl (by simp [V.wf, A.wf, C.wf, V.i]) ⟨roE_f (flat_c _) (l := 0) rfl (by omega) rfl (.inr rfl), trivial⟩ rfl rfl trivial ?_ | refine And.intro (And.intro rfl ((congrArg (fun cs => ([⟨_, _, cs⟩] : List E).all _) happ).trans (chk_rowC _ _ _ _))) ?_ | refine bs_bt (Eq.refl true) ?_ | refine bs_bf (Eq.refl false) ?_ | refine br_bt (Eq.refl true) ?_ | refine br_bf (Eq.refl false) ?_ | refine CallK.m ?_ | refine Two.l ?_ | refine And.intro (And.intro rfl rfl) ?_)
            refine ⟨b + 1, [(4, some 6)], by omega, by omega, ?_⟩
            rw [hst, hll]
            refine ⟨?_, ?_, rfl, rfl, by first | exact Nat.le_of_ble_eq_true rfl | exact Nat.le_refl _ | omega⟩
            · repeat (first | exact trivial | (refine And.intro (covS_syn (by first | rfl | (refine congrArg some (congrArg V.i ?_); omega)) rfl (by first | exact trivial | exact Nat.le_of_ble_eq_true rfl | exact hy | (first | ((show ∀ p ∈ (_ : List (Nat × Nat)), p.1 < _); decide) | exact (fun p hp => nomatch hp)) | (show (_ : Nat) < _; omega))) ?_) | refine And.intro (covS_bool rfl rfl (by rfl)) ?_)
            · repeat (first | exact trivial | refine And.intro (covE_c rfl (Nat.le_of_ble_eq_true rfl) rfl happ) ?_ | refine And.intro (covE_c rfl (Nat.le_of_ble_eq_true rfl) rfl rfl) ?_ | refine And.intro (covE_nil rfl (Nat.le_of_ble_eq_true rfl) rfl rfl) ?_ | (refine And.intro (covE_some rfl (Nat.le_of_ble_eq_true rfl) (by first | exact wf_ints _ _ | exact wf_bools _ _ | first | exact wf_us _ _ | exact wf_cells _ _ | (simp [C.wf]; done) | simp [C.wf]) rfl (by first | exact ren_ints _ _ | exact ren_bools _ _ | exact ren_shares _ _ | rfl)) ?_))
        · obtain rfl : b = n := by omega
          rw [← hA]
          repeat ((conv => whnf); first | (refine And.intro (by first | omega | exact Nat.le_of_ble_eq_true rfl | (dsimp only [inK]; omega) | (simp only [mulS_eq]; omega) | (simp only [mulS_eq, setL_length]; omega) | (simp only [setL_length]; omega) | (simp only [setL_length, List.length_map]; omega) | (exact ⟨by omega, by omega, by first | exact Nat.le_of_ble_eq_true rfl | (dsimp only; omega) | (simp only [setL_length]; omega) | (simp only [setL_length, List.length_map]; omega)⟩) | (exact ⟨by omega, by first | rfl | omega, by omega, Nat.le_of_ble_eq_true rfl, Nat.le_of_ble_eq_true rfl⟩) | (exact ⟨rfl, rfl, rfl, Nat.le_of_ble_eq_true rfl, by first | rfl | omega | exact Nat.le_of_ble_eq_true rfl | (dsimp only; omega) | (simp; done) | (simp; omega), by first | rfl | omega | exact Nat.le_of_ble_eq_true rfl | (dsimp only; omega) | (simp; done) | (simp; omega), by omega, Nat.le_of_ble_eq_true rfl⟩) | exact Eq.refl true) ?_) | refine Exists.intro _ (And.intro rfl ?_) | refine And.intro (And.intro rfl (chk_rowI _ _ _ _)) ?_ | refine br_t (by omega) ?_ | refine br_f (by omega) ?_ | refine bs_t (by omega) ?_ | refine bs_f (by omega) ?_ | refine fun (K' : K3) hK' => ?_ | (refine hK' _ _ _ ?_; clear hK' K') | refine draw_auto tok mixed (by kernel_rfl) ?_ | refine bs_bt (Eq.refl true) ?_ | refine bs_bf (Eq.refl false) ?_ | refine br_bt (Eq.refl true) ?_ | refine br_bf (Eq.refl false) ?_ | refine CallK.m ?_ | refine Two.l ?_ | refine And.intro (And.intro rfl rfl) ?_)
          refine ⟨a + 1, [], by omega, by omega, ?_⟩
          refine ⟨?_, ?_, rfl, rfl, by first | exact Nat.le_of_ble_eq_true rfl | exact Nat.le_refl _ | omega⟩
          · repeat (first | exact trivial | (refine And.intro (covS_syn (by first | rfl | (refine congrArg some (congrArg V.i ?_); omega)) rfl (by first | exact trivial | exact Nat.le_of_ble_eq_true rfl | exact hy | (first | ((show ∀ p ∈ (_ : List (Nat × Nat)), p.1 < _); decide) | exact (fun p hp => nomatch hp)) | (show (_ : Nat) < _; omega))) ?_) | refine And.intro (covS_bool rfl rfl (by rfl)) ?_)
          · repeat (first | exact trivial | (refine And.intro (covE_id (Nat.le_of_ble_eq_true rfl) (by first | exact wf_ints _ _ | exact wf_bools _ _ | first | exact wf_us _ _ | exact wf_cells _ _ | (simp [C.wf]; done) | simp [C.wf]) rfl (by rfl)) ?_))
    · obtain rfl : a = n := by omega
      repeat ((conv => whnf); first | (refine And.intro (by first | omega | exact Nat.le_of_ble_eq_true rfl | (dsimp only [inK]; omega) | (simp only [mulS_eq]; omega) | (simp only [mulS_eq, setL_length]; omega) | (simp only [setL_length]; omega) | (simp only [setL_length, List.length_map]; omega) | (exact ⟨by omega, by omega, by first | exact Nat.le_of_ble_eq_true rfl | (dsimp only; omega) | (simp only [setL_length]; omega) | (simp only [setL_length, List.length_map]; omega)⟩) | (exact ⟨by omega, by first | rfl | omega, by omega, Nat.le_of_ble_eq_true rfl, Nat.le_of_ble_eq_true rfl⟩) | (exact ⟨rfl, rfl, rfl, Nat.le_of_ble_eq_true rfl, by first | rfl | omega | exact Nat.le_of_ble_eq_true rfl | (dsimp only; omega) | (simp; done) | (simp; omega), by first | rfl | omega | exact Nat.le_of_ble_eq_true rfl | (dsimp only; omega) | (simp; done) | (simp; omega), by omega, Nat.le_of_ble_eq_true rfl⟩) | exact Eq.refl true) ?_) | refine Exists.intro _ (And.intro rfl ?_) | refine And.intro (And.intro rfl (chk_rowI _ _ _ _)) ?_ | refine br_t (by omega) ?_ | refine br_f (by omega) ?_ | refine bs_t (by omega) ?_ | refine bs_f (by omega) ?_ | refine fun (K' : K3) hK' => ?_ | (refine hK' _ _ _ ?_; clear hK' K') | refine draw_auto tok mixed (by kernel_rfl) ?_ | refine bs_bt (Eq.refl true) ?_ | refine bs_bf (Eq.refl false) ?_ | refine br_bt (Eq.refl true) ?_ | refine br_bf (Eq.refl false) ?_ | refine CallK.m ?_ | refine Two.l ?_ | refine And.intro (And.intro rfl rfl) ?_)
      exact rfl
end Go.Proofs.YtijnimgmpocmaaaDoor

/- Waste: the document's joined kinds. -/
namespace Go.Proofs.YtijnimgmpocmaaaDoor
open Go.RowKit
set_option linter.unusedVariables false
set_option linter.unusedSimpArgs false
set_option maxRecDepth 10000 in
theorem rjoined_err (N z : Int) (ps : List Cell) (hl : ps.length ≤ 100) (Er : Int) (he : pairE N ps z = Er) (hE : Er ≠ 0) : Spec Tryd.prog 38 [kX N ps, V.i z] [⟨0, .ro 2, cellC ps⟩] 1 (Is (V.tup [A.agg [C.i 0, .nil], A.c (C.i Er)])) := by
  have hpd := rpaired_spec N z ps hl
  rw [he] at hpd
  refine Spec.of tok Tryd.func38 rfl rfl rfl fun n0 cx => vc_ok tok ?_
  repeat ((conv => whnf); first | (refine And.intro (by first | omega | exact Nat.le_of_ble_eq_true rfl | (dsimp only [inK]; omega) | (simp only [mulS_eq]; omega) | (simp only [mulS_eq, setL_length]; omega) | (simp only [setL_length]; omega) | (simp only [setL_length, List.length_map]; omega) | (exact ⟨by omega, by omega, by first | exact Nat.le_of_ble_eq_true rfl | (dsimp only; omega) | (simp only [setL_length]; omega) | (simp only [setL_length, List.length_map]; omega)⟩) | (exact ⟨by omega, by first | rfl | omega, by omega, Nat.le_of_ble_eq_true rfl, Nat.le_of_ble_eq_true rfl⟩) | (exact ⟨rfl, rfl, rfl, Nat.le_of_ble_eq_true rfl, by first | rfl | omega | exact Nat.le_of_ble_eq_true rfl | (dsimp only; omega) | (simp; done) | (simp; omega), by first | rfl | omega | exact Nat.le_of_ble_eq_true rfl | (dsimp only; omega) | (simp; done) | (simp; omega), by omega, Nat.le_of_ble_eq_true rfl⟩) | exact Eq.refl true) ?_) | refine Exists.intro _ (And.intro rfl ?_) | refine And.intro (And.intro rfl (chk_rowI _ _ _ _)) ?_ | refine br_t (by omega) ?_ | refine br_f (by omega) ?_ | refine bs_t (by omega) ?_ | refine bs_f (by omega) ?_ | refine fun (K' : K3) hK' => ?_ | (refine hK' _ _ _ ?_; clear hK' K') | refine draw_auto tok mixed (by kernel_rfl) ?_ | refine CallK.val (R := []) hpd (by kernel_rfl) rfl (by simp [V.wf, A.wf, C.wf, V.i]) ⟨roE_f (flat_c _) (l := 0) rfl (by omega) rfl (.inr rfl), trivial⟩ rfl rfl trivial ?_ | refine br_t hE ?_ | refine bs_bt (Eq.refl true) ?_ | refine bs_bf (Eq.refl false) ?_ | refine br_bt (Eq.refl true) ?_ | refine br_bf (Eq.refl false) ?_ | refine CallK.m ?_ | refine Two.l ?_ | refine And.intro (And.intro rfl rfl) ?_)
  intro ρ; rfl
/-- Two new kinds clash by one of the first pairs. -/
def smP (u v a b : Nat) (q : Nat × Nat) : Bool := decide ((if nam u v q.2 < nam u v q.1 then nam u v q.2 else nam u v q.1) = a) && decide ((if nam u v q.2 > nam u v q.1 then nam u v q.2 else nam u v q.1) = b)
def smK (u v : Nat) (qs : List (Nat × Nat)) (a b k : Nat) : Bool := (qs.take k).any (smP u v a b)
theorem smK_succ {u v : Nat} {qs : List (Nat × Nat)} {a b k : Nat} (h : k < qs.length) : smK u v qs a b (k + 1) = (smK u v qs a b k || smP u v a b (qs.getD k (0, 0))) := by
  have e : qs[k]?.toList = [qs.getD k (0, 0)] := by rw [List.getD_eq_getElem?_getD, List.getElem?_eq_getElem h]; rfl
  unfold smK
  rw [List.take_add_one, e, List.any_append]; simp
def smF (u v : Nat) (qs : List (Nat × Nat)) (a b : Nat) : Bool := smK u v qs a b qs.length
theorem jnQ_pl {n : Nat} {qs : List (Nat × Nat)} {i : Nat} (hk : Knd n qs) (hi : i < qs.length) : jnQ n qs i = plA (smF (qs.getD i (0, 0)).1 (qs.getD i (0, 0)).2 qs) (n - 1) (n - 1) := by
  have huv := hk.ok _ (getD_mem hi)
  have hn := hk.rng
  have hb := fun a b => jnK_bit hk huv.1 huv.2 a b _ (Nat.le_refl qs.length)
  unfold jnQ
  refine (prK_pl (n := n - 1) (by omega) fun x hx b h => ?_).trans (plA_congr fun a b h1 h2 h3 => ?_)
  · obtain ⟨p, hp, _, h2⟩ := (hb x b).1 h
    have hp := hk.ok _ (List.mem_of_mem_take hp)
    have h3 := nam_lt (a := p.1) huv.1 huv.2 (by omega)
    have h4 := nam_lt (a := p.2) huv.1 huv.2 (by omega)
    omega
  · rw [Bool.eq_iff_iff, hb a b, List.take_length]
    unfold smF smK
    rw [List.take_length, List.any_eq_true]
    refine exists_congr fun p => and_congr_right fun _ => ?_
    simp only [smP, Bool.and_eq_true, decide_eq_true_iff]
    generalize nam (qs.getD i (0, 0)).1 (qs.getD i (0, 0)).2 p.1 = x
    generalize nam (qs.getD i (0, 0)).1 (qs.getD i (0, 0)).2 p.2 = y
    split <;> split <;> omega
def namL (u v n : Nat) : List Int := fnL (fun a => ((nam u v a : Nat) : Int)) n
def namG (u v k a : Nat) : Int := if a < k then ((nam u v a : Nat) : Int) else 0
set_option maxRecDepth 10000 in
set_option maxHeartbeats 16000000 in
theorem rjoined_spec (n : Nat) (qs : List (Nat × Nat)) (hk : Knd n qs) (i : Nat) (hi : i < qs.length) : Spec Tryd.prog 38 [kX n (castP qs), V.i (i : Nat)] [⟨0, .ro 2, cellC (castP qs)⟩] 1
    (fun v L' _ => rowA 59 2 (castP (jnQ n qs i)).length ((n - 1 : Nat) : Int) (cellC (castP (jnQ n qs i))) v L') := by
  have hpl := castP_len qs
  have hcl := cellC_len (castP qs)
  have hql := knd_len hk
  have hn := hk.rng
  have hpd := rpaired_spec n i (castP qs) (by omega)
  rw [pairE_ok hk hi] at hpd
  have huv := hk.ok _ (getD_mem hi)
  rw [jnQ_pl hk hi]
  have hl0 := cellL0 (l := castP qs) (k := i) (z := (i : Nat)) rfl (by omega)
  have hl1 := cellL1 (l := castP qs) (k := i) (z := (i : Nat)) rfl (by omega)
  change (cellC _)[addO (mulS ((i : Nat) : Int).toNat 2) (mulS (Int.toNat 0) 1)]? = some (C.i ((castP qs).getD i cz).1) at hl0
  change (cellC _)[addO (mulS ((i : Nat) : Int).toNat 2) (mulS (Int.toNat 1) 1)]? = some (C.i ((castP qs).getD i cz).2) at hl1
  rw [castP_get hi] at hl0 hl1
  obtain ⟨p0, hp0⟩ : ∃ p0, p0 = qs.getD i (0, 0) := ⟨_, rfl⟩
  rw [← hp0] at huv hl0 hl1 ⊢
  obtain ⟨u, v⟩ := p0
  simp only at huv hl0 hl1 ⊢
  have hn1 : ((n : Int) - 1) = ((n - 1 : Nat) : Int) := by omega
  have hrep := repI n
  obtain ⟨F, hF⟩ : ∃ F, F = smF u v qs := ⟨_, rfl⟩
  rw [← hF]
  have hnl := fnL_len (fun a => ((nam u v a : Nat) : Int)) n
  have hnm : ((namL u v n).map C.i).length = n := by rw [List.length_map]; exact hnl
  refine Spec.of tok Tryd.func38 rfl rfl rfl fun n0 cx => vc_ok tok ?_
  repeat ((conv => whnf); first | (refine And.intro (by first | omega | exact Nat.le_of_ble_eq_true rfl | (dsimp only [inK]; omega) | (simp only [mulS_eq]; omega) | (simp only [mulS_eq, setL_length]; omega) | (simp only [setL_length]; omega) | (simp only [setL_length, List.length_map]; omega) | (exact ⟨by omega, by omega, by first | exact Nat.le_of_ble_eq_true rfl | (dsimp only; omega) | (simp only [setL_length]; omega) | (simp only [setL_length, List.length_map]; omega)⟩) | (exact ⟨by omega, by first | rfl | omega, by omega, Nat.le_of_ble_eq_true rfl, Nat.le_of_ble_eq_true rfl⟩) | (exact ⟨rfl, rfl, rfl, Nat.le_of_ble_eq_true rfl, by first | rfl | omega | exact Nat.le_of_ble_eq_true rfl | (dsimp only; omega) | (simp; done) | (simp; omega), by first | rfl | omega | exact Nat.le_of_ble_eq_true rfl | (dsimp only; omega) | (simp; done) | (simp; omega), by omega, Nat.le_of_ble_eq_true rfl⟩) | exact Eq.refl true) ?_) | with_reducible refine ld (hl0) ?_ | with_reducible refine ld (hl1) ?_ | refine Exists.intro _ (And.intro rfl ?_) | refine And.intro (And.intro rfl (chk_rowI _ _ _ _)) ?_ | refine br_t (by omega) ?_ | refine br_f (by omega) ?_ | refine bs_t (by omega) ?_ | refine bs_f (by omega) ?_ | refine fun (K' : K3) hK' => ?_ | (refine hK' _ _ _ ?_; clear hK' K') | refine draw_auto tok mixed (by kernel_rfl) ?_ | refine CallK.val (R := []) hpd (by kernel_rfl) rfl (by simp [V.wf, A.wf, C.wf, V.i]) ⟨roE_f (flat_c _) (l := 0) rfl (by omega) rfl (.inr rfl), trivial⟩ rfl rfl trivial ?_ | refine bs_bt (Eq.refl true) ?_ | refine bs_bf (Eq.refl false) ?_ | refine br_bt (Eq.refl true) ?_ | refine br_bf (Eq.refl false) ?_ | refine CallK.m ?_ | refine Two.l ?_ | refine And.intro (And.intro rfl rfl) ?_)
  refine Tri.loop (γ := Nat) (fun k => k ≤ n) (fun k => [(2, V.c (.ptr 1 0)), (4, V.c (.ptr 2 0)), (7, V.i (u : Nat)), (8, V.i (v : Nat)), (9, V.c (.sl 3 n)), (42, V.i n), (43, V.i (k : Nat))])
    (fun k => [⟨3, .vec 3 1, (fnL (namG u v k) n).map C.i⟩, ⟨2, .own 24, [C.i 0, .nil]⟩, ⟨1, .own 24, [C.i n, .sl 0 (castP qs).length]⟩, ⟨0, .ro 2, cellC (castP qs)⟩]) 4 (fun k => n - k) 0 (R0 := []) ?_ ?_ ?_
  · omega
  · skip
    have h0 : repC ((n : Nat) : Int).toNat [C.int .i64 0] = (fnL (namG u v 0) n).map C.i := by
      rw [Int.toNat_natCast, hrep, fnL_zero]; rfl
    refine ⟨?_, ?_, rfl, rfl, by first | exact Nat.le_of_ble_eq_true rfl | exact Nat.le_refl _ | omega⟩
    · repeat (first | exact trivial | (refine And.intro (covS_syn (by rfl) rfl (by first | exact trivial | exact Nat.le_of_ble_eq_true rfl | exact hy | (first | ((show ∀ p ∈ (_ : List (Nat × Nat)), p.1 < _); decide) | exact (fun p hp => nomatch hp)) | (show (_ : Nat) < _; omega))) ?_) | refine And.intro (covS_bool rfl rfl (by rfl)) ?_)
    · repeat (first | exact trivial | (refine And.intro (covE_id (Nat.le_of_ble_eq_true rfl) (by first | exact wf_ints _ _ | exact wf_bools _ _ | first | exact wf_us _ _ | exact wf_cells _ _ | (simp [C.wf]; done) | simp [C.wf]) rfl (by first | rfl | exact h0)) ?_))
  · intro k hk'
    refine vc_ok tok ?_
    have hgl : ((fnL (namG u v k) n).map C.i).length = n := by rw [List.length_map, fnL_len]
    by_cases hlt : k < n
    · have hset : ∀ z : Int, z = ((nam u v k : Nat) : Int) → setL ((fnL (namG u v k) n).map C.i) (mulS ((k : Nat) : Int).toNat 1) [C.i z] = (fnL (namG u v (k + 1)) n).map C.i := fun z hz => by
        rw [setI rfl, fnL_set]
        refine congrArg _ (fnL_congr fun x _ => ?_)
        unfold namG
        by_cases h : x = k
        · subst h; rw [if_pos rfl, if_pos (by omega), hz]
        · rw [if_neg h]
          by_cases h2 : x < k
          · rw [if_pos h2, if_pos (by omega)]
          · rw [if_neg h2, if_neg (by omega)]
      by_cases h1 : (k : Int) < (v : Nat)
      · have hz := hset (k : Nat) (by unfold nam; rw [if_neg (by omega), if_neg (by omega)])
        repeat ((conv => whnf); first | (refine And.intro (by first | omega | exact Nat.le_of_ble_eq_true rfl | (dsimp only [inK]; omega) | (simp only [mulS_eq]; omega) | (simp only [mulS_eq, setL_length]; omega) | (simp only [setL_length]; omega) | (simp only [setL_length, List.length_map]; omega) | (exact ⟨by omega, by omega, by first | exact Nat.le_of_ble_eq_true rfl | (dsimp only; omega) | (simp only [setL_length]; omega) | (simp only [setL_length, List.length_map]; omega)⟩) | (exact ⟨by omega, by first | rfl | omega, by omega, Nat.le_of_ble_eq_true rfl, Nat.le_of_ble_eq_true rfl⟩) | (exact ⟨rfl, rfl, rfl, Nat.le_of_ble_eq_true rfl, by first | rfl | omega | exact Nat.le_of_ble_eq_true rfl | (dsimp only; omega) | (simp; done) | (simp; omega), by first | rfl | omega | exact Nat.le_of_ble_eq_true rfl | (dsimp only; omega) | (simp; done) | (simp; omega), by omega, Nat.le_of_ble_eq_true rfl⟩) | exact Eq.refl true) ?_) | refine Exists.intro _ (And.intro rfl ?_) | refine And.intro (And.intro rfl (chk_rowI _ _ _ _)) ?_ | refine br_t (by omega) ?_ | refine br_f (by omega) ?_ | refine bs_t (by omega) ?_ | refine bs_f (by omega) ?_ | refine fun (K' : K3) hK' => ?_ | (refine hK' _ _ _ ?_; clear hK' K') | refine draw_auto tok mixed (by kernel_rfl) ?_ | refine bs_t h1 ?_ | refine br_t h1 ?_ | refine bs_bt (Eq.refl true) ?_ | refine bs_bf (Eq.refl false) ?_ | refine br_bt (Eq.refl true) ?_ | refine br_bf (Eq.refl false) ?_ | refine CallK.m ?_ | refine Two.l ?_ | refine And.intro (And.intro rfl rfl) ?_)
        refine ⟨k + 1, [], by omega, by omega, ?_⟩
        refine ⟨?_, ?_, rfl, rfl, by first | exact Nat.le_of_ble_eq_true rfl | exact Nat.le_refl _ | omega⟩
        · repeat (first | exact trivial | (refine And.intro (covS_syn (by first | rfl | (refine congrArg some (congrArg V.i ?_); omega)) rfl (by first | exact trivial | exact Nat.le_of_ble_eq_true rfl | exact hy | (first | ((show ∀ p ∈ (_ : List (Nat × Nat)), p.1 < _); decide) | exact (fun p hp => nomatch hp)) | (show (_ : Nat) < _; omega))) ?_) | refine And.intro (covS_bool rfl rfl (by rfl)) ?_)
        · repeat (first | exact trivial | (refine And.intro (covE_id (Nat.le_of_ble_eq_true rfl) (by first | exact wf_ints _ _ | exact wf_bools _ _ | first | exact wf_us _ _ | exact wf_cells _ _ | (simp [C.wf]; done) | simp [C.wf]) rfl (by first | rfl | exact hz)) ?_))
      · by_cases h2 : (k : Int) = (v : Nat)
        · have hz := hset (u : Nat) (by unfold nam; rw [if_pos (by omega)])
          repeat ((conv => whnf); first | (refine And.intro (by first | omega | exact Nat.le_of_ble_eq_true rfl | (dsimp only [inK]; omega) | (simp only [mulS_eq]; omega) | (simp only [mulS_eq, setL_length]; omega) | (simp only [setL_length]; omega) | (simp only [setL_length, List.length_map]; omega) | (exact ⟨by omega, by omega, by first | exact Nat.le_of_ble_eq_true rfl | (dsimp only; omega) | (simp only [setL_length]; omega) | (simp only [setL_length, List.length_map]; omega)⟩) | (exact ⟨by omega, by first | rfl | omega, by omega, Nat.le_of_ble_eq_true rfl, Nat.le_of_ble_eq_true rfl⟩) | (exact ⟨rfl, rfl, rfl, Nat.le_of_ble_eq_true rfl, by first | rfl | omega | exact Nat.le_of_ble_eq_true rfl | (dsimp only; omega) | (simp; done) | (simp; omega), by first | rfl | omega | exact Nat.le_of_ble_eq_true rfl | (dsimp only; omega) | (simp; done) | (simp; omega), by omega, Nat.le_of_ble_eq_true rfl⟩) | exact Eq.refl true) ?_) | refine Exists.intro _ (And.intro rfl ?_) | refine And.intro (And.intro rfl (chk_rowI _ _ _ _)) ?_ | refine br_t (by omega) ?_ | refine br_f (by omega) ?_ | refine bs_t (by omega) ?_ | refine bs_f (by omega) ?_ | refine fun (K' : K3) hK' => ?_ | (refine hK' _ _ _ ?_; clear hK' K') | refine draw_auto tok mixed (by kernel_rfl) ?_ | refine bs_f h1 ?_ | refine br_f h1 ?_ | refine bs_t h2 ?_ | refine br_t h2 ?_ | refine bs_bt (Eq.refl true) ?_ | refine bs_bf (Eq.refl false) ?_ | refine br_bt (Eq.refl true) ?_ | refine br_bf (Eq.refl false) ?_ | refine CallK.m ?_ | refine Two.l ?_ | refine And.intro (And.intro rfl rfl) ?_)
          refine ⟨k + 1, [], by omega, by omega, ?_⟩
          refine ⟨?_, ?_, rfl, rfl, by first | exact Nat.le_of_ble_eq_true rfl | exact Nat.le_refl _ | omega⟩
          · repeat (first | exact trivial | (refine And.intro (covS_syn (by first | rfl | (refine congrArg some (congrArg V.i ?_); omega)) rfl (by first | exact trivial | exact Nat.le_of_ble_eq_true rfl | exact hy | (first | ((show ∀ p ∈ (_ : List (Nat × Nat)), p.1 < _); decide) | exact (fun p hp => nomatch hp)) | (show (_ : Nat) < _; omega))) ?_) | refine And.intro (covS_bool rfl rfl (by rfl)) ?_)
          · repeat (first | exact trivial | (refine And.intro (covE_id (Nat.le_of_ble_eq_true rfl) (by first | exact wf_ints _ _ | exact wf_bools _ _ | first | exact wf_us _ _ | exact wf_cells _ _ | (simp [C.wf]; done) | simp [C.wf]) rfl (by first | rfl | exact hz)) ?_))
        · have hz := hset ((k : Int) - 1) (by unfold nam; rw [if_neg (by omega), if_pos (by omega)]; omega)
          repeat ((conv => whnf); first | (refine And.intro (by first | omega | exact Nat.le_of_ble_eq_true rfl | (dsimp only [inK]; omega) | (simp only [mulS_eq]; omega) | (simp only [mulS_eq, setL_length]; omega) | (simp only [setL_length]; omega) | (simp only [setL_length, List.length_map]; omega) | (exact ⟨by omega, by omega, by first | exact Nat.le_of_ble_eq_true rfl | (dsimp only; omega) | (simp only [setL_length]; omega) | (simp only [setL_length, List.length_map]; omega)⟩) | (exact ⟨by omega, by first | rfl | omega, by omega, Nat.le_of_ble_eq_true rfl, Nat.le_of_ble_eq_true rfl⟩) | (exact ⟨rfl, rfl, rfl, Nat.le_of_ble_eq_true rfl, by first | rfl | omega | exact Nat.le_of_ble_eq_true rfl | (dsimp only; omega) | (simp; done) | (simp; omega), by first | rfl | omega | exact Nat.le_of_ble_eq_true rfl | (dsimp only; omega) | (simp; done) | (simp; omega), by omega, Nat.le_of_ble_eq_true rfl⟩) | exact Eq.refl true) ?_) | refine Exists.intro _ (And.intro rfl ?_) | refine And.intro (And.intro rfl (chk_rowI _ _ _ _)) ?_ | refine br_t (by omega) ?_ | refine br_f (by omega) ?_ | refine bs_t (by omega) ?_ | refine bs_f (by omega) ?_ | refine fun (K' : K3) hK' => ?_ | (refine hK' _ _ _ ?_; clear hK' K') | refine draw_auto tok mixed (by kernel_rfl) ?_ | refine bs_f h1 ?_ | refine br_f h1 ?_ | refine bs_f h2 ?_ | refine br_f h2 ?_ | refine bs_bt (Eq.refl true) ?_ | refine bs_bf (Eq.refl false) ?_ | refine br_bt (Eq.refl true) ?_ | refine br_bf (Eq.refl false) ?_ | refine CallK.m ?_ | refine Two.l ?_ | refine And.intro (And.intro rfl rfl) ?_)
          refine ⟨k + 1, [], by omega, by omega, ?_⟩
          refine ⟨?_, ?_, rfl, rfl, by first | exact Nat.le_of_ble_eq_true rfl | exact Nat.le_refl _ | omega⟩
          · repeat (first | exact trivial | (refine And.intro (covS_syn (by first | rfl | (refine congrArg some (congrArg V.i ?_); omega)) rfl (by first | exact trivial | exact Nat.le_of_ble_eq_true rfl | exact hy | (first | ((show ∀ p ∈ (_ : List (Nat × Nat)), p.1 < _); decide) | exact (fun p hp => nomatch hp)) | (show (_ : Nat) < _; omega))) ?_) | refine And.intro (covS_bool rfl rfl (by rfl)) ?_)
          · repeat (first | exact trivial | (refine And.intro (covE_id (Nat.le_of_ble_eq_true rfl) (by first | exact wf_ints _ _ | exact wf_bools _ _ | first | exact wf_us _ _ | exact wf_cells _ _ | (simp [C.wf]; done) | simp [C.wf]) rfl (by first | rfl | exact hz)) ?_))
    · obtain rfl : k = n := by omega
      have hgn : fnL (namG u v k) k = namL u v k := fnL_congr fun x hx => by unfold namG; rw [if_pos hx]
      rw [hgn]
      repeat ((conv => whnf); first | (refine And.intro (by first | omega | exact Nat.le_of_ble_eq_true rfl | (dsimp only [inK]; omega) | (simp only [mulS_eq]; omega) | (simp only [mulS_eq, setL_length]; omega) | (simp only [setL_length]; omega) | (simp only [setL_length, List.length_map]; omega) | (exact ⟨by omega, by omega, by first | exact Nat.le_of_ble_eq_true rfl | (dsimp only; omega) | (simp only [setL_length]; omega) | (simp only [setL_length, List.length_map]; omega)⟩) | (exact ⟨by omega, by first | rfl | omega, by omega, Nat.le_of_ble_eq_true rfl, Nat.le_of_ble_eq_true rfl⟩) | (exact ⟨rfl, rfl, rfl, Nat.le_of_ble_eq_true rfl, by first | rfl | omega | exact Nat.le_of_ble_eq_true rfl | (dsimp only; omega) | (simp; done) | (simp; omega), by first | rfl | omega | exact Nat.le_of_ble_eq_true rfl | (dsimp only; omega) | (simp; done) | (simp; omega), by omega, Nat.le_of_ble_eq_true rfl⟩) | exact Eq.refl true) ?_) | refine Exists.intro _ (And.intro rfl ?_) | refine And.intro (And.intro rfl (chk_rowI _ _ _ _)) ?_ | refine br_t (by omega) ?_ | refine br_f (by omega) ?_ | refine bs_t (by omega) ?_ | refine bs_f (by omega) ?_ | refine fun (K' : K3) hK' => ?_ | (refine hK' _ _ _ ?_; clear hK' K') | refine draw_auto tok mixed (by kernel_rfl) ?_ | refine bs_bt (Eq.refl true) ?_ | refine bs_bf (Eq.refl false) ?_ | refine br_bt (Eq.refl true) ?_ | refine br_bf (Eq.refl false) ?_ | refine CallK.m ?_ | refine Two.l ?_ | refine And.intro (And.intro rfl rfl) ?_)
      refine Tri.loop (γ := Nat) (fun a => a ≤ k - 1) (fun a => [(2, V.c (.ptr 1 0)), (4, V.c (.ptr 2 0)), (9, V.c (.sl 3 k)), (11, V.c (.ptr 4 0)), (73, V.i ((k - 1 : Nat) : Int)), (74, V.i (a : Nat))])
        (fun a => [⟨5, .vec 59 2, cellC (castP (plA F (k - 1) a))⟩, ⟨4, .own 24, [C.i ((k - 1 : Nat) : Int), .sl 5 (castP (plA F (k - 1) a)).length]⟩, ⟨3, .vec 3 1, (namL u v k).map C.i⟩, ⟨2, .own 24, [C.i 0, .nil]⟩, ⟨1, .own 24, [C.i k, .sl 0 (castP qs).length]⟩, ⟨0, .ro 2, cellC (castP qs)⟩]) 6 (fun a => k - 1 - a) 0 (R0 := [(5, none)]) ?_ ?_ ?_
      · omega
      · skip
        refine ⟨?_, ?_, rfl, rfl, by first | exact Nat.le_of_ble_eq_true rfl | exact Nat.le_refl _ | omega⟩
        · repeat (first | exact trivial | (refine And.intro (covS_syn (by first | rfl | (refine congrArg some (congrArg V.i ?_); exact hn1)) rfl (by first | exact trivial | exact Nat.le_of_ble_eq_true rfl | exact hy | (first | ((show ∀ p ∈ (_ : List (Nat × Nat)), p.1 < _); decide) | exact (fun p hp => nomatch hp)) | (show (_ : Nat) < _; omega))) ?_) | refine And.intro (covS_bool rfl rfl (by rfl)) ?_)
        · repeat (first | exact trivial | (refine And.intro ⟨Nat.le_of_ble_eq_true rfl, by simp [C.wf], _, _, rfl, .inl rfl, fun ρ => by rw [← hn1]; rfl⟩ ?_) | refine And.intro (covE_c rfl (Nat.le_of_ble_eq_true rfl) rfl rfl) ?_ | refine And.intro (covE_i rfl (Nat.le_of_ble_eq_true rfl) rfl rfl) ?_ | refine And.intro (covE_nil rfl (Nat.le_of_ble_eq_true rfl) rfl rfl) ?_ | (refine And.intro (covE_some rfl (Nat.le_of_ble_eq_true rfl) (by first | exact wf_ints _ _ | exact wf_bools _ _ | first | exact wf_us _ _ | exact wf_cells _ _ | (simp [C.wf]; done) | simp [C.wf]) rfl (by first | exact ren_ints _ _ | exact ren_bools _ _ | exact ren_shares _ _ | rfl)) ?_))
      · intro a ha
        refine vc_ok tok ?_
        have hAl := plA_len F (k - 1) a
        have hAl2 : (k - 1) * a ≤ 49 := Nat.mul_le_mul (show k - 1 ≤ 7 by omega) (show a ≤ 7 by omega)
        by_cases hlta : a < k - 1
        · have hA := plA_succ F (k - 1) a
          have h0 := plB_low (f := F) (a := a) (Nat.le_refl (a + 1))
          obtain ⟨p0, hp0⟩ : ∃ p0, p0 = plA F (k - 1) a := ⟨_, rfl⟩
          rw [← hp0] at hA hAl ⊢
          repeat ((conv => whnf); first | (refine And.intro (by first | omega | exact Nat.le_of_ble_eq_true rfl | (dsimp only [inK]; omega) | (simp only [mulS_eq]; omega) | (simp only [mulS_eq, setL_length]; omega) | (simp only [setL_length]; omega) | (simp only [setL_length, List.length_map]; omega) | (exact ⟨by omega, by omega, by first | exact Nat.le_of_ble_eq_true rfl | (dsimp only; omega) | (simp only [setL_length]; omega) | (simp only [setL_length, List.length_map]; omega)⟩) | (exact ⟨by omega, by first | rfl | omega, by omega, Nat.le_of_ble_eq_true rfl, Nat.le_of_ble_eq_true rfl⟩) | (exact ⟨rfl, rfl, rfl, Nat.le_of_ble_eq_true rfl, by first | rfl | omega | exact Nat.le_of_ble_eq_true rfl | (dsimp only; omega) | (simp; done) | (simp; omega), by first | rfl | omega | exact Nat.le_of_ble_eq_true rfl | (dsimp only; omega) | (simp; done) | (simp; omega), by omega, Nat.le_of_ble_eq_true rfl⟩) | exact Eq.refl true) ?_) | refine Exists.intro _ (And.intro rfl ?_) | refine And.intro (And.intro rfl (chk_rowI _ _ _ _)) ?_ | refine br_t (by omega) ?_ | refine br_f (by omega) ?_ | refine bs_t (by omega) ?_ | refine bs_f (by omega) ?_ | refine fun (K' : K3) hK' => ?_ | (refine hK' _ _ _ ?_; clear hK' K') | refine draw_auto tok mixed (by kernel_rfl) ?_ | refine bs_bt (Eq.refl true) ?_ | refine bs_bf (Eq.refl false) ?_ | refine br_bt (Eq.refl true) ?_ | refine br_bf (Eq.refl false) ?_ | refine CallK.m ?_ | refine Two.l ?_ | refine And.intro (And.intro rfl rfl) ?_)
          refine Tri.loop (γ := Nat) (fun b => a + 1 ≤ b ∧ b ≤ k - 1) (fun b => [(2, V.c (.ptr 1 0)), (4, V.c (.ptr 2 0)), (9, V.c (.sl 3 k)), (11, V.c (.ptr 4 0)), (12, V.i (a : Nat)), (13, V.i (b : Nat)), (73, V.i ((k - 1 : Nat) : Int)), (74, V.i (a : Nat))])
            (fun b => [⟨5, .vec 59 2, cellC (castP (p0 ++ plB F a b))⟩, ⟨4, .own 24, [C.i ((k - 1 : Nat) : Int), .sl 5 (castP (p0 ++ plB F a b)).length]⟩, ⟨3, .vec 3 1, (namL u v k).map C.i⟩, ⟨2, .own 24, [C.i 0, .nil]⟩, ⟨1, .own 24, [C.i k, .sl 0 (castP qs).length]⟩, ⟨0, .ro 2, cellC (castP qs)⟩]) 6 (fun b => k - 1 - b) (a + 1) (R0 := []) ?_ ?_ ?_
          · omega
          · have hz : p0 ++ plB F a (a + 1) = p0 := by rw [h0, List.append_nil]
            rw [hz]
            refine ⟨?_, ?_, rfl, rfl, by first | exact Nat.le_of_ble_eq_true rfl | exact Nat.le_refl _ | omega⟩
            · repeat (first | exact trivial | (refine And.intro (covS_syn (by rfl) rfl (by first | exact trivial | exact Nat.le_of_ble_eq_true rfl | exact hy | (first | ((show ∀ p ∈ (_ : List (Nat × Nat)), p.1 < _); decide) | exact (fun p hp => nomatch hp)) | (show (_ : Nat) < _; omega))) ?_) | refine And.intro (covS_bool rfl rfl (by rfl)) ?_)
            · repeat (first | exact trivial | (refine And.intro (covE_id (Nat.le_of_ble_eq_true rfl) (by first | exact wf_ints _ _ | exact wf_bools _ _ | first | exact wf_us _ _ | exact wf_cells _ _ | (simp [C.wf]; done) | simp [C.wf]) rfl (by rfl)) ?_))
          · rintro b ⟨hb1, hb2⟩
            refine vc_ok tok ?_
            have hBl := plB_len F a b
            by_cases hbl : b < k - 1
            · have hB := plB_succ F a b
              rw [decide_eq_true (show a < b by omega), Bool.true_and] at hB
              have hFa : F a b = smK u v qs a b qs.length := by rw [hF]; rfl
              obtain ⟨p1, hp1⟩ : ∃ p1, p1 = p0 ++ plB F a b := ⟨_, rfl⟩
              have hp1l : p1.length ≤ 100 := by rw [hp1, List.length_append]; omega
              have hcl2 := cellC_len (castP p1)
              have hcp1 := castP_len p1
              rw [← hp1]
              repeat ((conv => whnf); first | (refine And.intro (by first | omega | exact Nat.le_of_ble_eq_true rfl | (dsimp only [inK]; omega) | (simp only [mulS_eq]; omega) | (simp only [mulS_eq, setL_length]; omega) | (simp only [setL_length]; omega) | (simp only [setL_length, List.length_map]; omega) | (exact ⟨by omega, by omega, by first | exact Nat.le_of_ble_eq_true rfl | (dsimp only; omega) | (simp only [setL_length]; omega) | (simp only [setL_length, List.length_map]; omega)⟩) | (exact ⟨by omega, by first | rfl | omega, by omega, Nat.le_of_ble_eq_true rfl, Nat.le_of_ble_eq_true rfl⟩) | (exact ⟨rfl, rfl, rfl, Nat.le_of_ble_eq_true rfl, by first | rfl | omega | exact Nat.le_of_ble_eq_true rfl | (dsimp only; omega) | (simp; done) | (simp; omega), by first | rfl | omega | exact Nat.le_of_ble_eq_true rfl | (dsimp only; omega) | (simp; done) | (simp; omega), by omega, Nat.le_of_ble_eq_true rfl⟩) | exact Eq.refl true) ?_) | refine Exists.intro _ (And.intro rfl ?_) | refine And.intro (And.intro rfl (chk_rowI _ _ _ _)) ?_ | refine br_t (by omega) ?_ | refine br_f (by omega) ?_ | refine bs_t (by omega) ?_ | refine bs_f (by omega) ?_ | refine fun (K' : K3) hK' => ?_ | (refine hK' _ _ _ ?_; clear hK' K') | refine draw_auto tok mixed (by kernel_rfl) ?_ | refine bs_bt (Eq.refl true) ?_ | refine bs_bf (Eq.refl false) ?_ | refine br_bt (Eq.refl true) ?_ | refine br_bf (Eq.refl false) ?_ | refine CallK.m ?_ | refine Two.l ?_ | refine And.intro (And.intro rfl rfl) ?_)
              refine Tri.loop (γ := Nat) (fun j => j ≤ qs.length) (fun j => [(2, V.c (.ptr 1 0)), (4, V.c (.ptr 2 0)), (9, V.c (.sl 3 k)), (11, V.c (.ptr 4 0)), (12, V.i (a : Nat)), (13, V.i (b : Nat)), (14, V.c (.bool (smK u v qs a b j))), (73, V.i ((k - 1 : Nat) : Int)), (74, V.i (a : Nat)), (86, V.c (.sl 0 (castP qs).length)), (87, V.i (castP qs).length), (88, V.i (j : Nat))])
                (fun j => [⟨5, .vec 59 2, cellC (castP p1)⟩, ⟨4, .own 24, [C.i ((k - 1 : Nat) : Int), .sl 5 (castP p1).length]⟩, ⟨3, .vec 3 1, (namL u v k).map C.i⟩, ⟨2, .own 24, [C.i 0, .nil]⟩, ⟨1, .own 24, [C.i k, .sl 0 (castP qs).length]⟩, ⟨0, .ro 2, cellC (castP qs)⟩]) 6 (fun j => qs.length - j) 0 (R0 := []) ?_ ?_ ?_
              · omega
              · have hz : smK u v qs a b 0 = false := rfl
                rw [hz]
                refine ⟨?_, ?_, rfl, rfl, by first | exact Nat.le_of_ble_eq_true rfl | exact Nat.le_refl _ | omega⟩
                · repeat (first | exact trivial | (refine And.intro (covS_syn (by rfl) rfl (by first | exact trivial | exact Nat.le_of_ble_eq_true rfl | exact hy | (first | ((show ∀ p ∈ (_ : List (Nat × Nat)), p.1 < _); decide) | exact (fun p hp => nomatch hp)) | (show (_ : Nat) < _; omega))) ?_) | refine And.intro (covS_bool rfl rfl (by rfl)) ?_)
                · repeat (first | exact trivial | (refine And.intro (covE_id (Nat.le_of_ble_eq_true rfl) (by first | exact wf_ints _ _ | exact wf_bools _ _ | first | exact wf_us _ _ | exact wf_cells _ _ | (simp [C.wf]; done) | simp [C.wf]) rfl (by rfl)) ?_))
              · intro j hj
                refine vc_ok tok ?_
                by_cases hjl : j < qs.length
                · have hld := cellT (l := castP qs) (k := j) rfl (by omega)
                  change takeC (cellC (castP qs)) (mulS ((j : Nat) : Int).toNat 2) 2 = some [C.i ((castP qs).getD j cz).1, C.i ((castP qs).getD j cz).2] at hld
                  rw [castP_get hjl] at hld
                  have hsucc := smK_succ (u := u) (v := v) (a := a) (b := b) hjl
                  have hpq := hk.ok _ (getD_mem hjl)
                  obtain ⟨q, hq⟩ : ∃ q, q = qs.getD j (0, 0) := ⟨_, rfl⟩
                  rw [← hq] at hld hsucc hpq
                  have hla : ((namL u v k).map C.i)[mulS ((q.1 : Nat) : Int).toNat 1]? = some (C.i ((nam u v q.1 : Nat) : Int)) := by
                    rw [intLz rfl (by show q.1 < (fnL _ _).length; rw [fnL_len]; omega)]; exact congrArg (fun z => some (C.i z)) (fnL_get (by omega))
                  have hlb : ((namL u v k).map C.i)[mulS ((q.2 : Nat) : Int).toNat 1]? = some (C.i ((nam u v q.2 : Nat) : Int)) := by
                    rw [intLz rfl (by show q.2 < (fnL _ _).length; rw [fnL_len]; omega)]; exact congrArg (fun z => some (C.i z)) (fnL_get (by omega))
                  have hsm : smP u v a b q = (decide ((if ((nam u v q.2 : Nat) : Int) < (nam u v q.1 : Nat) then ((nam u v q.2 : Nat) : Int) else (nam u v q.1 : Nat)) = (a : Nat)) && decide ((if ((nam u v q.2 : Nat) : Int) > (nam u v q.1 : Nat) then ((nam u v q.2 : Nat) : Int) else (nam u v q.1 : Nat)) = (b : Nat))) := by
                    unfold smP
                    congr 1
                    · rw [decide_eq_decide]; split <;> split <;> omega
                    · rw [decide_eq_decide]; split <;> split <;> omega
                  obtain ⟨x, hx⟩ : ∃ x : Int, x = (nam u v q.1 : Nat) := ⟨_, rfl⟩
                  obtain ⟨y, hy⟩ : ∃ y : Int, y = (nam u v q.2 : Nat) := ⟨_, rfl⟩
                  rw [← hx] at hla hsm
                  rw [← hy] at hlb hsm
                  obtain ⟨sm, hsmk⟩ : ∃ sm, sm = smK u v qs a b j := ⟨_, rfl⟩
                  rw [← hsmk] at hsucc ⊢
                  cases sm with
                  | true =>
                    have hst : smK u v qs a b (j + 1) = true := by rw [hsucc]; rfl
                    repeat ((conv => whnf); first | (refine And.intro (by first | omega | exact Nat.le_of_ble_eq_true rfl | (dsimp only [inK]; omega) | (simp only [mulS_eq]; omega) | (simp only [mulS_eq, setL_length]; omega) | (simp only [setL_length]; omega) | (simp only [setL_length, List.length_map]; omega) | (exact ⟨by omega, by omega, by first | exact Nat.le_of_ble_eq_true rfl | (dsimp only; omega) | (simp only [setL_length]; omega) | (simp only [setL_length, List.length_map]; omega)⟩) | (exact ⟨by omega, by first | rfl | omega, by omega, Nat.le_of_ble_eq_true rfl, Nat.le_of_ble_eq_true rfl⟩) | (exact ⟨rfl, rfl, rfl, Nat.le_of_ble_eq_true rfl, by first | rfl | omega | exact Nat.le_of_ble_eq_true rfl | (dsimp only; omega) | (simp; done) | (simp; omega), by first | rfl | omega | exact Nat.le_of_ble_eq_true rfl | (dsimp only; omega) | (simp; done) | (simp; omega), by omega, Nat.le_of_ble_eq_true rfl⟩) | exact Eq.refl true) ?_) | with_reducible refine ld (hld) ?_ | with_reducible refine ld (hla) ?_ | with_reducible refine ld (hlb) ?_ | refine Exists.intro _ (And.intro rfl ?_) | refine And.intro (And.intro rfl (chk_rowI _ _ _ _)) ?_ | refine br_t (by omega) ?_ | refine br_f (by omega) ?_ | refine bs_t (by omega) ?_ | refine bs_f (by omega) ?_ | refine fun (K' : K3) hK' => ?_ | (refine hK' _ _ _ ?_; clear hK' K') | refine draw_auto tok mixed (by kernel_rfl) ?_ | refine bs_bt (Eq.refl true) ?_ | refine bs_bf (Eq.refl false) ?_ | refine br_bt (Eq.refl true) ?_ | refine br_bf (Eq.refl false) ?_ | refine CallK.m ?_ | refine Two.l ?_ | refine And.intro (And.intro rfl rfl) ?_)
                    refine ⟨j + 1, [], by omega, by omega, ?_⟩
                    rw [hst]
                    refine ⟨?_, ?_, rfl, rfl, by first | exact Nat.le_of_ble_eq_true rfl | exact Nat.le_refl _ | omega⟩
                    · repeat (first | exact trivial | (refine And.intro (covS_syn (by first | rfl | (refine congrArg some (congrArg V.i ?_); omega)) rfl (by first | exact trivial | exact Nat.le_of_ble_eq_true rfl | exact hy | (first | ((show ∀ p ∈ (_ : List (Nat × Nat)), p.1 < _); decide) | exact (fun p hp => nomatch hp)) | (show (_ : Nat) < _; omega))) ?_) | refine And.intro (covS_bool rfl rfl (by rfl)) ?_)
                    · repeat (first | exact trivial | (refine And.intro (covE_id (Nat.le_of_ble_eq_true rfl) (by first | exact wf_ints _ _ | exact wf_bools _ _ | first | exact wf_us _ _ | exact wf_cells _ _ | (simp [C.wf]; done) | simp [C.wf]) rfl (by rfl)) ?_))
                  | false =>
                    by_cases h1 : (if y < x then y else x) = (a : Nat)
                    · by_cases h2 : (if y > x then y else x) = (b : Nat)
                      · have hst : smK u v qs a b (j + 1) = true := by rw [hsucc, hsm, decide_eq_true h1, decide_eq_true h2]; rfl
                        repeat ((conv => whnf); first | (refine And.intro (by first | omega | exact Nat.le_of_ble_eq_true rfl | (dsimp only [inK]; omega) | (simp only [mulS_eq]; omega) | (simp only [mulS_eq, setL_length]; omega) | (simp only [setL_length]; omega) | (simp only [setL_length, List.length_map]; omega) | (exact ⟨by omega, by omega, by first | exact Nat.le_of_ble_eq_true rfl | (dsimp only; omega) | (simp only [setL_length]; omega) | (simp only [setL_length, List.length_map]; omega)⟩) | (exact ⟨by omega, by first | rfl | omega, by omega, Nat.le_of_ble_eq_true rfl, Nat.le_of_ble_eq_true rfl⟩) | (exact ⟨rfl, rfl, rfl, Nat.le_of_ble_eq_true rfl, by first | rfl | omega | exact Nat.le_of_ble_eq_true rfl | (dsimp only; omega) | (simp; done) | (simp; omega), by first | rfl | omega | exact Nat.le_of_ble_eq_true rfl | (dsimp only; omega) | (simp; done) | (simp; omega), by omega, Nat.le_of_ble_eq_true rfl⟩) | exact Eq.refl true) ?_) | with_reducible refine ld (hld) ?_ | with_reducible refine ld (hla) ?_ | with_reducible refine ld (hlb) ?_ | refine Exists.intro _ (And.intro rfl ?_) | refine And.intro (And.intro rfl (chk_rowI _ _ _ _)) ?_ | refine br_t (by omega) ?_ | refine br_f (by omega) ?_ | refine bs_t (by omega) ?_ | refine bs_f (by omega) ?_ | refine fun (K' : K3) hK' => ?_ | (refine hK' _ _ _ ?_; clear hK' K') | refine draw_auto tok mixed (by kernel_rfl) ?_ | refine bs_t h1 ?_ | refine br_t h1 ?_ | refine bs_t h2 ?_ | refine br_t h2 ?_ | refine bs_bt (Eq.refl true) ?_ | refine bs_bf (Eq.refl false) ?_ | refine br_bt (Eq.refl true) ?_ | refine br_bf (Eq.refl false) ?_ | refine CallK.m ?_ | refine Two.l ?_ | refine And.intro (And.intro rfl rfl) ?_)
                        refine ⟨j + 1, [], by omega, by omega, ?_⟩
                        rw [hst]
                        refine ⟨?_, ?_, rfl, rfl, by first | exact Nat.le_of_ble_eq_true rfl | exact Nat.le_refl _ | omega⟩
                        · repeat (first | exact trivial | (refine And.intro (covS_syn (by first | rfl | (refine congrArg some (congrArg V.i ?_); omega)) rfl (by first | exact trivial | exact Nat.le_of_ble_eq_true rfl | exact hy | (first | ((show ∀ p ∈ (_ : List (Nat × Nat)), p.1 < _); decide) | exact (fun p hp => nomatch hp)) | (show (_ : Nat) < _; omega))) ?_) | (refine And.intro (covS_bool rfl rfl (by first | rfl | exact decide_eq_true h2)) ?_))
                        · repeat (first | exact trivial | (refine And.intro (covE_id (Nat.le_of_ble_eq_true rfl) (by first | exact wf_ints _ _ | exact wf_bools _ _ | first | exact wf_us _ _ | exact wf_cells _ _ | (simp [C.wf]; done) | simp [C.wf]) rfl (by rfl)) ?_))
                      · have hst : smK u v qs a b (j + 1) = false := by rw [hsucc, hsm, decide_eq_true h1, decide_eq_false h2]; rfl
                        repeat ((conv => whnf); first | (refine And.intro (by first | omega | exact Nat.le_of_ble_eq_true rfl | (dsimp only [inK]; omega) | (simp only [mulS_eq]; omega) | (simp only [mulS_eq, setL_length]; omega) | (simp only [setL_length]; omega) | (simp only [setL_length, List.length_map]; omega) | (exact ⟨by omega, by omega, by first | exact Nat.le_of_ble_eq_true rfl | (dsimp only; omega) | (simp only [setL_length]; omega) | (simp only [setL_length, List.length_map]; omega)⟩) | (exact ⟨by omega, by first | rfl | omega, by omega, Nat.le_of_ble_eq_true rfl, Nat.le_of_ble_eq_true rfl⟩) | (exact ⟨rfl, rfl, rfl, Nat.le_of_ble_eq_true rfl, by first | rfl | omega | exact Nat.le_of_ble_eq_true rfl | (dsimp only; omega) | (simp; done) | (simp; omega), by first | rfl | omega | exact Nat.le_of_ble_eq_true rfl | (dsimp only; omega) | (simp; done) | (simp; omega), by omega, Nat.le_of_ble_eq_true rfl⟩) | exact Eq.refl true) ?_) | with_reducible refine ld (hld) ?_ | with_reducible refine ld (hla) ?_ | with_reducible refine ld (hlb) ?_ | refine Exists.intro _ (And.intro rfl ?_) | refine And.intro (And.intro rfl (chk_rowI _ _ _ _)) ?_ | refine br_t (by omega) ?_ | refine br_f (by omega) ?_ | refine bs_t (by omega) ?_ | refine bs_f (by omega) ?_ | refine fun (K' : K3) hK' => ?_ | (refine hK' _ _ _ ?_; clear hK' K') | refine draw_auto tok mixed (by kernel_rfl) ?_ | refine bs_t h1 ?_ | refine br_t h1 ?_ | refine bs_f h2 ?_ | refine br_f h2 ?_ | refine bs_bt (Eq.refl true) ?_ | refine bs_bf (Eq.refl false) ?_ | refine br_bt (Eq.refl true) ?_ | refine br_bf (Eq.refl false) ?_ | refine CallK.m ?_ | refine Two.l ?_ | refine And.intro (And.intro rfl rfl) ?_)
                        refine ⟨j + 1, [], by omega, by omega, ?_⟩
                        rw [hst]
                        refine ⟨?_, ?_, rfl, rfl, by first | exact Nat.le_of_ble_eq_true rfl | exact Nat.le_refl _ | omega⟩
                        · repeat (first | exact trivial | (refine And.intro (covS_syn (by first | rfl | (refine congrArg some (congrArg V.i ?_); omega)) rfl (by first | exact trivial | exact Nat.le_of_ble_eq_true rfl | exact hy | (first | ((show ∀ p ∈ (_ : List (Nat × Nat)), p.1 < _); decide) | exact (fun p hp => nomatch hp)) | (show (_ : Nat) < _; omega))) ?_) | (refine And.intro (covS_bool rfl rfl (by first | rfl | exact decide_eq_false h2)) ?_))
                        · repeat (first | exact trivial | (refine And.intro (covE_id (Nat.le_of_ble_eq_true rfl) (by first | exact wf_ints _ _ | exact wf_bools _ _ | first | exact wf_us _ _ | exact wf_cells _ _ | (simp [C.wf]; done) | simp [C.wf]) rfl (by rfl)) ?_))
                    · have hst : smK u v qs a b (j + 1) = false := by rw [hsucc, hsm, decide_eq_false h1]; rfl
                      repeat ((conv => whnf); first | (refine And.intro (by first | omega | exact Nat.le_of_ble_eq_true rfl | (dsimp only [inK]; omega) | (simp only [mulS_eq]; omega) | (simp only [mulS_eq, setL_length]; omega) | (simp only [setL_length]; omega) | (simp only [setL_length, List.length_map]; omega) | (exact ⟨by omega, by omega, by first | exact Nat.le_of_ble_eq_true rfl | (dsimp only; omega) | (simp only [setL_length]; omega) | (simp only [setL_length, List.length_map]; omega)⟩) | (exact ⟨by omega, by first | rfl | omega, by omega, Nat.le_of_ble_eq_true rfl, Nat.le_of_ble_eq_true rfl⟩) | (exact ⟨rfl, rfl, rfl, Nat.le_of_ble_eq_true rfl, by first | rfl | omega | exact Nat.le_of_ble_eq_true rfl | (dsimp only; omega) | (simp; done) | (simp; omega), by first | rfl | omega | exact Nat.le_of_ble_eq_true rfl | (dsimp only; omega) | (simp; done) | (simp; omega), by omega, Nat.le_of_ble_eq_true rfl⟩) | exact Eq.refl true) ?_) | with_reducible refine ld (hld) ?_ | with_reducible refine ld (hla) ?_ | with_reducible refine ld (hlb) ?_ | refine Exists.intro _ (And.intro rfl ?_) | refine And.intro (And.intro rfl (chk_rowI _ _ _ _)) ?_ | refine br_t (by omega) ?_ | refine br_f (by omega) ?_ | refine bs_t (by omega) ?_ | refine bs_f (by omega) ?_ | refine fun (K' : K3) hK' => ?_ | (refine hK' _ _ _ ?_; clear hK' K') | refine draw_auto tok mixed (by kernel_rfl) ?_ | refine bs_f h1 ?_ | refine br_f h1 ?_ | refine bs_bt (Eq.refl true) ?_ | refine bs_bf (Eq.refl false) ?_ | refine br_bt (Eq.refl true) ?_ | refine br_bf (Eq.refl false) ?_ | refine CallK.m ?_ | refine Two.l ?_ | refine And.intro (And.intro rfl rfl) ?_)
                      refine ⟨j + 1, [], by omega, by omega, ?_⟩
                      rw [hst]
                      refine ⟨?_, ?_, rfl, rfl, by first | exact Nat.le_of_ble_eq_true rfl | exact Nat.le_refl _ | omega⟩
                      · repeat (first | exact trivial | (refine And.intro (covS_syn (by first | rfl | (refine congrArg some (congrArg V.i ?_); omega)) rfl (by first | exact trivial | exact Nat.le_of_ble_eq_true rfl | exact hy | (first | ((show ∀ p ∈ (_ : List (Nat × Nat)), p.1 < _); decide) | exact (fun p hp => nomatch hp)) | (show (_ : Nat) < _; omega))) ?_) | (refine And.intro (covS_bool rfl rfl (by first | rfl | exact decide_eq_false h1)) ?_))
                      · repeat (first | exact trivial | (refine And.intro (covE_id (Nat.le_of_ble_eq_true rfl) (by first | exact wf_ints _ _ | exact wf_bools _ _ | first | exact wf_us _ _ | exact wf_cells _ _ | (simp [C.wf]; done) | simp [C.wf]) rfl (by rfl)) ?_))
                · obtain rfl : j = qs.length := by omega
                  cases hs : smK u v qs a b qs.length with
                  | true =>
                    have hst : p0 ++ plB F a (b + 1) = p1 ++ [(a, b)] := by rw [hB, hFa, hs, hp1, List.append_assoc]; rfl
                    have happ : cellC (castP p1) ++ [C.i (a : Nat), C.i (b : Nat)] = cellC (castP (p1 ++ [(a, b)])) := by rw [castP_app, cellC_app]; rfl
                    have hll : (castP (p1 ++ [(a, b)])).length = (castP p1).length + 1 := by rw [castP_app, List.length_append]; rfl
                    repeat ((conv => whnf); first | (refine And.intro (by first | omega | exact Nat.le_of_ble_eq_true rfl | (dsimp only [inK]; omega) | (simp only [mulS_eq]; omega) | (simp only [mulS_eq, setL_length]; omega) | (simp only [setL_length]; omega) | (simp only [setL_length, List.length_map]; omega) | (exact ⟨by omega, by omega, by first | exact Nat.le_of_ble_eq_true rfl | (dsimp only; omega) | (simp only [setL_length]; omega) | (simp only [setL_length, List.length_map]; omega)⟩) | (exact ⟨by omega, by first | rfl | omega, by omega, Nat.le_of_ble_eq_true rfl, Nat.le_of_ble_eq_true rfl⟩) | (exact ⟨rfl, rfl, rfl, Nat.le_of_ble_eq_true rfl, by first | rfl | omega | exact Nat.le_of_ble_eq_true rfl | (dsimp only; omega) | (simp; done) | (simp; omega), by first | rfl | omega | exact Nat.le_of_ble_eq_true rfl | (dsimp only; omega) | (simp; done) | (simp; omega), by omega, Nat.le_of_ble_eq_true rfl⟩) | exact Eq.refl true) ?_) | refine Exists.intro _ (And.intro rfl ?_) | refine And.intro (And.intro rfl (chk_rowI _ _ _ _)) ?_ | refine br_t (by omega) ?_ | refine br_f (by omega) ?_ | refine bs_t (by omega) ?_ | refine bs_f (by omega) ?_ | refine fun (K' : K3) hK' => ?_ | (refine hK' _ _ _ ?_; clear hK' K') | refine draw_auto tok mixed (by kernel_rfl) ?_ | refine And.intro (And.intro rfl ((congrArg (fun cs => ([⟨_, _, cs⟩] : List E).all _) happ).trans (chk_rowC _ _ _ _))) ?_ | refine bs_bt (Eq.refl true) ?_ | refine bs_bf (Eq.refl false) ?_ | refine br_bt (Eq.refl true) ?_ | refine br_bf (Eq.refl false) ?_ | refine CallK.m ?_ | refine Two.l ?_ | refine And.intro (And.intro rfl rfl) ?_)
                    refine ⟨b + 1, [(5, some 7)], by omega, by omega, ?_⟩
                    rw [hst, hll]
                    refine ⟨?_, ?_, rfl, rfl, by first | exact Nat.le_of_ble_eq_true rfl | exact Nat.le_refl _ | omega⟩
                    · repeat (first | exact trivial | (refine And.intro (covS_syn (by first | rfl | (refine congrArg some (congrArg V.i ?_); omega)) rfl (by first | exact trivial | exact Nat.le_of_ble_eq_true rfl | exact hy | (first | ((show ∀ p ∈ (_ : List (Nat × Nat)), p.1 < _); decide) | exact (fun p hp => nomatch hp)) | (show (_ : Nat) < _; omega))) ?_) | refine And.intro (covS_bool rfl rfl (by rfl)) ?_)
                    · repeat (first | exact trivial | refine And.intro (covE_c rfl (Nat.le_of_ble_eq_true rfl) rfl happ) ?_ | refine And.intro (covE_i rfl (Nat.le_of_ble_eq_true rfl) rfl rfl) ?_ | refine And.intro (covE_c rfl (Nat.le_of_ble_eq_true rfl) rfl rfl) ?_ | refine And.intro (covE_nil rfl (Nat.le_of_ble_eq_true rfl) rfl rfl) ?_ | (refine And.intro (covE_some rfl (Nat.le_of_ble_eq_true rfl) (by first | exact wf_ints _ _ | exact wf_bools _ _ | first | exact wf_us _ _ | exact wf_cells _ _ | (simp [C.wf]; done) | simp [C.wf]) rfl (by first | exact ren_ints _ _ | exact ren_bools _ _ | exact ren_shares _ _ | rfl)) ?_))
                  | false =>
                    have hst : p0 ++ plB F a (b + 1) = p1 := by rw [hB, hFa, hs, hp1]; simp
                    repeat ((conv => whnf); first | (refine And.intro (by first | omega | exact Nat.le_of_ble_eq_true rfl | (dsimp only [inK]; omega) | (simp only [mulS_eq]; omega) | (simp only [mulS_eq, setL_length]; omega) | (simp only [setL_length]; omega) | (simp only [setL_length, List.length_map]; omega) | (exact ⟨by omega, by omega, by first | exact Nat.le_of_ble_eq_true rfl | (dsimp only; omega) | (simp only [setL_length]; omega) | (simp only [setL_length, List.length_map]; omega)⟩) | (exact ⟨by omega, by first | rfl | omega, by omega, Nat.le_of_ble_eq_true rfl, Nat.le_of_ble_eq_true rfl⟩) | (exact ⟨rfl, rfl, rfl, Nat.le_of_ble_eq_true rfl, by first | rfl | omega | exact Nat.le_of_ble_eq_true rfl | (dsimp only; omega) | (simp; done) | (simp; omega), by first | rfl | omega | exact Nat.le_of_ble_eq_true rfl | (dsimp only; omega) | (simp; done) | (simp; omega), by omega, Nat.le_of_ble_eq_true rfl⟩) | exact Eq.refl true) ?_) | refine Exists.intro _ (And.intro rfl ?_) | refine And.intro (And.intro rfl (chk_rowI _ _ _ _)) ?_ | refine br_t (by omega) ?_ | refine br_f (by omega) ?_ | refine bs_t (by omega) ?_ | refine bs_f (by omega) ?_ | refine fun (K' : K3) hK' => ?_ | (refine hK' _ _ _ ?_; clear hK' K') | refine draw_auto tok mixed (by kernel_rfl) ?_ | refine bs_bt (Eq.refl true) ?_ | refine bs_bf (Eq.refl false) ?_ | refine br_bt (Eq.refl true) ?_ | refine br_bf (Eq.refl false) ?_ | refine CallK.m ?_ | refine Two.l ?_ | refine And.intro (And.intro rfl rfl) ?_)
                    refine ⟨b + 1, [], by omega, by omega, ?_⟩
                    rw [hst]
                    refine ⟨?_, ?_, rfl, rfl, by first | exact Nat.le_of_ble_eq_true rfl | exact Nat.le_refl _ | omega⟩
                    · repeat (first | exact trivial | (refine And.intro (covS_syn (by first | rfl | (refine congrArg some (congrArg V.i ?_); omega)) rfl (by first | exact trivial | exact Nat.le_of_ble_eq_true rfl | exact hy | (first | ((show ∀ p ∈ (_ : List (Nat × Nat)), p.1 < _); decide) | exact (fun p hp => nomatch hp)) | (show (_ : Nat) < _; omega))) ?_) | refine And.intro (covS_bool rfl rfl (by rfl)) ?_)
                    · repeat (first | exact trivial | (refine And.intro (covE_id (Nat.le_of_ble_eq_true rfl) (by first | exact wf_ints _ _ | exact wf_bools _ _ | first | exact wf_us _ _ | exact wf_cells _ _ | (simp [C.wf]; done) | simp [C.wf]) rfl (by rfl)) ?_))
            · obtain rfl : b = k - 1 := by omega
              rw [← hA]
              repeat ((conv => whnf); first | (refine And.intro (by first | omega | exact Nat.le_of_ble_eq_true rfl | (dsimp only [inK]; omega) | (simp only [mulS_eq]; omega) | (simp only [mulS_eq, setL_length]; omega) | (simp only [setL_length]; omega) | (simp only [setL_length, List.length_map]; omega) | (exact ⟨by omega, by omega, by first | exact Nat.le_of_ble_eq_true rfl | (dsimp only; omega) | (simp only [setL_length]; omega) | (simp only [setL_length, List.length_map]; omega)⟩) | (exact ⟨by omega, by first | rfl | omega, by omega, Nat.le_of_ble_eq_true rfl, Nat.le_of_ble_eq_true rfl⟩) | (exact ⟨rfl, rfl, rfl, Nat.le_of_ble_eq_true rfl, by first | rfl | omega | exact Nat.le_of_ble_eq_true rfl | (dsimp only; omega) | (simp; done) | (simp; omega), by first | rfl | omega | exact Nat.le_of_ble_eq_true rfl | (dsimp only; omega) | (simp; done) | (simp; omega), by omega, Nat.le_of_ble_eq_true rfl⟩) | exact Eq.refl true) ?_) | refine Exists.intro _ (And.intro rfl ?_) | refine And.intro (And.intro rfl (chk_rowI _ _ _ _)) ?_ | refine br_t (by omega) ?_ | refine br_f (by omega) ?_ | refine bs_t (by omega) ?_ | refine bs_f (by omega) ?_ | refine fun (K' : K3) hK' => ?_ | (refine hK' _ _ _ ?_; clear hK' K') | refine draw_auto tok mixed (by kernel_rfl) ?_ | refine bs_bt (Eq.refl true) ?_ | refine bs_bf (Eq.refl false) ?_ | refine br_bt (Eq.refl true) ?_ | refine br_bf (Eq.refl false) ?_ | refine CallK.m ?_ | refine Two.l ?_ | refine And.intro (And.intro rfl rfl) ?_)
              refine ⟨a + 1, [], by omega, by omega, ?_⟩
              refine ⟨?_, ?_, rfl, rfl, by first | exact Nat.le_of_ble_eq_true rfl | exact Nat.le_refl _ | omega⟩
              · repeat (first | exact trivial | (refine And.intro (covS_syn (by first | rfl | (refine congrArg some (congrArg V.i ?_); omega)) rfl (by first | exact trivial | exact Nat.le_of_ble_eq_true rfl | exact hy | (first | ((show ∀ p ∈ (_ : List (Nat × Nat)), p.1 < _); decide) | exact (fun p hp => nomatch hp)) | (show (_ : Nat) < _; omega))) ?_) | refine And.intro (covS_bool rfl rfl (by rfl)) ?_)
              · repeat (first | exact trivial | (refine And.intro (covE_id (Nat.le_of_ble_eq_true rfl) (by first | exact wf_ints _ _ | exact wf_bools _ _ | first | exact wf_us _ _ | exact wf_cells _ _ | (simp [C.wf]; done) | simp [C.wf]) rfl (by rfl)) ?_))
        · obtain rfl : a = k - 1 := by omega
          repeat ((conv => whnf); first | (refine And.intro (by first | omega | exact Nat.le_of_ble_eq_true rfl | (dsimp only [inK]; omega) | (simp only [mulS_eq]; omega) | (simp only [mulS_eq, setL_length]; omega) | (simp only [setL_length]; omega) | (simp only [setL_length, List.length_map]; omega) | (exact ⟨by omega, by omega, by first | exact Nat.le_of_ble_eq_true rfl | (dsimp only; omega) | (simp only [setL_length]; omega) | (simp only [setL_length, List.length_map]; omega)⟩) | (exact ⟨by omega, by first | rfl | omega, by omega, Nat.le_of_ble_eq_true rfl, Nat.le_of_ble_eq_true rfl⟩) | (exact ⟨rfl, rfl, rfl, Nat.le_of_ble_eq_true rfl, by first | rfl | omega | exact Nat.le_of_ble_eq_true rfl | (dsimp only; omega) | (simp; done) | (simp; omega), by first | rfl | omega | exact Nat.le_of_ble_eq_true rfl | (dsimp only; omega) | (simp; done) | (simp; omega), by omega, Nat.le_of_ble_eq_true rfl⟩) | exact Eq.refl true) ?_) | refine Exists.intro _ (And.intro rfl ?_) | refine And.intro (And.intro rfl (chk_rowI _ _ _ _)) ?_ | refine br_t (by omega) ?_ | refine br_f (by omega) ?_ | refine bs_t (by omega) ?_ | refine bs_f (by omega) ?_ | refine fun (K' : K3) hK' => ?_ | (refine hK' _ _ _ ?_; clear hK' K') | refine draw_auto tok mixed (by kernel_rfl) ?_ | refine bs_bt (Eq.refl true) ?_ | refine bs_bf (Eq.refl false) ?_ | refine br_bt (Eq.refl true) ?_ | refine br_bf (Eq.refl false) ?_ | refine CallK.m ?_ | refine Two.l ?_ | refine And.intro (And.intro rfl rfl) ?_)
          exact rfl
end Go.Proofs.YtijnimgmpocmaaaDoor

/- Waste: what the laws share: Wide, Awake. -/
namespace Go.Proofs.YtijnimgmpocmaaaDoor
open Go.RowKit
set_option linter.unusedVariables false
set_option linter.unusedSimpArgs false
theorem wide_spec (N : Int) (n : Nat) (hn : n < 9223372036854775808) : Spec Tryd.prog 14 [V.agg [C.i N, C.sl 0 n]] [] 1 (Is (V.c (.bool (decide ((n : Int) > 60))))) := by
  refine Spec.of tok Tryd.func14 rfl rfl rfl fun n0 cx => vc_ok tok ?_
  repeat ((conv => whnf); first | (refine And.intro (by first | omega | exact Nat.le_of_ble_eq_true rfl | (dsimp only [inK]; omega) | (simp only [mulS_eq]; omega) | (simp only [mulS_eq, setL_length]; omega) | (simp only [setL_length]; omega) | (simp only [setL_length, List.length_map]; omega) | (exact ⟨by omega, by omega, by first | exact Nat.le_of_ble_eq_true rfl | (dsimp only; omega) | (simp only [setL_length]; omega) | (simp only [setL_length, List.length_map]; omega)⟩) | (exact ⟨by omega, by first | rfl | omega, by omega, Nat.le_of_ble_eq_true rfl, Nat.le_of_ble_eq_true rfl⟩) | (exact ⟨rfl, rfl, rfl, Nat.le_of_ble_eq_true rfl, by first | rfl | omega | exact Nat.le_of_ble_eq_true rfl | (dsimp only; omega) | (simp; done) | (simp; omega), by first | rfl | omega | exact Nat.le_of_ble_eq_true rfl | (dsimp only; omega) | (simp; done) | (simp; omega), by omega, Nat.le_of_ble_eq_true rfl⟩) | exact Eq.refl true) ?_) | refine Exists.intro _ (And.intro rfl ?_) | refine And.intro (And.intro rfl (chk_rowI _ _ _ _)) ?_ | refine br_t (by omega) ?_ | refine br_f (by omega) ?_ | refine bs_t (by omega) ?_ | refine bs_f (by omega) ?_ | refine fun (K' : K3) hK' => ?_ | (refine hK' _ _ _ ?_; clear hK' K') | refine draw_auto tok mixed (by kernel_rfl) ?_ | refine bs_bt (Eq.refl true) ?_ | refine bs_bf (Eq.refl false) ?_ | refine br_bt (Eq.refl true) ?_ | refine br_bf (Eq.refl false) ?_ | refine CallK.m ?_ | refine Two.l ?_ | refine And.intro (And.intro rfl rfl) ?_)
  intro ρ; rfl
theorem three_knd : Knd 3 [(0, 1), (1, 2), (0, 2)] := ⟨by omega, fun p hp => by simp only [List.mem_cons, List.not_mem_nil, or_false] at hp; rcases hp with rfl | rfl | rfl <;> simp, by decide⟩
theorem three_cnt : cntO 3 [(0, 1), (1, 2), (0, 2)] 3 = 6 := by decide +kernel
set_option maxRecDepth 10000 in
theorem awake_spec : Spec Tryd.prog 16 [] [] 0 (Is (V.c (.bool true))) := by
  have hc := count_spec 3 3 [(0, 1), (1, 2), (0, 2)] three_knd
  rw [if_pos (by omega), three_cnt] at hc
  have hc : Spec Tryd.prog 25 [V.agg [C.i 3, C.sl 0 3], V.i 3] [⟨0, .ro 2, [C.i 0, C.i 1, C.i 1, C.i 2, C.i 0, C.i 2]⟩] 1 (Is (V.tup [A.c (C.i 6), A.c (C.i 0)])) := hc
  refine Spec.of tok Tryd.func16 rfl rfl rfl fun n0 cx => vc_ok tok ?_
  repeat ((conv => whnf); first | (refine And.intro (by first | omega | exact Nat.le_of_ble_eq_true rfl | (dsimp only [inK]; omega) | (simp only [mulS_eq]; omega) | (simp only [mulS_eq, setL_length]; omega) | (simp only [setL_length]; omega) | (simp only [setL_length, List.length_map]; omega) | (exact ⟨by omega, by omega, by first | exact Nat.le_of_ble_eq_true rfl | (dsimp only; omega) | (simp only [setL_length]; omega) | (simp only [setL_length, List.length_map]; omega)⟩) | (exact ⟨by omega, by first | rfl | omega, by omega, Nat.le_of_ble_eq_true rfl, Nat.le_of_ble_eq_true rfl⟩) | (exact ⟨rfl, rfl, rfl, Nat.le_of_ble_eq_true rfl, by first | rfl | omega | exact Nat.le_of_ble_eq_true rfl | (dsimp only; omega) | (simp; done) | (simp; omega), by first | rfl | omega | exact Nat.le_of_ble_eq_true rfl | (dsimp only; omega) | (simp; done) | (simp; omega), by omega, Nat.le_of_ble_eq_true rfl⟩) | exact Eq.refl true) ?_) | refine Exists.intro _ (And.intro rfl ?_) | refine And.intro (And.intro rfl (chk_rowI _ _ _ _)) ?_ | refine br_t (by omega) ?_ | refine br_f (by omega) ?_ | refine bs_t (by omega) ?_ | refine bs_f (by omega) ?_ | refine fun (K' : K3) hK' => ?_ | (refine hK' _ _ _ ?_; clear hK' K') | refine draw_auto tok mixed (by kernel_rfl) ?_ | refine CallK.val (R := [(0, some 0)]) hc (by kernel_rfl) rfl (by simp [V.wf, A.wf, C.wf, V.i]) ⟨roE_f (k := .vec 59 2) (flat_c [(0, 1), (1, 2), (0, 2)]) (l := 0) rfl (by omega) rfl (.inr rfl), trivial⟩ rfl rfl (by simp [V.wf, A.wf, C.wf]) ?_ | refine bs_bt (Eq.refl true) ?_ | refine bs_bf (Eq.refl false) ?_ | refine br_bt (Eq.refl true) ?_ | refine br_bf (Eq.refl false) ?_ | refine CallK.m ?_ | refine Two.l ?_ | refine And.intro (And.intro rfl rfl) ?_)
  intro ρ; rfl
section
variable {n0 nx : Nat} {L : List E} {K : V → List E → Nat → Prop}
theorem awake_k (hK : K (V.c (.bool true)) [] nx) : CallK Tryd.prog n0 16 [] L nx K :=
  CallK.val (R := []) awake_spec (by kernel_rfl) rfl (by simp) trivial rfl rfl trivial hK
theorem wide_k {N : Int} {n a : Nat} (hn : n < 9223372036854775808) (hK : K (V.c (.bool (decide ((n : Int) > 60)))) [] nx) : CallK Tryd.prog n0 14 [V.agg [C.i N, C.sl a n]] L nx K :=
  CallK.val (R := [(0, some a)]) (wide_spec N n hn) (by kernel_rfl) rfl (by simp [V.wf, A.wf, C.wf]) trivial rfl rfl trivial hK
end
end Go.Proofs.YtijnimgmpocmaaaDoor

/- Waste: the law of others. -/
namespace Go.Proofs.YtijnimgmpocmaaaDoor
open Go.RowKit
set_option linter.unusedVariables false
set_option linter.unusedSimpArgs false
section
variable (N z : Int) (ps : List Cell)
theorem others_long (hps : ps.length < 9223372036854775808) (h1 : (ps.length : Int) > 60) :
    Spec Tryd.prog 7 [kX N ps, V.i z] [⟨0, .ro 2, cellC ps⟩] 1 (Is (V.c (.bool true))) := by
  refine Spec.of tok Tryd.func7 rfl rfl rfl fun n0 cx => vc_ok tok ?_
  repeat ((conv => whnf); first | (refine And.intro (by first | omega | exact Nat.le_of_ble_eq_true rfl | (dsimp only [inK]; omega) | (simp only [mulS_eq]; omega) | (simp only [mulS_eq, setL_length]; omega) | (simp only [setL_length]; omega) | (simp only [setL_length, List.length_map]; omega) | (exact ⟨by omega, by omega, by first | exact Nat.le_of_ble_eq_true rfl | (dsimp only; omega) | (simp only [setL_length]; omega) | (simp only [setL_length, List.length_map]; omega)⟩) | (exact ⟨by omega, by first | rfl | omega, by omega, Nat.le_of_ble_eq_true rfl, Nat.le_of_ble_eq_true rfl⟩) | (exact ⟨rfl, rfl, rfl, Nat.le_of_ble_eq_true rfl, by first | rfl | omega | exact Nat.le_of_ble_eq_true rfl | (dsimp only; omega) | (simp; done) | (simp; omega), by first | rfl | omega | exact Nat.le_of_ble_eq_true rfl | (dsimp only; omega) | (simp; done) | (simp; omega), by omega, Nat.le_of_ble_eq_true rfl⟩) | exact Eq.refl true) ?_) | refine Exists.intro _ (And.intro rfl ?_) | refine And.intro (And.intro rfl (chk_rowI _ _ _ _)) ?_ | refine br_t (by omega) ?_ | refine br_f (by omega) ?_ | refine bs_t (by omega) ?_ | refine bs_f (by omega) ?_ | refine fun (K' : K3) hK' => ?_ | (refine hK' _ _ _ ?_; clear hK' K') | refine draw_auto tok mixed (by kernel_rfl) ?_ | refine wide_k hps ?_ | refine bs_t h1 ?_ | refine br_t h1 ?_ | refine awake_k ?_ | refine bs_bt (Eq.refl true) ?_ | refine bs_bf (Eq.refl false) ?_ | refine br_bt (Eq.refl true) ?_ | refine br_bf (Eq.refl false) ?_ | refine CallK.m ?_ | refine Two.l ?_ | refine And.intro (And.intro rfl rfl) ?_)
  intro ρ; rfl
set_option maxRecDepth 10000 in
set_option maxHeartbeats 4000000 in
theorem others_no (h1 : ¬ (ps.length : Int) > 60) (hv : okK' N ps = false) :
    Spec Tryd.prog 7 [kX N ps, V.i z] [⟨0, .ro 2, cellC ps⟩] 1 (Is (V.c (.bool true))) := by
  have hpe : pairE N ps z = 70 := by unfold pairE; rw [hv]; rfl
  have c1 := without_err N z ps (by omega) 70 hpe (by omega)
  have c2 := rwithout_err N z ps (by omega) 70 hpe (by omega)
  have c3 := joined_err N z ps (by omega) 70 hpe (by omega)
  have c4 := rjoined_err N z ps (by omega) 70 hpe (by omega)
  have c5 := Other_err N ps (by omega) hv
  have c6 := rOther_err N ps (by omega) hv
  refine Spec.of tok Tryd.func7 rfl rfl rfl fun n0 cx => vc_ok tok ?_
  repeat ((conv => whnf); first | (refine And.intro (by first | omega | exact Nat.le_of_ble_eq_true rfl | (dsimp only [inK]; omega) | (simp only [mulS_eq]; omega) | (simp only [mulS_eq, setL_length]; omega) | (simp only [setL_length]; omega) | (simp only [setL_length, List.length_map]; omega) | (exact ⟨by omega, by omega, by first | exact Nat.le_of_ble_eq_true rfl | (dsimp only; omega) | (simp only [setL_length]; omega) | (simp only [setL_length, List.length_map]; omega)⟩) | (exact ⟨by omega, by first | rfl | omega, by omega, Nat.le_of_ble_eq_true rfl, Nat.le_of_ble_eq_true rfl⟩) | (exact ⟨rfl, rfl, rfl, Nat.le_of_ble_eq_true rfl, by first | rfl | omega | exact Nat.le_of_ble_eq_true rfl | (dsimp only; omega) | (simp; done) | (simp; omega), by first | rfl | omega | exact Nat.le_of_ble_eq_true rfl | (dsimp only; omega) | (simp; done) | (simp; omega), by omega, Nat.le_of_ble_eq_true rfl⟩) | exact Eq.refl true) ?_) | refine Exists.intro _ (And.intro rfl ?_) | refine And.intro (And.intro rfl (chk_rowI _ _ _ _)) ?_ | refine br_t (by omega) ?_ | refine br_f (by omega) ?_ | refine bs_t (by omega) ?_ | refine bs_f (by omega) ?_ | refine fun (K' : K3) hK' => ?_ | (refine hK' _ _ _ ?_; clear hK' K') | refine draw_auto tok mixed (by kernel_rfl) ?_ | refine wide_k (by omega) ?_ | refine bs_f h1 ?_ | refine br_f h1 ?_ | refine CallK.val (R := []) c1 (by kernel_rfl) rfl (by simp [V.wf, A.wf, C.wf, V.i]) ⟨roE_f (flat_c _) (l := 0) rfl (by omega) rfl (.inr rfl), trivial⟩ rfl rfl (by simp [V.wf, A.wf, C.wf]) ?_ | refine CallK.val (R := []) c2 (by kernel_rfl) rfl (by simp [V.wf, A.wf, C.wf, V.i]) ⟨roE_f (flat_c _) (l := 0) rfl (by omega) rfl (.inr rfl), trivial⟩ rfl rfl (by simp [V.wf, A.wf, C.wf]) ?_ | refine CallK.val (R := []) same_nil (by kernel_rfl) rfl (by simp [V.wf, A.wf, C.wf, V.i]) trivial rfl rfl trivial ?_ | refine CallK.val (R := []) c3 (by kernel_rfl) rfl (by simp [V.wf, A.wf, C.wf, V.i]) ⟨roE_f (flat_c _) (l := 0) rfl (by omega) rfl (.inr rfl), trivial⟩ rfl rfl (by simp [V.wf, A.wf, C.wf]) ?_ | refine CallK.val (R := []) c4 (by kernel_rfl) rfl (by simp [V.wf, A.wf, C.wf, V.i]) ⟨roE_f (flat_c _) (l := 0) rfl (by omega) rfl (.inr rfl), trivial⟩ rfl rfl (by simp [V.wf, A.wf, C.wf]) ?_ | refine CallK.val (R := []) c5 (by kernel_rfl) rfl (by simp [V.wf, A.wf, C.wf, V.i]) ⟨roE_f (flat_c _) (l := 0) rfl (by omega) rfl (.inr rfl), trivial⟩ rfl rfl (by simp [V.wf, A.wf, C.wf]) ?_ | refine CallK.val (R := []) c6 (by kernel_rfl) rfl (by simp [V.wf, A.wf, C.wf, V.i]) ⟨roE_f (flat_c _) (l := 0) rfl (by omega) rfl (.inr rfl), trivial⟩ rfl rfl (by simp [V.wf, A.wf, C.wf]) ?_ | refine awake_k ?_ | refine bs_bt (Eq.refl true) ?_ | refine bs_bf (Eq.refl false) ?_ | refine br_bt (Eq.refl true) ?_ | refine br_bf (Eq.refl false) ?_ | refine CallK.m ?_ | refine Two.l ?_ | refine And.intro (And.intro rfl rfl) ?_)
  intro ρ; rfl
end
section
variable (n : Nat) (z : Int) (qs : List (Nat × Nat)) (hk : Knd n qs)
include hk
set_option maxRecDepth 10000 in
set_option maxHeartbeats 8000000 in
theorem others_err (hpe : pairE n (castP qs) z = 2) :
    Spec Tryd.prog 7 [kX n (castP qs), V.i z] [⟨0, .ro 2, cellC (castP qs)⟩] 1 (Is (V.c (.bool true))) := by
  have hpl := castP_len qs
  have hql := knd_len hk
  have h1 : ¬ ((castP qs).length : Int) > 60 := by omega
  have c1 := without_err n z (castP qs) (by omega) 2 hpe (by omega)
  have c2 := rwithout_err n z (castP qs) (by omega) 2 hpe (by omega)
  have c3 := joined_err n z (castP qs) (by omega) 2 hpe (by omega)
  have c4 := rjoined_err n z (castP qs) (by omega) 2 hpe (by omega)
  have c5 := Other_spec n qs hk
  have c6 := rOther_spec n qs hk
  have hol : (castP (otQ n qs)).length ≤ 64 := by
    rw [castP_len, otQ_pl hk]
    have h2 := plA_len (fun a b => !symC (clP qs) a b) n n
    have h3 : n * n ≤ 64 := Nat.mul_le_mul hk.rng.2 hk.rng.2
    omega
  have c7 := same_spec n (castP (otQ n qs)) (by omega)
  refine Spec.of tok Tryd.func7 rfl rfl rfl fun n0 cx => vc_ok tok ?_
  repeat ((conv => whnf); first | (refine And.intro (by first | omega | exact Nat.le_of_ble_eq_true rfl | (dsimp only [inK]; omega) | (simp only [mulS_eq]; omega) | (simp only [mulS_eq, setL_length]; omega) | (simp only [setL_length]; omega) | (simp only [setL_length, List.length_map]; omega) | (exact ⟨by omega, by omega, by first | exact Nat.le_of_ble_eq_true rfl | (dsimp only; omega) | (simp only [setL_length]; omega) | (simp only [setL_length, List.length_map]; omega)⟩) | (exact ⟨by omega, by first | rfl | omega, by omega, Nat.le_of_ble_eq_true rfl, Nat.le_of_ble_eq_true rfl⟩) | (exact ⟨rfl, rfl, rfl, Nat.le_of_ble_eq_true rfl, by first | rfl | omega | exact Nat.le_of_ble_eq_true rfl | (dsimp only; omega) | (simp; done) | (simp; omega), by first | rfl | omega | exact Nat.le_of_ble_eq_true rfl | (dsimp only; omega) | (simp; done) | (simp; omega), by omega, Nat.le_of_ble_eq_true rfl⟩) | exact Eq.refl true) ?_) | refine Exists.intro _ (And.intro rfl ?_) | refine And.intro (And.intro rfl (chk_rowI _ _ _ _)) ?_ | refine br_t (by omega) ?_ | refine br_f (by omega) ?_ | refine bs_t (by omega) ?_ | refine bs_f (by omega) ?_ | refine fun (K' : K3) hK' => ?_ | (refine hK' _ _ _ ?_; clear hK' K') | refine draw_auto tok mixed (by kernel_rfl) ?_ | refine wide_k (by omega) ?_ | refine bs_f h1 ?_ | refine br_f h1 ?_ | refine CallK.val (R := []) c1 (by kernel_rfl) rfl (by simp [V.wf, A.wf, C.wf, V.i]) ⟨roE_f (flat_c _) (l := 0) rfl (by omega) rfl (.inr rfl), trivial⟩ rfl rfl (by simp [V.wf, A.wf, C.wf]) ?_ | refine CallK.val (R := []) c2 (by kernel_rfl) rfl (by simp [V.wf, A.wf, C.wf, V.i]) ⟨roE_f (flat_c _) (l := 0) rfl (by omega) rfl (.inr rfl), trivial⟩ rfl rfl (by simp [V.wf, A.wf, C.wf]) ?_ | refine CallK.val (R := []) same_nil (by kernel_rfl) rfl (by simp [V.wf, A.wf, C.wf, V.i]) trivial rfl rfl trivial ?_ | refine CallK.val (R := []) c3 (by kernel_rfl) rfl (by simp [V.wf, A.wf, C.wf, V.i]) ⟨roE_f (flat_c _) (l := 0) rfl (by omega) rfl (.inr rfl), trivial⟩ rfl rfl (by simp [V.wf, A.wf, C.wf]) ?_ | refine CallK.val (R := []) c4 (by kernel_rfl) rfl (by simp [V.wf, A.wf, C.wf, V.i]) ⟨roE_f (flat_c _) (l := 0) rfl (by omega) rfl (.inr rfl), trivial⟩ rfl rfl (by simp [V.wf, A.wf, C.wf]) ?_ | refine CallK.rowA (R := []) (flat_c _) c5 (by kernel_rfl) rfl (by simp [V.wf, A.wf, C.wf, V.i]) ⟨roE_f (flat_c _) (l := 0) rfl (by omega) rfl (.inr rfl), trivial⟩ rfl ?_ | refine CallK.rowA (R := []) (flat_c _) c6 (by kernel_rfl) rfl (by simp [V.wf, A.wf, C.wf, V.i]) ⟨roE_f (flat_c _) (l := 0) rfl (by omega) rfl (.inr rfl), trivial⟩ rfl ?_ | refine CallK.val (R := [(0, some 4), (1, some 5)]) c7 (by kernel_rfl) rfl (by simp [V.wf, A.wf, C.wf, V.i]) ⟨roE_f (flat_c _) (l := 4) rfl (by omega) rfl (.inr rfl), roE_f (flat_c _) (l := 5) rfl (by omega) rfl (.inr rfl), trivial⟩ rfl rfl trivial ?_ | refine awake_k ?_ | refine bs_bt (Eq.refl true) ?_ | refine bs_bf (Eq.refl false) ?_ | refine br_bt (Eq.refl true) ?_ | refine br_bf (Eq.refl false) ?_ | refine CallK.m ?_ | refine Two.l ?_ | refine And.intro (And.intro rfl rfl) ?_)
  intro ρ; rfl
set_option maxRecDepth 10000 in
set_option maxHeartbeats 8000000 in
theorem others_yes (i : Nat) (hi : z = i) (hil : i < qs.length) :
    Spec Tryd.prog 7 [kX n (castP qs), V.i z] [⟨0, .ro 2, cellC (castP qs)⟩] 1 (Is (V.c (.bool true))) := by
  have hpl := castP_len qs
  have hql := knd_len hk
  have hil2 : i < (castP qs).length := by omega
  have h1 : ¬ ((castP qs).length : Int) > 60 := by omega
  have hpe := pairE_ok hk hil
  have hce : ((castP qs).eraseIdx i).length = (castP qs).length - 1 := List.length_eraseIdx_of_lt hil2
  have c2 := rwithout_spec n qs hk i hil
  have c3 := joined_spec n qs hk i hil
  have c4 := rjoined_spec n qs hk i hil
  have c5 := Other_spec n qs hk
  have c6 := rOther_spec n qs hk
  have hol : (castP (otQ n qs)).length ≤ 64 := by
    rw [castP_len, otQ_pl hk]
    have h2 := plA_len (fun a b => !symC (clP qs) a b) n n
    have h3 : n * n ≤ 64 := Nat.mul_le_mul hk.rng.2 hk.rng.2
    omega
  have hjl : (castP (jnQ n qs i)).length ≤ 28 := by rw [castP_len]; exact knd_len (jnQ_knd hk hil)
  have c7 := same_spec n (castP (otQ n qs)) (by omega)
  have c8 := same_spec n ((castP qs).eraseIdx i) (by omega)
  have c9 := same_spec ((n - 1 : Nat) : Int) (castP (jnQ n qs i)) (by omega)
  rw [hce] at c2 c8
  rw [← hi] at hpe c2 c3 c4
  refine Spec.of tok Tryd.func7 rfl rfl rfl fun n0 cx => vc_ok tok ?_
  repeat ((conv => whnf); first | (refine And.intro (by first | omega | exact Nat.le_of_ble_eq_true rfl | (dsimp only [inK]; omega) | (simp only [mulS_eq]; omega) | (simp only [mulS_eq, setL_length]; omega) | (simp only [setL_length]; omega) | (simp only [setL_length, List.length_map]; omega) | (exact ⟨by omega, by omega, by first | exact Nat.le_of_ble_eq_true rfl | (dsimp only; omega) | (simp only [setL_length]; omega) | (simp only [setL_length, List.length_map]; omega)⟩) | (exact ⟨by omega, by first | rfl | omega, by omega, Nat.le_of_ble_eq_true rfl, Nat.le_of_ble_eq_true rfl⟩) | (exact ⟨rfl, rfl, rfl, Nat.le_of_ble_eq_true rfl, by first | rfl | omega | exact Nat.le_of_ble_eq_true rfl | (dsimp only; omega) | (simp; done) | (simp; omega), by first | rfl | omega | exact Nat.le_of_ble_eq_true rfl | (dsimp only; omega) | (simp; done) | (simp; omega), by omega, Nat.le_of_ble_eq_true rfl⟩) | exact Eq.refl true) ?_) | refine Exists.intro _ (And.intro rfl ?_) | refine And.intro (And.intro rfl (chk_rowI _ _ _ _)) ?_ | refine br_t (by omega) ?_ | refine br_f (by omega) ?_ | refine bs_t (by omega) ?_ | refine bs_f (by omega) ?_ | refine fun (K' : K3) hK' => ?_ | (refine hK' _ _ _ ?_; clear hK' K') | refine draw_auto tok mixed (by kernel_rfl) ?_ | refine wide_k (by omega) ?_ | refine bs_f h1 ?_ | refine br_f h1 ?_ | refine without_k i hi (by omega) hil2 hpe (.inl rfl) rfl ?_ | refine CallK.rowA (R := []) (flat_c _) c2 (by kernel_rfl) rfl (by simp [V.wf, A.wf, C.wf, V.i]) ⟨roE_f (flat_c _) (l := 0) rfl (by omega) rfl (.inr rfl), trivial⟩ rfl ?_ | refine CallK.val (R := [(0, some 2), (1, some 4)]) c8 (by kernel_rfl) rfl (by simp [V.wf, A.wf, C.wf, V.i]) ⟨roE_f (flat_c _) (l := 2) rfl (by omega) rfl (.inr rfl), roE_f (flat_c _) (l := 4) rfl (by omega) rfl (.inr rfl), trivial⟩ rfl rfl trivial ?_ | refine CallK.rowA (R := []) (flat_c _) c3 (by kernel_rfl) rfl (by simp [V.wf, A.wf, C.wf, V.i]) ⟨roE_f (flat_c _) (l := 0) rfl (by omega) rfl (.inr rfl), trivial⟩ rfl ?_ | refine CallK.rowA (R := []) (flat_c _) c4 (by kernel_rfl) rfl (by simp [V.wf, A.wf, C.wf, V.i]) ⟨roE_f (flat_c _) (l := 0) rfl (by omega) rfl (.inr rfl), trivial⟩ rfl ?_ | refine CallK.val (R := [(0, some 6), (1, some 7)]) c9 (by kernel_rfl) rfl (by simp [V.wf, A.wf, C.wf, V.i]) ⟨roE_f (flat_c _) (l := 6) rfl (by omega) rfl (.inr rfl), roE_f (flat_c _) (l := 7) rfl (by omega) rfl (.inr rfl), trivial⟩ rfl rfl trivial ?_ | refine CallK.rowA (R := []) (flat_c _) c5 (by kernel_rfl) rfl (by simp [V.wf, A.wf, C.wf, V.i]) ⟨roE_f (flat_c _) (l := 0) rfl (by omega) rfl (.inr rfl), trivial⟩ rfl ?_ | refine CallK.rowA (R := []) (flat_c _) c6 (by kernel_rfl) rfl (by simp [V.wf, A.wf, C.wf, V.i]) ⟨roE_f (flat_c _) (l := 0) rfl (by omega) rfl (.inr rfl), trivial⟩ rfl ?_ | refine CallK.val (R := [(0, some 8), (1, some 9)]) c7 (by kernel_rfl) rfl (by simp [V.wf, A.wf, C.wf, V.i]) ⟨roE_f (flat_c _) (l := 8) rfl (by omega) rfl (.inr rfl), roE_f (flat_c _) (l := 9) rfl (by omega) rfl (.inr rfl), trivial⟩ rfl rfl trivial ?_ | refine awake_k ?_ | refine bs_bt (Eq.refl true) ?_ | refine bs_bf (Eq.refl false) ?_ | refine br_bt (Eq.refl true) ?_ | refine br_bf (Eq.refl false) ?_ | refine CallK.m ?_ | refine Two.l ?_ | refine And.intro (And.intro rfl rfl) ?_)
  intro ρ; rfl
end
theorem others_any (N z : Int) (ps : List Cell) (ao : Option Addr) (c : Nat) (w : World) (h : CellsAt w ao c ps) (hz : -9223372036854775808 ≤ z ∧ z ≤ 9223372036854775807) (hF : Fct w.heap.size w) :
    Calls Tryd.prog 7 #[.agg #[.int .i64 N, .slice ao ps.length c], .int .i64 z] w fun e w' => e = .returned (.bool true) ∧ Below w.heap.size w w' := by
  by_cases hl : (ps.length : Int) > 60
  · exact isTrue_any (vs := [kX N ps, V.i z]) (others_long N z ps h.2.2 hl) (hp_k h hF) (by simp [V.wf, A.wf, C.wf]) rfl
  · cases hv : okK' N ps with
    | false => exact isTrue_any (vs := [kX N ps, V.i z]) (others_no N z ps hl hv) (hp_k h hF) (by simp [V.wf, A.wf, C.wf]) rfl
    | true =>
      obtain ⟨n, qs, rfl, rfl, hk⟩ := knd_of hv
      by_cases hp : 0 ≤ z ∧ z ≤ ((castP qs).length : Int) - 1
      · exact isTrue_any (vs := [kX n (castP qs), V.i z]) (others_yes n z qs hk z.toNat (by omega) (by rw [castP_len] at hp; omega)) (hp_k h hF) (by simp [V.wf, A.wf, C.wf]) rfl
      · exact isTrue_any (vs := [kX n (castP qs), V.i z]) (others_err n z qs hk (by unfold pairE; rw [hv, if_pos rfl, if_neg hp])) (hp_k h hF) (by simp [V.wf, A.wf, C.wf]) rfl
end Go.Proofs.YtijnimgmpocmaaaDoor

/- Waste: what the listed variables give; a start that meets the condition. -/
namespace Go.Proofs.YtijnimgmpocmaaaDoor
open Go.RowKit
set_option linter.unusedVariables false
set_option linter.unusedSimpArgs false
open Go.ChangeShapes Go.WideShapes Go.ChangeAt Go.RowKit Go.Deep Go.Joins
abbrev laidV : List (String × DataW Unit) := [("math/bits.deBruijn32tab", Rows.laid_math_bits_deBruijn32tab), ("math/bits.deBruijn64tab", Rows.laid_math_bits_deBruijn64tab)]
theorem gTab : Tryd.prog.globalNamed "math/bits.deBruijn64tab" = some 1 := by kernel_rfl
theorem tTab : (Tryd.prog.globals[1]?).map (·.type) = some 120 := by kernel_rfl
theorem tabDat : (Rows.laid_math_bits_deBruijn64tab (H := Unit)) = .agg (Lib.deBruijn64tab.map fun n : Nat => .lit (.int .u8 n)) := rfl
set_option maxRecDepth 10000 in
theorem fct_of_laid {W : World} (h : laidMetH Tryd.prog laidV W) : Fct W.heap.size W := by
  have h' : laidMet Tryd.prog laidV W := h
  obtain ⟨ps, ⟨_, _, _, _, _, _, _, _, _, _, ⟨g, t, cs, fuel, p, q, hg, ht, hv, hd, _⟩, _⟩, _⟩ := h'
  obtain rfl := Option.some.inj (gTab.symm.trans hg)
  obtain rfl := Option.some.inj (tTab.symm.trans ht)
  rw [tabDat] at hd
  obtain ⟨xs, m, _, hx, hl, hxl, hgo⟩ := DataW.trod_array Tryd.underlying120 hd
  have hc1 : Tryd.prog.cellsOf 5 = 1 := by kernel_rfl
  have hc64 : Tryd.prog.cellsOf 120 = 64 := by kernel_rfl
  rw [hc64] at hl
  have hcell : ∀ j, j < Lib.deBruijn64tab.length → W.cell? ⟨1, j, none⟩ = some (.int .u8 (Lib.deBruijn64tab.getD j 0)) := by
    intro j hj
    have hj64 : j < 64 := hj
    have h3 := hgo j hj64
    rw [hc1, Nat.mul_one] at h3
    obtain ⟨y, hy⟩ : ∃ y, xs[j]? = some y := ⟨xs[j]'(by omega), List.getElem?_eq_getElem _⟩
    rw [hy] at h3
    obtain ⟨u, hu⟩ : ∃ u, cs.toList[j]? = some u := ⟨cs.toList[j]'(by omega), List.getElem?_eq_getElem _⟩
    have e1 : (cs.toList.drop j).take 1 = [u] := by
      rw [List.take_one, List.head?_drop, hu]; rfl
    rw [e1] at h3
    obtain ⟨z, e0, e2, _⟩ := DataW.trod_int Tryd.underlying5 h3
    have e0 : u = .int .u8 z := by simpa using e0
    have hxm : xs.map (·.1) = Lib.deBruijn64tab.map fun n : Nat => (DataW.lit (.int .u8 n) : DataW Unit) := by
      have := congrArg Prod.fst hx
      simp only [DataW.agg.injEq] at this
      exact this.symm
    have hym : (xs.map (·.1))[j]? = some y.1 := by rw [List.getElem?_map, hy]; rfl
    rw [hxm, List.getElem?_map] at hym
    have hz : (DataW.lit (.int .u8 (Lib.deBruijn64tab.getD j 0 : Nat)) : DataW Unit) = y.1 := by
      rw [List.getElem?_eq_getElem hj] at hym
      simp only [Option.map_some, Option.some.injEq] at hym
      rw [← hym, List.getD_eq_getElem?_getD, List.getElem?_eq_getElem hj]; rfl
    have hzz : (Lib.deBruijn64tab.getD j 0 : Int) = z := by
      rw [e2] at hz
      simpa using hz
    have hw := World.var?_cell gTab hv j
    rw [hw]
    have : cs[j]? = some u := by rw [← Array.getElem?_toList]; exact hu
    rw [this, e0, hzz]
  have h0 := hcell 0 (by decide)
  have hlt := World.block_lt_of_cell? _ _ h0
  refine ⟨hlt, ?_⟩
  have h1 := h0
  unfold World.cell? at h1
  cases hb : W.heap[1]? with
  | none => simp [hb] at h1
  | some o =>
    cases o with
    | cells c t fr => exact ⟨c, t, fr, rfl, hcell⟩
    | _ => simp [hb] at h1
theorem door_met (os : Os) (args : Array Value) : laidMetH Tryd.prog laidV ((World.doorLaid Tryd.prog 19 os).forCall (fun _ _ => 0) ⟨#[], args, []⟩).memory :=
  laidMetH_of_parts3 (fuel := 8) (laidMet_of_run' 8 (by kernel_rfl) (by kernel_rfl)) (by kernel_rfl) (by kernel_rfl)
end Go.Proofs.YtijnimgmpocmaaaDoor

