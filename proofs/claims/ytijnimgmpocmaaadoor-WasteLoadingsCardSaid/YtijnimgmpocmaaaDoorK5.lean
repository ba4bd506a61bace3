/- Texts of the proof, part 5: W6, U2, W7, W8, U3, U4, U5, R1, R2, X1, F1, F2, F3, F4, U6, V1. -/
import Derived.Test.YtijnimgmpocmaaaDoorK4
import Derived.WalkKit
import Derived.Below
import Derived.Lib.TrailingZeros
import Derived.Laws.OwnMore
import Derived.Maps.AppendAt
import Derived.Laws.IdiomCopy
import Derived.Laws.CopyRow
import Derived.IntWalk
import Derived.StillTail
import Derived.Scope
import Derived.ChangeKeysEq
import Derived.Laws.Small
import Derived.OrdersIn
import Derived.TacticsIn
import Derived.OwnWalkIn
import Derived.RangeFuncNested
import Derived.RangeFuncLeaves
import Derived.RangeFuncRecord
import Derived.Maps.Keyed
import Derived.Maps.RangeRun
import Derived.DeepKeys4
import Derived.Test.YtijnimgmpocmaaaDoorRows
import Derived.KernelRfl
import Derived.Shelf.Spec.TrailingZeros
/- Waste: a polynomial's value. -/
namespace Go.Proofs.YtijnimgmpocmaaaDoor
open Go.RowKit
set_option linter.unusedVariables false
set_option linter.unusedSimpArgs false
theorem mul_bd {u x A B : Int} (hu : -A ≤ u ∧ u ≤ A) (hx : -B ≤ x ∧ x ≤ B) (hA : 0 ≤ A) (hB : 0 ≤ B) : -(A * B) ≤ u * x ∧ u * x ≤ A * B := by
  rcases Int.le_total 0 x with h | h
  · have a1 : u * x ≤ A * x := Int.mul_le_mul_of_nonneg_right hu.2 h
    have a2 : A * x ≤ A * B := Int.mul_le_mul_of_nonneg_left hx.2 hA
    have a3 : (-A) * x ≤ u * x := Int.mul_le_mul_of_nonneg_right hu.1 h
    rw [Int.neg_mul] at a3
    omega
  · have a1 : u * (-x) ≤ A * (-x) := Int.mul_le_mul_of_nonneg_right hu.2 (by omega)
    have a2 : A * (-x) ≤ A * B := Int.mul_le_mul_of_nonneg_left (by omega) hA
    have a3 : (-A) * (-x) ≤ u * (-x) := Int.mul_le_mul_of_nonneg_right hu.1 (by omega)
    rw [Int.neg_mul] at a3
    rw [Int.mul_neg] at a1
    rw [Int.mul_neg u x] at a3
    omega
theorem back_spec (lc n nx : Nat) (L : List E) : SpecM Tryd.prog 93 [V.c (.sl lc n)] L nx (fun v L' nx' => v = V.c (.fn 109 [(nx, 0)]) ∧ L' = ⟨nx, .own 67, [.sl lc n]⟩ :: L ∧ nx' = nx + 1) := by
  refine SpecM.of tok Tryd.func93 rfl rfl rfl fun n0 cx => vc_ok tok ?_
  repeat ((conv => whnf); first | (refine And.intro (by first | omega | exact Nat.le_of_ble_eq_true rfl | (dsimp only [inK]; omega) | (simp only [mulS_eq]; omega) | (simp only [mulS_eq, setL_length]; omega) | (simp only [setL_length]; omega) | (simp only [setL_length, List.length_map]; omega) | (exact ⟨by omega, by omega, by first | exact Nat.le_of_ble_eq_true rfl | (dsimp only; omega) | (simp only [setL_length]; omega) | (simp only [setL_length, List.length_map]; omega)⟩) | (exact ⟨by omega, by first | rfl | omega, by omega, Nat.le_of_ble_eq_true rfl, Nat.le_of_ble_eq_true rfl⟩) | (exact ⟨rfl, rfl, rfl, Nat.le_of_ble_eq_true rfl, by first | rfl | omega | exact Nat.le_of_ble_eq_true rfl | (dsimp only; omega) | (simp; done) | (simp; omega), by first | rfl | omega | exact Nat.le_of_ble_eq_true rfl | (dsimp only; omega) | (simp; done) | (simp; omega), by omega, Nat.le_of_ble_eq_true rfl⟩) | exact Eq.refl true) ?_) | refine Exists.intro _ (And.intro rfl ?_) | refine And.intro (And.intro rfl (chk_rowI _ _ _ _)) ?_ | refine br_t (by omega) ?_ | refine br_f (by omega) ?_ | refine bs_t (by omega) ?_ | refine bs_f (by omega) ?_ | refine fun (K' : K3) hK' => ?_ | (refine hK' _ _ _ ?_; clear hK' K') | refine draw_auto tok mixed (by kernel_rfl) ?_ | refine bs_bt (Eq.refl true) ?_ | refine bs_bf (Eq.refl false) ?_ | refine br_bt (Eq.refl true) ?_ | refine br_bf (Eq.refl false) ?_ | refine CallK.m ?_ | refine Two.l ?_ | refine And.intro (And.intro rfl rfl) ?_)
  exact ⟨rfl, rfl, rfl⟩
/-- Values small enough all the way. -/
structure HornB (f : Nat → Int) (x : Int) (N : Nat) : Prop where
  hx : -20 ≤ x ∧ x ≤ 20
  hf : ∀ m, m < N → -1000000000 ≤ f m ∧ f m ≤ 1000000000
  hh : ∀ m, m ≤ N → -100000000000000000 ≤ horn f x m (N - m) ∧ horn f x m (N - m) ≤ 100000000000000000
set_option maxRecDepth 10000 in
set_option maxHeartbeats 4000000 in
theorem at_spec (f : Nat → Int) (x : Int) (N : Nat) (hN : N ≤ 100) (hB : HornB f x N) : Spec Tryd.prog 62 [V.c (.sl 0 N), V.i x] [⟨0, .ro 0, (fnL f N).map C.i⟩] 1 (Is (V.i (horn f x 0 N))) := by
  have hlm : ((fnL f N).map C.i).length = N := by rw [List.length_map, fnL_len]
  obtain ⟨hx, hf, hh⟩ := hB
  refine Spec.of tok Tryd.func62 rfl rfl rfl fun n0 cx => vc_ok tok ?_
  repeat ((conv => whnf); first | (refine And.intro (by first | omega | exact Nat.le_of_ble_eq_true rfl | (dsimp only [inK]; omega) | (simp only [mulS_eq]; omega) | (simp only [mulS_eq, setL_length]; omega) | (simp only [setL_length]; omega) | (simp only [setL_length, List.length_map]; omega) | (exact ⟨by omega, by omega, by first | exact Nat.le_of_ble_eq_true rfl | (dsimp only; omega) | (simp only [setL_length]; omega) | (simp only [setL_length, List.length_map]; omega)⟩) | (exact ⟨by omega, by first | rfl | omega, by omega, Nat.le_of_ble_eq_true rfl, Nat.le_of_ble_eq_true rfl⟩) | (exact ⟨rfl, rfl, rfl, Nat.le_of_ble_eq_true rfl, by first | rfl | omega | exact Nat.le_of_ble_eq_true rfl | (dsimp only; omega) | (simp; done) | (simp; omega), by first | rfl | omega | exact Nat.le_of_ble_eq_true rfl | (dsimp only; omega) | (simp; done) | (simp; omega), by omega, Nat.le_of_ble_eq_true rfl⟩) | exact Eq.refl true) ?_) | refine Exists.intro _ (And.intro rfl ?_) | refine And.intro (And.intro rfl (chk_rowI _ _ _ _)) ?_ | refine br_t (by omega) ?_ | refine br_f (by omega) ?_ | refine bs_t (by omega) ?_ | refine bs_f (by omega) ?_ | refine fun (K' : K3) hK' => ?_ | (refine hK' _ _ _ ?_; clear hK' K') | refine draw_auto tok mixed (by kernel_rfl) ?_ | refine CallK.fresh (by kernel_rfl) (back_spec _ _ _ _) rfl ?_ | refine bs_bt (Eq.refl true) ?_ | refine bs_bf (Eq.refl false) ?_ | refine br_bt (Eq.refl true) ?_ | refine br_bf (Eq.refl false) ?_ | refine CallK.m ?_ | refine Two.l ?_ | refine And.intro (And.intro rfl rfl) ?_)
  refine Tri.opq fun K' hK' => ?_
  refine Tri.rangeFunc tok (by exact rfl) (by kernel_rfl) (by exact rfl) (by exact rfl) (by exact rfl) (by exact rfl) (by exact rfl) (by exact rfl) ?_
  intro y cxi oo ob od hy hY
  refine vc_ok tok ?_
  repeat ((conv => whnf); first | (refine And.intro (by first | omega | exact Nat.le_of_ble_eq_true rfl | (dsimp only [inK]; omega) | (simp only [mulS_eq]; omega) | (simp only [mulS_eq, setL_length]; omega) | (simp only [setL_length]; omega) | (simp only [setL_length, List.length_map]; omega) | (exact ⟨by omega, by omega, by first | exact Nat.le_of_ble_eq_true rfl | (dsimp only; omega) | (simp only [setL_length]; omega) | (simp only [setL_length, List.length_map]; omega)⟩) | (exact ⟨by omega, by first | rfl | omega, by omega, Nat.le_of_ble_eq_true rfl, Nat.le_of_ble_eq_true rfl⟩) | (exact ⟨rfl, rfl, rfl, Nat.le_of_ble_eq_true rfl, by first | rfl | omega | exact Nat.le_of_ble_eq_true rfl | (dsimp only; omega) | (simp; done) | (simp; omega), by first | rfl | omega | exact Nat.le_of_ble_eq_true rfl | (dsimp only; omega) | (simp; done) | (simp; omega), by omega, Nat.le_of_ble_eq_true rfl⟩) | exact Eq.refl true) ?_) | refine Exists.intro _ (And.intro rfl ?_) | refine And.intro (And.intro rfl (chk_rowI _ _ _ _)) ?_ | refine br_t (by omega) ?_ | refine br_f (by omega) ?_ | refine bs_t (by omega) ?_ | refine bs_f (by omega) ?_ | refine fun (K' : K3) hK' => ?_ | (refine hK' _ _ _ ?_; clear hK' K') | refine draw_auto tok mixed (by kernel_rfl) ?_ | refine bs_bt (Eq.refl true) ?_ | refine bs_bf (Eq.refl false) ?_ | refine br_bt (Eq.refl true) ?_ | refine br_bf (Eq.refl false) ?_ | refine CallK.m ?_ | refine Two.l ?_ | refine And.intro (And.intro rfl rfl) ?_)
  refine Tri.loop (γ := Nat) (fun m => m ≤ N) (fun m => [(0, V.c (.v y)), (1, V.c (.ptr 3 0)), (3, V.i ((m : Int) - 1))])
    (fun m => [⟨4, .obj oo, []⟩, ⟨3, .own 67, [.sl 0 N]⟩, ⟨2, .own 3, [C.i (horn f x m (N - m))]⟩, ⟨1, .own 3, [C.i x]⟩, ⟨0, .ro 0, (fnL f N).map C.i⟩]) 5 (fun m => m) N (R0 := []) ?_ ?_ ?_
  · exact Nat.le_refl _
  · skip
    refine ⟨?_, ?_, rfl, rfl, by first | exact Nat.le_of_ble_eq_true rfl | exact Nat.le_refl _ | omega⟩
    · repeat (first | exact trivial | (refine And.intro (covS_syn (by rfl) rfl (by first | exact trivial | exact Nat.le_of_ble_eq_true rfl | exact hy | (first | ((show ∀ p ∈ (_ : List (Nat × Nat)), p.1 < _); decide) | exact (fun p hp => nomatch hp)) | (show (_ : Nat) < _; omega))) ?_) | refine And.intro (covS_bool rfl rfl (by rfl)) ?_)
    · repeat (first | exact trivial | (refine And.intro (covE_id (Nat.le_of_ble_eq_true rfl) (by first | exact wf_ints _ _ | exact wf_bools _ _ | first | exact wf_us _ _ | (simp [C.wf]; done) | simp [C.wf]) rfl (by first | rfl | ((rw [Nat.sub_self]; rfl)))) ?_))
  · intro m hm
    refine vc_ok tok ?_
    cases m with
    | zero =>
      repeat ((conv => whnf); first | (refine And.intro (by first | omega | exact Nat.le_of_ble_eq_true rfl | (dsimp only [inK]; omega) | (simp only [mulS_eq]; omega) | (simp only [mulS_eq, setL_length]; omega) | (simp only [setL_length]; omega) | (simp only [setL_length, List.length_map]; omega) | (exact ⟨by omega, by omega, by first | exact Nat.le_of_ble_eq_true rfl | (dsimp only; omega) | (simp only [setL_length]; omega) | (simp only [setL_length, List.length_map]; omega)⟩) | (exact ⟨by omega, by first | rfl | omega, by omega, Nat.le_of_ble_eq_true rfl, Nat.le_of_ble_eq_true rfl⟩) | (exact ⟨rfl, rfl, rfl, Nat.le_of_ble_eq_true rfl, by first | rfl | omega | exact Nat.le_of_ble_eq_true rfl | (dsimp only; omega) | (simp; done) | (simp; omega), by first | rfl | omega | exact Nat.le_of_ble_eq_true rfl | (dsimp only; omega) | (simp; done) | (simp; omega), by omega, Nat.le_of_ble_eq_true rfl⟩) | exact Eq.refl true) ?_) | refine Exists.intro _ (And.intro rfl ?_) | refine And.intro (And.intro rfl (chk_rowI _ _ _ _)) ?_ | refine br_t (by omega) ?_ | refine br_f (by omega) ?_ | refine bs_t (by omega) ?_ | refine bs_f (by omega) ?_ | refine fun (K' : K3) hK' => ?_ | (refine hK' _ _ _ ?_; clear hK' K') | refine draw_auto tok mixed (by kernel_rfl) ?_ | refine Or.inl ?_ | refine And.intro (Eq.refl oo) ?_ | refine bs_bt (Eq.refl true) ?_ | refine bs_bf (Eq.refl false) ?_ | refine br_bt (Eq.refl true) ?_ | refine br_bf (Eq.refl false) ?_ | refine CallK.m ?_ | refine Two.l ?_ | refine And.intro (And.intro rfl rfl) ?_)
      refine hK' _ _ _ _ ?_
      repeat ((conv => whnf); first | (refine And.intro (by first | omega | exact Nat.le_of_ble_eq_true rfl | (dsimp only [inK]; omega) | (simp only [mulS_eq]; omega) | (simp only [mulS_eq, setL_length]; omega) | (simp only [setL_length]; omega) | (simp only [setL_length, List.length_map]; omega) | (exact ⟨by omega, by omega, by first | exact Nat.le_of_ble_eq_true rfl | (dsimp only; omega) | (simp only [setL_length]; omega) | (simp only [setL_length, List.length_map]; omega)⟩) | (exact ⟨by omega, by first | rfl | omega, by omega, Nat.le_of_ble_eq_true rfl, Nat.le_of_ble_eq_true rfl⟩) | (exact ⟨rfl, rfl, rfl, Nat.le_of_ble_eq_true rfl, by first | rfl | omega | exact Nat.le_of_ble_eq_true rfl | (dsimp only; omega) | (simp; done) | (simp; omega), by first | rfl | omega | exact Nat.le_of_ble_eq_true rfl | (dsimp only; omega) | (simp; done) | (simp; omega), by omega, Nat.le_of_ble_eq_true rfl⟩) | exact Eq.refl true) ?_) | refine Exists.intro _ (And.intro rfl ?_) | refine And.intro (And.intro rfl (chk_rowI _ _ _ _)) ?_ | refine br_t (by omega) ?_ | refine br_f (by omega) ?_ | refine bs_t (by omega) ?_ | refine bs_f (by omega) ?_ | refine fun (K' : K3) hK' => ?_ | (refine hK' _ _ _ ?_; clear hK' K') | refine draw_auto tok mixed (by kernel_rfl) ?_ | refine bs_bt (Eq.refl true) ?_ | refine bs_bf (Eq.refl false) ?_ | refine br_bt (Eq.refl true) ?_ | refine br_bf (Eq.refl false) ?_ | refine CallK.m ?_ | refine Two.l ?_ | refine And.intro (And.intro rfl rfl) ?_)
      intro ρ; rfl
    | succ k =>
      have hld : ((fnL f N).map C.i)[mulS (((k + 1 : Nat) : Int) - 1).toNat 1]? = some (C.i (f k)) := by
        rw [intLz (k := k) (by omega) (by rw [fnL_len]; omega), fnL_get (by omega)]
      have hst : horn f x k (N - k) = horn f x (k + 1) (N - (k + 1)) * x + f k := by
        rw [show N - k = (N - (k + 1)) + 1 by omega]; rfl
      have h1 := hh (k + 1) hm
      have h2 := hh k (by omega)
      have h3 := mul_bd (A := 100000000000000000) (B := 20) h1 hx (by omega) (by omega)
      have h4 := hf k (by omega)
      rw [hst] at h2
      have hk0 : ((k + 1 : Nat) : Int) - 1 = (k : Int) := by omega
      obtain ⟨u, hu⟩ : ∃ u, u = horn f x (k + 1) (N - (k + 1)) := ⟨_, rfl⟩
      rw [← hu] at hst h1 h2 h3 ⊢
      obtain ⟨c, hc⟩ : ∃ c, c = f k := ⟨_, rfl⟩
      rw [← hc] at hst hld h2 h4
      repeat ((conv => whnf); first | (refine And.intro (by first | omega | exact Nat.le_of_ble_eq_true rfl | (dsimp only [inK]; omega) | (simp only [mulS_eq]; omega) | (simp only [mulS_eq, setL_length]; omega) | (simp only [setL_length]; omega) | (simp only [setL_length, List.length_map]; omega) | (exact ⟨by omega, by omega, by first | exact Nat.le_of_ble_eq_true rfl | (dsimp only; omega) | (simp only [setL_length]; omega) | (simp only [setL_length, List.length_map]; omega)⟩) | (exact ⟨by omega, by first | rfl | omega, by omega, Nat.le_of_ble_eq_true rfl, Nat.le_of_ble_eq_true rfl⟩) | (exact ⟨rfl, rfl, rfl, Nat.le_of_ble_eq_true rfl, by first | rfl | omega | exact Nat.le_of_ble_eq_true rfl | (dsimp only; omega) | (simp; done) | (simp; omega), by first | rfl | omega | exact Nat.le_of_ble_eq_true rfl | (dsimp only; omega) | (simp; done) | (simp; omega), by omega, Nat.le_of_ble_eq_true rfl⟩) | exact Eq.refl true) ?_) | with_reducible refine ld (hld) ?_ | refine Exists.intro _ (And.intro rfl ?_) | refine And.intro (And.intro rfl (chk_rowI _ _ _ _)) ?_ | refine br_t (by omega) ?_ | refine br_f (by omega) ?_ | refine bs_t (by omega) ?_ | refine bs_f (by omega) ?_ | refine fun (K' : K3) hK' => ?_ | (refine hK' _ _ _ ?_; clear hK' K') | refine draw_auto tok mixed (by kernel_rfl) ?_ | refine bs_bt (Eq.refl true) ?_ | refine bs_bf (Eq.refl false) ?_ | refine br_bt (Eq.refl true) ?_ | refine br_bf (Eq.refl false) ?_ | refine CallK.m ?_ | refine Two.l ?_ | refine And.intro (And.intro rfl rfl) ?_)
      refine hY _ _ _ _ (Nat.le_of_ble_eq_true rfl) rfl ⟨rfl, trivial⟩ ?_
      intro cxb hcx
      refine vc_ok tok ?_
      repeat ((conv => whnf); first | (refine And.intro (by first | omega | exact Nat.le_of_ble_eq_true rfl | (dsimp only [inK]; omega) | (simp only [mulS_eq]; omega) | (simp only [mulS_eq, setL_length]; omega) | (simp only [setL_length]; omega) | (simp only [setL_length, List.length_map]; omega) | (exact ⟨by omega, by omega, by first | exact Nat.le_of_ble_eq_true rfl | (dsimp only; omega) | (simp only [setL_length]; omega) | (simp only [setL_length, List.length_map]; omega)⟩) | (exact ⟨by omega, by first | rfl | omega, by omega, Nat.le_of_ble_eq_true rfl, Nat.le_of_ble_eq_true rfl⟩) | (exact ⟨rfl, rfl, rfl, Nat.le_of_ble_eq_true rfl, by first | rfl | omega | exact Nat.le_of_ble_eq_true rfl | (dsimp only; omega) | (simp; done) | (simp; omega), by first | rfl | omega | exact Nat.le_of_ble_eq_true rfl | (dsimp only; omega) | (simp; done) | (simp; omega), by omega, Nat.le_of_ble_eq_true rfl⟩) | exact Eq.refl true) ?_) | refine Exists.intro _ (And.intro rfl ?_) | refine And.intro (And.intro rfl (chk_rowI _ _ _ _)) ?_ | refine br_t (by omega) ?_ | refine br_f (by omega) ?_ | refine bs_t (by omega) ?_ | refine bs_f (by omega) ?_ | refine fun (K' : K3) hK' => ?_ | (refine hK' _ _ _ ?_; clear hK' K') | refine draw_auto tok mixed (by kernel_rfl) ?_ | refine And.intro (Eq.refl oo) ?_ | refine bs_bt (Eq.refl true) ?_ | refine bs_bf (Eq.refl false) ?_ | refine br_bt (Eq.refl true) ?_ | refine br_bf (Eq.refl false) ?_ | refine CallK.m ?_ | refine Two.l ?_ | refine And.intro (And.intro rfl rfl) ?_)
      refine vc_ok tok ?_
      repeat ((conv => whnf); first | (refine And.intro (by first | omega | exact Nat.le_of_ble_eq_true rfl | (dsimp only [inK]; omega) | (simp only [mulS_eq]; omega) | (simp only [mulS_eq, setL_length]; omega) | (simp only [setL_length]; omega) | (simp only [setL_length, List.length_map]; omega) | (exact ⟨by omega, by omega, by first | exact Nat.le_of_ble_eq_true rfl | (dsimp only; omega) | (simp only [setL_length]; omega) | (simp only [setL_length, List.length_map]; omega)⟩) | (exact ⟨by omega, by first | rfl | omega, by omega, Nat.le_of_ble_eq_true rfl, Nat.le_of_ble_eq_true rfl⟩) | (exact ⟨rfl, rfl, rfl, Nat.le_of_ble_eq_true rfl, by first | rfl | omega | exact Nat.le_of_ble_eq_true rfl | (dsimp only; omega) | (simp; done) | (simp; omega), by first | rfl | omega | exact Nat.le_of_ble_eq_true rfl | (dsimp only; omega) | (simp; done) | (simp; omega), by omega, Nat.le_of_ble_eq_true rfl⟩) | exact Eq.refl true) ?_) | refine Exists.intro _ (And.intro rfl ?_) | refine And.intro (And.intro rfl (chk_rowI _ _ _ _)) ?_ | refine br_t (by omega) ?_ | refine br_f (by omega) ?_ | refine bs_t (by omega) ?_ | refine bs_f (by omega) ?_ | refine fun (K' : K3) hK' => ?_ | (refine hK' _ _ _ ?_; clear hK' K') | refine draw_auto tok mixed (by kernel_rfl) ?_ | refine And.intro (Eq.refl ob) ?_ | refine bs_bt (Eq.refl true) ?_ | refine bs_bf (Eq.refl false) ?_ | refine br_bt (Eq.refl true) ?_ | refine br_bf (Eq.refl false) ?_ | refine CallK.m ?_ | refine Two.l ?_ | refine And.intro (And.intro rfl rfl) ?_)
      refine ⟨k, [], by omega, Nat.lt_succ_self k, ?_⟩
      refine ⟨?_, ?_, rfl, rfl, by first | exact Nat.le_of_ble_eq_true rfl | exact Nat.le_refl _ | omega⟩
      · repeat (first | exact trivial | (refine And.intro (covS_syn (by first | rfl | (refine congrArg some (congrArg V.i ?_); omega)) rfl (by first | exact trivial | exact Nat.le_of_ble_eq_true rfl | exact hy | (first | ((show ∀ p ∈ (_ : List (Nat × Nat)), p.1 < _); decide) | exact (fun p hp => nomatch hp)) | (show (_ : Nat) < _; omega))) ?_) | refine And.intro (covS_bool rfl rfl (by rfl)) ?_)
      · repeat (first | exact trivial | (refine And.intro (covE_id (Nat.le_of_ble_eq_true rfl) (by first | exact wf_ints _ _ | exact wf_bools _ _ | first | exact wf_us _ _ | (simp [C.wf]; done) | simp [C.wf]) rfl (by first | rfl | ((rw [hst]; rfl)))) ?_))
end Go.Proofs.YtijnimgmpocmaaaDoor

/- Waste: everything, size, loadings. -/
namespace Go.Proofs.YtijnimgmpocmaaaDoor
open Go.RowKit
set_option linter.unusedVariables false
set_option linter.unusedSimpArgs false
theorem every_spec (n m : Nat) (hn : n ≤ 8) : Spec Tryd.prog 94 [V.c (.sl 0 n)] [] 1 (Is (V.u (2 ^ n - 1))) := by
  have h1 := pow_8 hn
  have h0 : 0 < 2 ^ n := Nat.two_pow_pos n
  have h2 : ((2 : Int) ^ n) = ((2 ^ n : Nat) : Int) := by simp
  have h3 : (1 : Int) * 2 ^ ((n : Nat) : Int).toNat = ((2 ^ n : Nat) : Int) := by rw [Int.toNat_natCast, h2]; simp
  clear h2
  obtain ⟨k, hm⟩ : ∃ k, k = 2 ^ n := ⟨_, rfl⟩
  rw [← hm] at h1 h0 h3 ⊢
  clear hm
  refine Spec.of tok Tryd.func94 rfl rfl rfl fun n0 cx => vc_ok tok ?_
  repeat ((conv => whnf); first | (refine And.intro (by first | omega | exact Nat.le_of_ble_eq_true rfl | (dsimp only [inK]; omega) | (simp only [mulS_eq]; omega) | (simp only [mulS_eq, setL_length]; omega) | (simp only [setL_length]; omega) | (simp only [setL_length, List.length_map]; omega) | (exact ⟨by omega, by omega, by first | exact Nat.le_of_ble_eq_true rfl | (dsimp only; omega) | (simp only [setL_length]; omega) | (simp only [setL_length, List.length_map]; omega)⟩) | (exact ⟨by omega, by first | rfl | omega, by omega, Nat.le_of_ble_eq_true rfl, Nat.le_of_ble_eq_true rfl⟩) | (exact ⟨rfl, rfl, rfl, Nat.le_of_ble_eq_true rfl, by first | rfl | omega | exact Nat.le_of_ble_eq_true rfl | (dsimp only; omega) | (simp; done) | (simp; omega), by first | rfl | omega | exact Nat.le_of_ble_eq_true rfl | (dsimp only; omega) | (simp; done) | (simp; omega), by omega, Nat.le_of_ble_eq_true rfl⟩) | exact Eq.refl true) ?_) | refine Exists.intro _ (And.intro rfl ?_) | refine And.intro (And.intro rfl (chk_rowI _ _ _ _)) ?_ | refine br_t (by omega) ?_ | refine br_f (by omega) ?_ | refine bs_t (by omega) ?_ | refine bs_f (by omega) ?_ | refine fun (K' : K3) hK' => ?_ | (refine hK' _ _ _ ?_; clear hK' K') | refine draw_auto tok mixed (by kernel_rfl) ?_ | (refine And.intro ⟨by omega, by omega, by rw [h3]; dsimp only [inK]; omega⟩ ?_) | (refine And.intro (by rw [h3]; dsimp only [inK]; omega) ?_) | refine bs_bt (Eq.refl true) ?_ | refine bs_bf (Eq.refl false) ?_ | refine br_bt (Eq.refl true) ?_ | refine br_bf (Eq.refl false) ?_ | refine CallK.m ?_ | refine Two.l ?_ | refine And.intro (And.intro rfl rfl) ?_)
  intro ρ
  show Value.int _ _ = Value.int _ _
  rw [h3, show ((k - 1 : Nat) : Int) = (k : Int) - 1 by omega]
/-- How many bits, as the library works it out. -/
def oc1 (x : Int) : Int := bitI .and .u64 (shrI .u64 x 1) 6148914691236517205 + bitI .and .u64 x 6148914691236517205
def oc2 (x : Int) : Int := bitI .and .u64 (shrI .u64 x 2) 3689348814741910323 + bitI .and .u64 x 3689348814741910323
def oc3 (x : Int) : Int := bitI .and .u64 (shrI .u64 x 4 + x) 1085102592571150095
def oc4 (x : Int) : Int := x + shrI .u64 x 8
def oc5 (x : Int) : Int := x + shrI .u64 x 16
def oc6 (x : Int) : Int := x + shrI .u64 x 32
theorem oc_fact : ∀ s, s < 256 → (0 ≤ oc1 (s : Nat) ∧ oc1 (s : Nat) ≤ 1000) ∧ (0 ≤ oc2 (oc1 (s : Nat)) ∧ oc2 (oc1 (s : Nat)) ≤ 1000) ∧ (0 ≤ shrI .u64 (oc2 (oc1 (s : Nat))) 4 + oc2 (oc1 (s : Nat)) ∧ shrI .u64 (oc2 (oc1 (s : Nat))) 4 + oc2 (oc1 (s : Nat)) ≤ 1000) ∧
    (0 ≤ oc4 (oc3 (oc2 (oc1 (s : Nat)))) ∧ oc4 (oc3 (oc2 (oc1 (s : Nat)))) ≤ 1000) ∧ (0 ≤ oc5 (oc4 (oc3 (oc2 (oc1 (s : Nat))))) ∧ oc5 (oc4 (oc3 (oc2 (oc1 (s : Nat))))) ≤ 1000) ∧ (0 ≤ oc6 (oc5 (oc4 (oc3 (oc2 (oc1 (s : Nat)))))) ∧ oc6 (oc5 (oc4 (oc3 (oc2 (oc1 (s : Nat)))))) ≤ 1000) ∧
    bitI .and .i64 (oc6 (oc5 (oc4 (oc3 (oc2 (oc1 (s : Nat))))))) 127 = ((bitsL s).length : Nat) := by decide +kernel
set_option maxRecDepth 10000 in
set_option maxHeartbeats 1000000 in
theorem ones64_spec (s : Nat) (hs : s < 256) : Spec Tryd.prog 111 [V.u s] [] 0 (Is (V.i (bitsL s).length)) := by
  obtain ⟨f1, f2, f3, f4, f5, f6, f7⟩ := oc_fact s hs
  have g1 : inK .u64 (oc1 (s : Nat)) := by dsimp only [inK]; omega
  have g2 : inK .u64 (oc2 (oc1 (s : Nat))) := by dsimp only [inK]; omega
  have g3 : inK .u64 (shrI .u64 (oc2 (oc1 (s : Nat))) 4 + oc2 (oc1 (s : Nat))) := by dsimp only [inK]; omega
  have g4 : inK .u64 (oc4 (oc3 (oc2 (oc1 (s : Nat))))) := by dsimp only [inK]; omega
  have g5 : inK .u64 (oc5 (oc4 (oc3 (oc2 (oc1 (s : Nat)))))) := by dsimp only [inK]; omega
  have g6 : inK .u64 (oc6 (oc5 (oc4 (oc3 (oc2 (oc1 (s : Nat))))))) := by dsimp only [inK]; omega
  have g7 : inK .i64 (oc6 (oc5 (oc4 (oc3 (oc2 (oc1 (s : Nat))))))) := by dsimp only [inK]; omega
  refine Spec.of tok Tryd.func111 rfl rfl rfl fun n0 cx => vc_ok tok ?_
  repeat ((conv => whnf); first | (refine And.intro (by first | omega | exact Nat.le_of_ble_eq_true rfl | (dsimp only [inK]; omega) | (simp only [mulS_eq]; omega) | (simp only [mulS_eq, setL_length]; omega) | (simp only [setL_length]; omega) | (simp only [setL_length, List.length_map]; omega) | (exact ⟨by omega, by omega, by first | exact Nat.le_of_ble_eq_true rfl | (dsimp only; omega) | (simp only [setL_length]; omega) | (simp only [setL_length, List.length_map]; omega)⟩) | (exact ⟨by omega, by first | rfl | omega, by omega, Nat.le_of_ble_eq_true rfl, Nat.le_of_ble_eq_true rfl⟩) | (exact ⟨rfl, rfl, rfl, Nat.le_of_ble_eq_true rfl, by first | rfl | omega | exact Nat.le_of_ble_eq_true rfl | (dsimp only; omega) | (simp; done) | (simp; omega), by first | rfl | omega | exact Nat.le_of_ble_eq_true rfl | (dsimp only; omega) | (simp; done) | (simp; omega), by omega, Nat.le_of_ble_eq_true rfl⟩) | exact Eq.refl true) ?_) | refine Exists.intro _ (And.intro rfl ?_) | refine And.intro (And.intro rfl (chk_rowI _ _ _ _)) ?_ | refine br_t (by omega) ?_ | refine br_f (by omega) ?_ | refine bs_t (by omega) ?_ | refine bs_f (by omega) ?_ | refine fun (K' : K3) hK' => ?_ | (refine hK' _ _ _ ?_; clear hK' K') | refine draw_auto tok mixed (by kernel_rfl) ?_ | refine And.intro g1 ?_ | refine And.intro g2 ?_ | refine And.intro g3 ?_ | refine And.intro g4 ?_ | refine And.intro g5 ?_ | refine And.intro g6 ?_ | refine And.intro g7 ?_ | refine bs_bt (Eq.refl true) ?_ | refine bs_bf (Eq.refl false) ?_ | refine br_bt (Eq.refl true) ?_ | refine br_bf (Eq.refl false) ?_ | refine CallK.m ?_ | refine Two.l ?_ | refine And.intro (And.intro rfl rfl) ?_)
  intro ρ
  show Value.int _ _ = Value.int _ _
  rw [← f7]; rfl
theorem ones_spec (s : Nat) (hs : s < 256) : Spec Tryd.prog 98 [V.u s] [] 0 (Is (V.i (bitsL s).length)) := by
  have h := ones64_spec s hs
  refine Spec.of tok Tryd.func98 rfl rfl rfl fun n0 cx => vc_ok tok ?_
  repeat ((conv => whnf); first | (refine And.intro (by first | omega | exact Nat.le_of_ble_eq_true rfl | (dsimp only [inK]; omega) | (simp only [mulS_eq]; omega) | (simp only [mulS_eq, setL_length]; omega) | (simp only [setL_length]; omega) | (simp only [setL_length, List.length_map]; omega) | (exact ⟨by omega, by omega, by first | exact Nat.le_of_ble_eq_true rfl | (dsimp only; omega) | (simp only [setL_length]; omega) | (simp only [setL_length, List.length_map]; omega)⟩) | (exact ⟨by omega, by first | rfl | omega, by omega, Nat.le_of_ble_eq_true rfl, Nat.le_of_ble_eq_true rfl⟩) | (exact ⟨rfl, rfl, rfl, Nat.le_of_ble_eq_true rfl, by first | rfl | omega | exact Nat.le_of_ble_eq_true rfl | (dsimp only; omega) | (simp; done) | (simp; omega), by first | rfl | omega | exact Nat.le_of_ble_eq_true rfl | (dsimp only; omega) | (simp; done) | (simp; omega), by omega, Nat.le_of_ble_eq_true rfl⟩) | exact Eq.refl true) ?_) | refine Exists.intro _ (And.intro rfl ?_) | refine And.intro (And.intro rfl (chk_rowI _ _ _ _)) ?_ | refine br_t (by omega) ?_ | refine br_f (by omega) ?_ | refine bs_t (by omega) ?_ | refine bs_f (by omega) ?_ | refine fun (K' : K3) hK' => ?_ | (refine hK' _ _ _ ?_; clear hK' K') | refine draw_auto tok mixed (by kernel_rfl) ?_ | refine CallK.val (R := []) h (by kernel_rfl) rfl (by simp [V.wf, A.wf, C.wf]) trivial rfl rfl trivial ?_ | refine bs_bt (Eq.refl true) ?_ | refine bs_bf (Eq.refl false) ?_ | refine br_bt (Eq.refl true) ?_ | refine br_bf (Eq.refl false) ?_ | refine CallK.m ?_ | refine Two.l ?_ | refine And.intro (And.intro rfl rfl) ?_)
  intro ρ; rfl
theorem size_spec (s : Nat) (hs : s < 256) : Spec Tryd.prog 72 [V.u s] [] 0 (Is (V.i (bitsL s).length)) := by
  have h := ones_spec s hs
  refine Spec.of tok Tryd.func72 rfl rfl rfl fun n0 cx => vc_ok tok ?_
  repeat ((conv => whnf); first | (refine And.intro (by first | omega | exact Nat.le_of_ble_eq_true rfl | (dsimp only [inK]; omega) | (simp only [mulS_eq]; omega) | (simp only [mulS_eq, setL_length]; omega) | (simp only [setL_length]; omega) | (simp only [setL_length, List.length_map]; omega) | (exact ⟨by omega, by omega, by first | exact Nat.le_of_ble_eq_true rfl | (dsimp only; omega) | (simp only [setL_length]; omega) | (simp only [setL_length, List.length_map]; omega)⟩) | (exact ⟨by omega, by first | rfl | omega, by omega, Nat.le_of_ble_eq_true rfl, Nat.le_of_ble_eq_true rfl⟩) | (exact ⟨rfl, rfl, rfl, Nat.le_of_ble_eq_true rfl, by first | rfl | omega | exact Nat.le_of_ble_eq_true rfl | (dsimp only; omega) | (simp; done) | (simp; omega), by first | rfl | omega | exact Nat.le_of_ble_eq_true rfl | (dsimp only; omega) | (simp; done) | (simp; omega), by omega, Nat.le_of_ble_eq_true rfl⟩) | exact Eq.refl true) ?_) | refine Exists.intro _ (And.intro rfl ?_) | refine And.intro (And.intro rfl (chk_rowI _ _ _ _)) ?_ | refine br_t (by omega) ?_ | refine br_f (by omega) ?_ | refine bs_t (by omega) ?_ | refine bs_f (by omega) ?_ | refine fun (K' : K3) hK' => ?_ | (refine hK' _ _ _ ?_; clear hK' K') | refine draw_auto tok mixed (by kernel_rfl) ?_ | refine CallK.val (R := []) h (by kernel_rfl) rfl (by simp [V.wf, A.wf, C.wf]) trivial rfl rfl trivial ?_ | refine bs_bt (Eq.refl true) ?_ | refine bs_bf (Eq.refl false) ?_ | refine br_bt (Eq.refl true) ?_ | refine br_bf (Eq.refl false) ?_ | refine CallK.m ?_ | refine Two.l ?_ | refine And.intro (And.intro rfl rfl) ?_)
  intro ρ; rfl
end Go.Proofs.YtijnimgmpocmaaaDoor

/- Waste: the polynomial of a table of kinds. -/
namespace Go.Proofs.YtijnimgmpocmaaaDoor
open Go.RowKit
set_option linter.unusedVariables false
set_option linter.unusedSimpArgs false
/-- The numbers so far: behind j groups, and i numbers of the next. -/
def plF (t : List Nat) (j d : Nat) : Int := sumN (fun k => srtW t k * fallC k d) j
def plG (t : List Nat) (j i d : Nat) : Int := plF t j d + if d < i then srtW t j * fallC j d else 0
theorem plG_zero (t : List Nat) (j d : Nat) : plG t j 0 d = plF t j d := by unfold plG; rw [if_neg (by omega)]; omega
theorem plG_end (t : List Nat) (j d : Nat) : plG t j (j + 1) d = plF t (j + 1) d := by
  unfold plG
  simp only [plF, sumN]
  congr 1
  by_cases h : d < j + 1
  · rw [if_pos h]
  · rw [if_neg h, fallC_high (by omega)]; simp
def polyP (t : List Nat) (d : Nat) : Int := plF t (t.length + 1) d
theorem mul_nn {u x A B : Int} (hu : 0 ≤ u ∧ u ≤ A) (hx : -B ≤ x ∧ x ≤ B) (hA : 0 ≤ A) (hB : 0 ≤ B) : -(A * B) ≤ u * x ∧ u * x ≤ A * B := mul_bd ⟨by omega, hu.2⟩ hx hA hB
theorem srt_mul (t : List Nat) (h : t.length ≤ 8) {j d : Nat} (hj : j ≤ t.length) (hd : d ≤ 9) : -2000000000 ≤ srtW t j * fallC j d ∧ srtW t j * fallC j d ≤ 2000000000 := by
  have h1 := srtW_bd t h j hj
  have h2 := fallC_bd j (by omega) d hd
  have := mul_nn (A := 100000) (B := 20000) h1 ⟨h2.1, h2.2.1⟩ (by omega) (by omega)
  omega
theorem plF_bd (t : List Nat) (h : t.length ≤ 8) {d : Nat} (hd : d ≤ 9) : ∀ j, j ≤ t.length + 1 → -((j : Int) * 2000000000) ≤ plF t j d ∧ plF t j d ≤ (j : Int) * 2000000000
  | 0, _ => by simp [plF, sumN]
  | j + 1, hj => by
    have h1 := plF_bd t h hd j (by omega)
    have h2 := srt_mul t h (j := j) (by omega) hd
    have e : plF t (j + 1) d = plF t j d + srtW t j * fallC j d := rfl
    rw [e]
    omega
set_option maxRecDepth 10000 in
set_option maxHeartbeats 4000000 in
theorem polynomial_spec (t : List Nat) (n : Nat) (htl : t.length = n) (hn : n ≤ 8) (ht : ∀ s ∈ t, s < 256) : Spec Tryd.prog 61 [V.c (.sl 0 n)] [⟨0, .ro 0, t.map C.u⟩] 1
    (fun v L' _ => ∃ l, v = V.c (.sl l (n + 1)) ∧ find L' l = some ⟨l, .vec 3 1, (fnL (polyP t) (n + 1)).map C.i⟩) := by
  have hsp := sorts_spec t n htl hn ht
  have hz : repC (n + 1) [C.int .i64 0] = (fnL (plF t 0) (n + 1)).map C.i := by rw [repI, fnL_zero]; rfl
  refine Spec.of tok Tryd.func61 rfl rfl rfl fun n0 cx => vc_ok tok ?_
  repeat ((conv => whnf); first | (refine And.intro (by first | omega | exact Nat.le_of_ble_eq_true rfl | (dsimp only [inK]; omega) | (simp only [mulS_eq]; omega) | (simp only [mulS_eq, setL_length]; omega) | (simp only [setL_length]; omega) | (simp only [setL_length, List.length_map]; omega) | (exact ⟨by omega, by omega, by first | exact Nat.le_of_ble_eq_true rfl | (dsimp only; omega) | (simp only [setL_length]; omega) | (simp only [setL_length, List.length_map]; omega)⟩) | (exact ⟨by omega, by first | rfl | omega, by omega, Nat.le_of_ble_eq_true rfl, Nat.le_of_ble_eq_true rfl⟩) | (exact ⟨rfl, rfl, rfl, Nat.le_of_ble_eq_true rfl, by first | rfl | omega | exact Nat.le_of_ble_eq_true rfl | (dsimp only; omega) | (simp; done) | (simp; omega), by first | rfl | omega | exact Nat.le_of_ble_eq_true rfl | (dsimp only; omega) | (simp; done) | (simp; omega), by omega, Nat.le_of_ble_eq_true rfl⟩) | exact Eq.refl true) ?_) | refine Exists.intro _ (And.intro rfl ?_) | refine And.intro (And.intro rfl (chk_rowI _ _ _ _)) ?_ | refine br_t (by omega) ?_ | refine br_f (by omega) ?_ | refine bs_t (by omega) ?_ | refine bs_f (by omega) ?_ | refine fun (K' : K3) hK' => ?_ | (refine hK' _ _ _ ?_; clear hK' K') | refine draw_auto tok mixed (by kernel_rfl) ?_ | refine CallK.rowF (R := []) (flat_i _) hsp (by kernel_rfl) rfl (by simp [V.wf, A.wf, C.wf]) ⟨roE_f (flat_u _) (l := 0) rfl (by omega) rfl (.inl rfl), trivial⟩ rfl ?_ | refine bs_bt (Eq.refl true) ?_ | refine bs_bf (Eq.refl false) ?_ | refine br_bt (Eq.refl true) ?_ | refine br_bf (Eq.refl false) ?_ | refine CallK.m ?_ | refine Two.l ?_ | refine And.intro (And.intro rfl rfl) ?_)
  refine Tri.loop (γ := Nat) (fun j => j ≤ n + 1) (fun j => [(2, V.c .nil), (3, V.c (.sl 1 (n + 1))), (4, V.c (.sl 2 (j + 1))), (15, V.c (.sl 3 (n + 1))), (16, V.i ((n + 1 : Nat) : Int)), (17, V.i (j : Nat))])
    (fun j => [⟨3, .vec 3 1, (fnL (srtW t) (n + 1)).map C.i⟩, ⟨2, .vec 3 1, (fnL (fallC j) (j + 1)).map C.i⟩, ⟨1, .vec 3 1, (fnL (plF t j) (n + 1)).map C.i⟩, ⟨0, .ro 0, t.map C.u⟩]) 4 (fun j => n + 1 - j) 0 (R0 := []) ?_ ?_ ?_
  · omega
  · skip
    refine ⟨?_, ?_, rfl, rfl, by first | exact Nat.le_of_ble_eq_true rfl | exact Nat.le_refl _ | omega⟩
    · repeat (first | exact trivial | (refine And.intro (covS_syn (by rfl) rfl (by first | exact trivial | exact Nat.le_of_ble_eq_true rfl | exact hy | (first | ((show ∀ p ∈ (_ : List (Nat × Nat)), p.1 < _); decide) | exact (fun p hp => nomatch hp)) | (show (_ : Nat) < _; omega))) ?_) | refine And.intro (covS_bool rfl rfl (by rfl)) ?_)
    · repeat (first | exact trivial | (refine And.intro (covE_id (Nat.le_of_ble_eq_true rfl) (by first | exact wf_ints _ _ | exact wf_bools _ _ | first | exact wf_us _ _ | (simp [C.wf]; done) | simp [C.wf]) rfl (by first | rfl | exact hz)) ?_))
  · intro j hj
    refine vc_ok tok ?_
    have hsl : ((fnL (srtW t) (n + 1)).map C.i).length = n + 1 := by rw [List.length_map, fnL_len]
    by_cases hlt : j < n + 1
    · have hld : ((fnL (srtW t) (n + 1)).map C.i)[mulS ((j : Nat) : Int).toNat 1]? = some (C.i (srtW t j)) := by
        rw [intLz rfl (by rw [fnL_len]; omega), fnL_get (by omega)]
      have hti := times_spec j (by omega)
      repeat ((conv => whnf); first | (refine And.intro (by first | omega | exact Nat.le_of_ble_eq_true rfl | (dsimp only [inK]; omega) | (simp only [mulS_eq]; omega) | (simp only [mulS_eq, setL_length]; omega) | (simp only [setL_length]; omega) | (simp only [setL_length, List.length_map]; omega) | (exact ⟨by omega, by omega, by first | exact Nat.le_of_ble_eq_true rfl | (dsimp only; omega) | (simp only [setL_length]; omega) | (simp only [setL_length, List.length_map]; omega)⟩) | (exact ⟨by omega, by first | rfl | omega, by omega, Nat.le_of_ble_eq_true rfl, Nat.le_of_ble_eq_true rfl⟩) | (exact ⟨rfl, rfl, rfl, Nat.le_of_ble_eq_true rfl, by first | rfl | omega | exact Nat.le_of_ble_eq_true rfl | (dsimp only; omega) | (simp; done) | (simp; omega), by first | rfl | omega | exact Nat.le_of_ble_eq_true rfl | (dsimp only; omega) | (simp; done) | (simp; omega), by omega, Nat.le_of_ble_eq_true rfl⟩) | exact Eq.refl true) ?_) | with_reducible refine ld (hld) ?_ | refine Exists.intro _ (And.intro rfl ?_) | refine And.intro (And.intro rfl (chk_rowI _ _ _ _)) ?_ | refine br_t (by omega) ?_ | refine br_f (by omega) ?_ | refine bs_t (by omega) ?_ | refine bs_f (by omega) ?_ | refine fun (K' : K3) hK' => ?_ | (refine hK' _ _ _ ?_; clear hK' K') | refine draw_auto tok mixed (by kernel_rfl) ?_ | refine bs_bt (Eq.refl true) ?_ | refine bs_bf (Eq.refl false) ?_ | refine br_bt (Eq.refl true) ?_ | refine br_bf (Eq.refl false) ?_ | refine CallK.m ?_ | refine Two.l ?_ | refine And.intro (And.intro rfl rfl) ?_)
      refine Tri.loop (γ := Nat) (fun i => i ≤ j + 1) (fun i => [(2, V.c .nil), (3, V.c (.sl 1 (n + 1))), (4, V.c (.sl 2 (j + 1))), (5, V.i (j : Nat)), (6, V.i (srtW t j)), (15, V.c (.sl 3 (n + 1))), (16, V.i ((n + 1 : Nat) : Int)), (17, V.i (j : Nat)), (22, V.c (.sl 2 (j + 1))), (23, V.i ((j + 1 : Nat) : Int)), (24, V.i (i : Nat))])
        (fun i => [⟨3, .vec 3 1, (fnL (srtW t) (n + 1)).map C.i⟩, ⟨2, .vec 3 1, (fnL (fallC j) (j + 1)).map C.i⟩, ⟨1, .vec 3 1, (fnL (plG t j i) (n + 1)).map C.i⟩, ⟨0, .ro 0, t.map C.u⟩]) 4 (fun i => j + 1 - i) 0 (R0 := []) ?_ ?_ ?_
      · omega
      · skip
        refine ⟨?_, ?_, rfl, rfl, by first | exact Nat.le_of_ble_eq_true rfl | exact Nat.le_refl _ | omega⟩
        · repeat (first | exact trivial | (refine And.intro (covS_syn (by rfl) rfl (by first | exact trivial | exact Nat.le_of_ble_eq_true rfl | exact hy | (first | ((show ∀ p ∈ (_ : List (Nat × Nat)), p.1 < _); decide) | exact (fun p hp => nomatch hp)) | (show (_ : Nat) < _; omega))) ?_) | refine And.intro (covS_bool rfl rfl (by rfl)) ?_)
        · repeat (first | exact trivial | (refine And.intro (covE_id (Nat.le_of_ble_eq_true rfl) (by first | exact wf_ints _ _ | exact wf_bools _ _ | first | exact wf_us _ _ | (simp [C.wf]; done) | simp [C.wf]) rfl (by first | rfl | exact congrArg _ (fnL_congr fun d _ => (plG_zero t j d).symm))) ?_))
      · intro i hi
        refine vc_ok tok ?_
        have hfl : ((fnL (fallC j) (j + 1)).map C.i).length = j + 1 := by rw [List.length_map, fnL_len]
        have hgl : ((fnL (plG t j i) (n + 1)).map C.i).length = n + 1 := by rw [List.length_map, fnL_len]
        by_cases hil : i < j + 1
        · have hl1 : ((fnL (fallC j) (j + 1)).map C.i)[mulS ((i : Nat) : Int).toNat 1]? = some (C.i (fallC j i)) := by
            rw [intLz rfl (by rw [fnL_len]; omega), fnL_get (by omega)]
          have e1 : plG t j i i = plF t j i := by unfold plG; rw [if_neg (by omega)]; omega
          have hl2 : ((fnL (plG t j i) (n + 1)).map C.i)[mulS ((i : Nat) : Int).toNat 1]? = some (C.i (plF t j i)) := by
            rw [intLz rfl (by rw [fnL_len]; omega), fnL_get (by omega), e1]
          have hb1 := srt_mul t (by omega) (j := j) (d := i) (by omega) (by omega)
          have hb2 := plF_bd t (by omega) (d := i) (by omega) j (by omega)
          have hfin : setL ((fnL (plG t j i) (n + 1)).map C.i) (mulS ((i : Nat) : Int).toNat 1) [C.i (plF t j i + srtW t j * fallC j i)] = (fnL (plG t j (i + 1)) (n + 1)).map C.i := by
            rw [setI rfl, fnL_set]
            refine congrArg _ (fnL_congr fun d _ => ?_)
            by_cases h : d = i
            · subst h; rw [if_pos rfl]; unfold plG; rw [if_pos (by omega)]
            · rw [if_neg h]; unfold plG
              by_cases h2 : d < i
              · rw [if_pos h2, if_pos (by omega)]
              · rw [if_neg h2, if_neg (by omega)]
          obtain ⟨u, hu⟩ : ∃ u, u = plF t j i := ⟨_, rfl⟩
          rw [← hu] at hl2 hb2 hfin
          repeat ((conv => whnf); first | (refine And.intro (by first | omega | exact Nat.le_of_ble_eq_true rfl | (dsimp only [inK]; omega) | (simp only [mulS_eq]; omega) | (simp only [mulS_eq, setL_length]; omega) | (simp only [setL_length]; omega) | (simp only [setL_length, List.length_map]; omega) | (exact ⟨by omega, by omega, by first | exact Nat.le_of_ble_eq_true rfl | (dsimp only; omega) | (simp only [setL_length]; omega) | (simp only [setL_length, List.length_map]; omega)⟩) | (exact ⟨by omega, by first | rfl | omega, by omega, Nat.le_of_ble_eq_true rfl, Nat.le_of_ble_eq_true rfl⟩) | (exact ⟨rfl, rfl, rfl, Nat.le_of_ble_eq_true rfl, by first | rfl | omega | exact Nat.le_of_ble_eq_true rfl | (dsimp only; omega) | (simp; done) | (simp; omega), by first | rfl | omega | exact Nat.le_of_ble_eq_true rfl | (dsimp only; omega) | (simp; done) | (simp; omega), by omega, Nat.le_of_ble_eq_true rfl⟩) | exact Eq.refl true) ?_) | with_reducible refine ld (hl1) ?_ | with_reducible refine ld (hl2) ?_ | refine Exists.intro _ (And.intro rfl ?_) | refine And.intro (And.intro rfl (chk_rowI _ _ _ _)) ?_ | refine br_t (by omega) ?_ | refine br_f (by omega) ?_ | refine bs_t (by omega) ?_ | refine bs_f (by omega) ?_ | refine fun (K' : K3) hK' => ?_ | (refine hK' _ _ _ ?_; clear hK' K') | refine draw_auto tok mixed (by kernel_rfl) ?_ | refine And.intro ⟨by omega, by omega⟩ ?_ | refine bs_bt (Eq.refl true) ?_ | refine bs_bf (Eq.refl false) ?_ | refine br_bt (Eq.refl true) ?_ | refine br_bf (Eq.refl false) ?_ | refine CallK.m ?_ | refine Two.l ?_ | refine And.intro (And.intro rfl rfl) ?_)
          refine ⟨i + 1, [], by omega, by omega, ?_⟩
          refine ⟨?_, ?_, rfl, rfl, by first | exact Nat.le_of_ble_eq_true rfl | exact Nat.le_refl _ | omega⟩
          · repeat (first | exact trivial | (refine And.intro (covS_syn (by first | rfl | (refine congrArg some (congrArg V.i ?_); omega)) rfl (by first | exact trivial | exact Nat.le_of_ble_eq_true rfl | exact hy | (first | ((show ∀ p ∈ (_ : List (Nat × Nat)), p.1 < _); decide) | exact (fun p hp => nomatch hp)) | (show (_ : Nat) < _; omega))) ?_) | refine And.intro (covS_bool rfl rfl (by rfl)) ?_)
          · repeat (first | exact trivial | (refine And.intro (covE_id (Nat.le_of_ble_eq_true rfl) (by first | exact wf_ints _ _ | exact wf_bools _ _ | first | exact wf_us _ _ | (simp [C.wf]; done) | simp [C.wf]) rfl (by first | rfl | exact hfin)) ?_))
        · obtain rfl : i = j + 1 := by omega
          have hpe : fnL (plG t j (j + 1)) (n + 1) = fnL (plF t (j + 1)) (n + 1) := fnL_congr fun d _ => plG_end t j d
          rw [hpe]
          repeat ((conv => whnf); first | (refine And.intro (by first | omega | exact Nat.le_of_ble_eq_true rfl | (dsimp only [inK]; omega) | (simp only [mulS_eq]; omega) | (simp only [mulS_eq, setL_length]; omega) | (simp only [setL_length]; omega) | (simp only [setL_length, List.length_map]; omega) | (exact ⟨by omega, by omega, by first | exact Nat.le_of_ble_eq_true rfl | (dsimp only; omega) | (simp only [setL_length]; omega) | (simp only [setL_length, List.length_map]; omega)⟩) | (exact ⟨by omega, by first | rfl | omega, by omega, Nat.le_of_ble_eq_true rfl, Nat.le_of_ble_eq_true rfl⟩) | (exact ⟨rfl, rfl, rfl, Nat.le_of_ble_eq_true rfl, by first | rfl | omega | exact Nat.le_of_ble_eq_true rfl | (dsimp only; omega) | (simp; done) | (simp; omega), by first | rfl | omega | exact Nat.le_of_ble_eq_true rfl | (dsimp only; omega) | (simp; done) | (simp; omega), by omega, Nat.le_of_ble_eq_true rfl⟩) | exact Eq.refl true) ?_) | refine Exists.intro _ (And.intro rfl ?_) | refine And.intro (And.intro rfl (chk_rowI _ _ _ _)) ?_ | refine br_t (by omega) ?_ | refine br_f (by omega) ?_ | refine bs_t (by omega) ?_ | refine bs_f (by omega) ?_ | refine fun (K' : K3) hK' => ?_ | (refine hK' _ _ _ ?_; clear hK' K') | refine draw_auto tok mixed (by kernel_rfl) ?_ | refine CallK.rowF (R := [(0, some 2)]) (flat_i _) hti (by kernel_rfl) rfl (by simp [V.wf, A.wf, C.wf, V.i]) ⟨roE_f (flat_i _) (l := 2) rfl (by omega) rfl (.inl rfl), trivial⟩ rfl ?_ | refine bs_bt (Eq.refl true) ?_ | refine bs_bf (Eq.refl false) ?_ | refine br_bt (Eq.refl true) ?_ | refine br_bf (Eq.refl false) ?_ | refine CallK.m ?_ | refine Two.l ?_ | refine And.intro (And.intro rfl rfl) ?_)
          refine ⟨j + 1, [(2, some 4)], by omega, by omega, ?_⟩
          refine ⟨?_, ?_, rfl, rfl, by first | exact Nat.le_of_ble_eq_true rfl | exact Nat.le_refl _ | omega⟩
          · repeat (first | exact trivial | (refine And.intro (covS_syn (by first | rfl | (refine congrArg some (congrArg V.i ?_); omega)) rfl (by first | exact trivial | exact Nat.le_of_ble_eq_true rfl | exact hy | (first | ((show ∀ p ∈ (_ : List (Nat × Nat)), p.1 < _); decide) | exact (fun p hp => nomatch hp)) | (show (_ : Nat) < _; omega))) ?_) | refine And.intro (covS_bool rfl rfl (by rfl)) ?_)
          · repeat (first | exact trivial | refine And.intro (covE_i rfl (Nat.le_of_ble_eq_true rfl) rfl rfl) ?_ | refine And.intro (covE_u rfl (Nat.le_of_ble_eq_true rfl) rfl rfl) ?_ | refine And.intro (covE_nil rfl (Nat.le_of_ble_eq_true rfl) rfl rfl) ?_ | (refine And.intro (covE_some rfl (Nat.le_of_ble_eq_true rfl) (by first | exact wf_ints _ _ | exact wf_bools _ _ | first | exact wf_us _ _ | (simp [C.wf]; done) | simp [C.wf]) rfl (by first | exact ren_ints _ _ | exact ren_bools _ _ | exact ren_shares _ _ | rfl)) ?_))
    · obtain rfl : j = n + 1 := by omega
      have hpe : fnL (plF t (n + 1)) (n + 1) = fnL (polyP t) (n + 1) := by unfold polyP; rw [htl]
      rw [hpe]
      repeat ((conv => whnf); first | (refine And.intro (by first | omega | exact Nat.le_of_ble_eq_true rfl | (dsimp only [inK]; omega) | (simp only [mulS_eq]; omega) | (simp only [mulS_eq, setL_length]; omega) | (simp only [setL_length]; omega) | (simp only [setL_length, List.length_map]; omega) | (exact ⟨by omega, by omega, by first | exact Nat.le_of_ble_eq_true rfl | (dsimp only; omega) | (simp only [setL_length]; omega) | (simp only [setL_length, List.length_map]; omega)⟩) | (exact ⟨by omega, by first | rfl | omega, by omega, Nat.le_of_ble_eq_true rfl, Nat.le_of_ble_eq_true rfl⟩) | (exact ⟨rfl, rfl, rfl, Nat.le_of_ble_eq_true rfl, by first | rfl | omega | exact Nat.le_of_ble_eq_true rfl | (dsimp only; omega) | (simp; done) | (simp; omega), by first | rfl | omega | exact Nat.le_of_ble_eq_true rfl | (dsimp only; omega) | (simp; done) | (simp; omega), by omega, Nat.le_of_ble_eq_true rfl⟩) | exact Eq.refl true) ?_) | refine Exists.intro _ (And.intro rfl ?_) | refine And.intro (And.intro rfl (chk_rowI _ _ _ _)) ?_ | refine br_t (by omega) ?_ | refine br_f (by omega) ?_ | refine bs_t (by omega) ?_ | refine bs_f (by omega) ?_ | refine fun (K' : K3) hK' => ?_ | (refine hK' _ _ _ ?_; clear hK' K') | refine draw_auto tok mixed (by kernel_rfl) ?_ | refine bs_bt (Eq.refl true) ?_ | refine bs_bf (Eq.refl false) ?_ | refine br_bt (Eq.refl true) ?_ | refine br_bf (Eq.refl false) ?_ | refine CallK.m ?_ | refine Two.l ?_ | refine And.intro (And.intro rfl rfl) ?_)
      rfl
end Go.Proofs.YtijnimgmpocmaaaDoor

/- Waste: Poly and Count. -/
namespace Go.Proofs.YtijnimgmpocmaaaDoor
open Go.RowKit
set_option linter.unusedVariables false
set_option linter.unusedSimpArgs false
theorem sumN_abs {f : Nat → Int} {g : Nat → Int} (h : ∀ i, -(g i) ≤ f i ∧ f i ≤ g i) : ∀ n, -(sumN g n) ≤ sumN f n ∧ sumN f n ≤ sumN g n
  | 0 => by simp [sumN]
  | n + 1 => by
    have := sumN_abs h n; have := h n
    simp only [sumN]; omega
theorem polyP_coef (t : List Nat) (d : Nat) : -(coefB t.length d) ≤ polyP t d ∧ polyP t d ≤ coefB t.length d := by
  unfold polyP plF coefB
  refine sumN_abs (fun j => ?_) _
  have h1 : 0 ≤ srtW t j := waysB_nonneg _ _ _ _ _
  have h2 : srtW t j ≤ st t.length 0 j := waysB_st t j t.length 0 []
  have h3 : -((fallC j d).natAbs : Int) ≤ fallC j d ∧ fallC j d ≤ ((fallC j d).natAbs : Int) := by omega
  have := mul_nn ⟨h1, h2⟩ h3 (Int.le_trans h1 h2) (by omega)
  exact this
theorem polyP_high (t : List Nat) {d : Nat} (h : t.length < d) : polyP t d = 0 := sumN_zero fun j hj => by rw [fallC_high (by omega)]; simp
theorem polyP_bd (t : List Nat) (h : t.length ≤ 8) (d : Nat) : -600000 ≤ polyP t d ∧ polyP t d ≤ 600000 := by
  by_cases hd : d ≤ t.length
  · have h1 := polyP_coef t d
    have h2 := coefB_le t.length h d (by omega)
    omega
  · rw [polyP_high t (by omega)]; omega
theorem horn_max : ∀ m, m ≤ 9 → horn (fun _ => 600000) 20 0 m ≤ 100000000000000000 := by decide +kernel
theorem horn_shift (B X : Int) : ∀ m k, horn (fun _ => B) X k m = horn (fun _ => B) X 0 m
  | 0, _ => rfl
  | m + 1, k => by simp only [horn]; rw [horn_shift B X m (k + 1), horn_shift B X m (0 + 1)]
theorem hornB_of (t : List Nat) (h : t.length ≤ 8) {x : Int} (hx : -20 ≤ x ∧ x ≤ 20) : HornB (polyP t) x (t.length + 1) := by
  refine ⟨hx, fun m _ => by have := polyP_bd t h m; omega, fun m hm => ?_⟩
  have h1 := horn_abs (B := 600000) (X := 20) (polyP_bd t h) hx (by omega) (t.length + 1 - m) m
  rw [horn_shift] at h1
  have h2 := horn_max (t.length + 1 - m) (by omega)
  omega
/-- The polynomial of valid kinds. -/
def pol (n : Nat) (qs : List (Nat × Nat)) : Nat → Int := polyP (tabS n qs)
def cntO (n : Nat) (qs : List (Nat × Nat)) (x : Int) : Int := horn (pol n qs) x 0 (n + 1)
theorem tabS_256 {n : Nat} {qs : List (Nat × Nat)} (h : Knd n qs) : ∀ s ∈ tabS n qs, s < 256 := fun s hs => Nat.lt_of_lt_of_le (tabS_lt h.ok s hs) (pow_8 h.rng.2)
theorem tabS_cl {n : Nat} {qs : List (Nat × Nat)} (h : Knd n qs) (a b : Nat) : ((tabS n qs).getD a 0).testBit b = symC (clP qs) a b := tabS_bit h.ok a b
set_option maxRecDepth 10000 in
set_option maxHeartbeats 4000000 in
theorem count_spec (n : Nat) (x : Int) (qs : List (Nat × Nat)) (hk : Knd n qs) : Spec Tryd.prog 25 [V.agg [C.i n, C.sl 0 (castP qs).length], V.i x] [⟨0, .ro 2, cellC (castP qs)⟩] 1
    (Is (if -10 ≤ x ∧ x ≤ 20 then V.tup [A.c (C.i (cntO n qs x)), A.c (C.i 0)] else V.tup [A.c (C.i 0), A.c (C.i 2)])) := by
  have hnt := newTable_spec n qs hk
  have htl := tabS_len n qs
  have hpo := polynomial_spec (tabS n qs) n htl hk.rng.2 (tabS_256 hk)
  have hbt := between_spec (-10) x 20
  refine Spec.of tok Tryd.func25 rfl rfl rfl fun n0 cx => vc_ok tok ?_
  by_cases hx : -10 ≤ x ∧ x ≤ 20
  · have hat := at_spec (polyP (tabS n qs)) x (n + 1) (by have := hk.rng; omega) (by have := hornB_of (tabS n qs) (by rw [htl]; exact hk.rng.2) (x := x) (by omega); rw [htl] at this; exact this)
    rw [if_pos hx]
    repeat ((conv => whnf); first | (refine And.intro (by first | omega | exact Nat.le_of_ble_eq_true rfl | (dsimp only [inK]; omega) | (simp only [mulS_eq]; omega) | (simp only [mulS_eq, setL_length]; omega) | (simp only [setL_length]; omega) | (simp only [setL_length, List.length_map]; omega) | (exact ⟨by omega, by omega, by first | exact Nat.le_of_ble_eq_true rfl | (dsimp only; omega) | (simp only [setL_length]; omega) | (simp only [setL_length, List.length_map]; omega)⟩) | (exact ⟨by omega, by first | rfl | omega, by omega, Nat.le_of_ble_eq_true rfl, Nat.le_of_ble_eq_true rfl⟩) | (exact ⟨rfl, rfl, rfl, Nat.le_of_ble_eq_true rfl, by first | rfl | omega | exact Nat.le_of_ble_eq_true rfl | (dsimp only; omega) | (simp; done) | (simp; omega), by first | rfl | omega | exact Nat.le_of_ble_eq_true rfl | (dsimp only; omega) | (simp; done) | (simp; omega), by omega, Nat.le_of_ble_eq_true rfl⟩) | exact Eq.refl true) ?_) | refine Exists.intro _ (And.intro rfl ?_) | refine And.intro (And.intro rfl (chk_rowI _ _ _ _)) ?_ | refine br_t (by omega) ?_ | refine br_f (by omega) ?_ | refine bs_t (by omega) ?_ | refine bs_f (by omega) ?_ | refine fun (K' : K3) hK' => ?_ | (refine hK' _ _ _ ?_; clear hK' K') | refine draw_auto tok mixed (by kernel_rfl) ?_ | refine CallK.rowE (R := []) (flat_u _) hnt (by kernel_rfl) rfl (by simp [V.wf, A.wf, C.wf]) ⟨roE_f (flat_c _) (l := 0) rfl (by omega) rfl (.inr rfl), trivial⟩ rfl ?_ | refine CallK.val (R := []) hbt (by kernel_rfl) rfl (by simp [V.wf, A.wf, C.wf, V.i]) trivial rfl rfl trivial ?_ | refine br_bf (nd_f hx) ?_ | refine CallK.rowF (R := [(0, some 2)]) (flat_i _) hpo (by kernel_rfl) rfl (by simp [V.wf, A.wf, C.wf]) ⟨roE_f (flat_u _) (l := 2) rfl (by omega) rfl (.inl rfl), trivial⟩ rfl ?_ | refine CallK.val (R := [(0, some 3)]) hat (by kernel_rfl) rfl (by simp [V.wf, A.wf, C.wf, V.i]) ⟨roE_f (flat_i _) (l := 3) rfl (by omega) rfl (.inl rfl), trivial⟩ rfl rfl trivial ?_ | refine bs_bt (Eq.refl true) ?_ | refine bs_bf (Eq.refl false) ?_ | refine br_bt (Eq.refl true) ?_ | refine br_bf (Eq.refl false) ?_ | refine CallK.m ?_ | refine Two.l ?_ | refine And.intro (And.intro rfl rfl) ?_)
    intro ρ; rfl
  · rw [if_neg hx]
    repeat ((conv => whnf); first | (refine And.intro (by first | omega | exact Nat.le_of_ble_eq_true rfl | (dsimp only [inK]; omega) | (simp only [mulS_eq]; omega) | (simp only [mulS_eq, setL_length]; omega) | (simp only [setL_length]; omega) | (simp only [setL_length, List.length_map]; omega) | (exact ⟨by omega, by omega, by first | exact Nat.le_of_ble_eq_true rfl | (dsimp only; omega) | (simp only [setL_length]; omega) | (simp only [setL_length, List.length_map]; omega)⟩) | (exact ⟨by omega, by first | rfl | omega, by omega, Nat.le_of_ble_eq_true rfl, Nat.le_of_ble_eq_true rfl⟩) | (exact ⟨rfl, rfl, rfl, Nat.le_of_ble_eq_true rfl, by first | rfl | omega | exact Nat.le_of_ble_eq_true rfl | (dsimp only; omega) | (simp; done) | (simp; omega), by first | rfl | omega | exact Nat.le_of_ble_eq_true rfl | (dsimp only; omega) | (simp; done) | (simp; omega), by omega, Nat.le_of_ble_eq_true rfl⟩) | exact Eq.refl true) ?_) | refine Exists.intro _ (And.intro rfl ?_) | refine And.intro (And.intro rfl (chk_rowI _ _ _ _)) ?_ | refine br_t (by omega) ?_ | refine br_f (by omega) ?_ | refine bs_t (by omega) ?_ | refine bs_f (by omega) ?_ | refine fun (K' : K3) hK' => ?_ | (refine hK' _ _ _ ?_; clear hK' K') | refine draw_auto tok mixed (by kernel_rfl) ?_ | refine CallK.rowE (R := []) (flat_u _) hnt (by kernel_rfl) rfl (by simp [V.wf, A.wf, C.wf]) ⟨roE_f (flat_c _) (l := 0) rfl (by omega) rfl (.inr rfl), trivial⟩ rfl ?_ | refine CallK.val (R := []) hbt (by kernel_rfl) rfl (by simp [V.wf, A.wf, C.wf, V.i]) trivial rfl rfl trivial ?_ | refine br_bt (nd_t hx) ?_ | refine bs_bt (Eq.refl true) ?_ | refine bs_bf (Eq.refl false) ?_ | refine br_bt (Eq.refl true) ?_ | refine br_bf (Eq.refl false) ?_ | refine CallK.m ?_ | refine Two.l ?_ | refine And.intro (And.intro rfl rfl) ?_)
    intro ρ; rfl
end Go.Proofs.YtijnimgmpocmaaaDoor

/- Waste: loadings. -/
namespace Go.Proofs.YtijnimgmpocmaaaDoor
open Go.RowKit
set_option linter.unusedVariables false
set_option linter.unusedSimpArgs false
def outF (t : List Nat) (s x : Nat) : Int := if x < s then LD t x else 0
def outG (t : List Nat) (s : Nat) (acc : Int) (x : Nat) : Int := if x < s then LD t x else if x = s then acc else 0
def gS (t : List Nat) (s f : Nat) : Int := sgT t f (LD t (dif s f))
theorem chn_step {s f : Nat} (h0 : f ≠ 0) : chn s f f = f :: chn s ((f - 1) &&& s) ((f - 1) &&& s) := by
  obtain ⟨k, rfl⟩ : ∃ k, f = k + 1 := ⟨f - 1, by omega⟩
  simp only [chn]
  rw [if_neg (by omega), Nat.add_sub_cancel]
  have h1 : k &&& s ≤ k := Nat.and_le_left
  rw [chn_fuel s k _ h1 (k &&& s) (Nat.le_refl _)]
set_option maxRecDepth 10000 in
set_option maxHeartbeats 8000000 in
theorem loadings_spec (t : List Nat) (n : Nat) (htl : t.length = n) (hn : n ≤ 8) (ht : ∀ x ∈ t, x < 256) : Spec Tryd.prog 63 [V.c (.sl 0 n)] [⟨0, .ro 0, t.map C.u⟩] 1 (Is (V.i (LD t (2 ^ n - 1)))) := by
  have hev := every_spec n 0 hn
  have h8 := pow_8 hn
  have hp0 : 0 < 2 ^ n := Nat.two_pow_pos n
  have hap : ∀ f, f < 2 ^ n → Spec Tryd.prog 95 [V.c (.sl 0 n), V.u f] [⟨0, .ro 0, t.map C.u⟩] 1 (Is (V.c (.bool (aptS t f)))) := fun f hf => apart_spec t n f htl hn ht hf
  obtain ⟨M, hM⟩ : ∃ M, 2 ^ n = M + 1 := ⟨2 ^ n - 1, by omega⟩
  rw [hM, Nat.add_sub_cancel] at hev
  rw [hM] at hap h8
  rw [hM, Nat.add_sub_cancel]
  have hz : repC (M + 1) [C.int .i64 0] = (fnL (fun _ => 0) (M + 1)).map C.i := by rw [repI, fnL_zero]
  have h0 : setL (repC (M + 1) [C.int .i64 0]) (mulS (Int.toNat 0) 1) [C.i 1] = (fnL (outF t 1) (M + 1)).map C.i := by
    rw [hz]
    have := setI (l := fnL (fun _ => 0) (M + 1)) (k := 0) (z := 0) (x := 1) rfl
    rw [this, fnL_set]
    refine congrArg _ (fnL_congr fun x _ => ?_)
    unfold outF
    by_cases hx : x = 0
    · subst hx; rw [if_pos rfl, if_pos (by omega), LD_zero]
    · rw [if_neg hx, if_neg (by omega)]
  have hz1 : (repC (M + 1) [C.int .i64 0]).length = M + 1 := by rw [hz, List.length_map, fnL_len]
  refine Spec.of tok Tryd.func63 rfl rfl rfl fun n0 cx => vc_ok tok ?_
  repeat ((conv => whnf); first | (refine And.intro (by first | omega | exact Nat.le_of_ble_eq_true rfl | (dsimp only [inK]; omega) | (simp only [mulS_eq]; omega) | (simp only [mulS_eq, setL_length]; omega) | (simp only [setL_length]; omega) | (simp only [setL_length, List.length_map]; omega) | (exact ⟨by omega, by omega, by first | exact Nat.le_of_ble_eq_true rfl | (dsimp only; omega) | (simp only [setL_length]; omega) | (simp only [setL_length, List.length_map]; omega)⟩) | (exact ⟨by omega, by first | rfl | omega, by omega, Nat.le_of_ble_eq_true rfl, Nat.le_of_ble_eq_true rfl⟩) | (exact ⟨rfl, rfl, rfl, Nat.le_of_ble_eq_true rfl, by first | rfl | omega | exact Nat.le_of_ble_eq_true rfl | (dsimp only; omega) | (simp; done) | (simp; omega), by first | rfl | omega | exact Nat.le_of_ble_eq_true rfl | (dsimp only; omega) | (simp; done) | (simp; omega), by omega, Nat.le_of_ble_eq_true rfl⟩) | exact Eq.refl true) ?_) | refine Exists.intro _ (And.intro rfl ?_) | refine And.intro (And.intro rfl (chk_rowI _ _ _ _)) ?_ | refine br_t (by omega) ?_ | refine br_f (by omega) ?_ | refine bs_t (by omega) ?_ | refine bs_f (by omega) ?_ | refine fun (K' : K3) hK' => ?_ | (refine hK' _ _ _ ?_; clear hK' K') | refine draw_auto tok mixed (by kernel_rfl) ?_ | refine HD_mk (fun _ h => CallK.val (R := []) hev (by kernel_rfl) rfl (by simp [V.wf, A.wf, C.wf]) trivial rfl rfl trivial h) ?_ | refine CallK.val (R := []) hev (by kernel_rfl) rfl (by simp [V.wf, A.wf, C.wf]) trivial rfl rfl trivial ?_ | refine bs_bt (Eq.refl true) ?_ | refine bs_bf (Eq.refl false) ?_ | refine br_bt (Eq.refl true) ?_ | refine br_bf (Eq.refl false) ?_ | refine CallK.m ?_ | refine Two.l ?_ | refine And.intro (And.intro rfl rfl) ?_)
  refine Tri.loop (γ := Nat) (fun s => 1 ≤ s ∧ s ≤ M + 1) (fun s => [(0, V.c (.sl 0 n)), (2, V.i 0), (3, V.c (.sl 1 (M + 1))), (4, V.u s)])
    (fun s => [⟨1, .vec 3 1, (fnL (outF t s) (M + 1)).map C.i⟩, ⟨0, .ro 0, t.map C.u⟩]) 2 (fun s => M + 1 - s) 1 (R0 := []) ?_ ?_ ?_
  · omega
  · skip
    refine ⟨?_, ?_, rfl, rfl, by first | exact Nat.le_of_ble_eq_true rfl | exact Nat.le_refl _ | omega⟩
    · repeat (first | exact trivial | (refine And.intro (covS_syn (by rfl) rfl (by first | exact trivial | exact Nat.le_of_ble_eq_true rfl | exact hy | (first | ((show ∀ p ∈ (_ : List (Nat × Nat)), p.1 < _); decide) | exact (fun p hp => nomatch hp)) | (show (_ : Nat) < _; omega))) ?_) | refine And.intro (covS_bool rfl rfl (by rfl)) ?_)
    · repeat (first | exact trivial | (refine And.intro (covE_id (Nat.le_of_ble_eq_true rfl) (by first | exact wf_ints _ _ | exact wf_bools _ _ | first | exact wf_us _ _ | (simp [C.wf]; done) | simp [C.wf]) rfl (by first | rfl | exact h0)) ?_))
  · rintro s ⟨hs1, hs2⟩
    refine vc_ok tok ?_
    by_cases hlt : (s : Int) ≤ (M : Nat)
    · have hs256 : s < 256 := by omega
      have hLD : LD t s = sumL (chn s s s) (gS t s) := LD_rec t (by omega)
      have hfub := fub_fact s hs256 (by omega)
      have hfp := fubS_pos s hs256
      repeat ((conv => whnf); first | (refine And.intro (by first | omega | exact Nat.le_of_ble_eq_true rfl | (dsimp only [inK]; omega) | (simp only [mulS_eq]; omega) | (simp only [mulS_eq, setL_length]; omega) | (simp only [setL_length]; omega) | (simp only [setL_length, List.length_map]; omega) | (exact ⟨by omega, by omega, by first | exact Nat.le_of_ble_eq_true rfl | (dsimp only; omega) | (simp only [setL_length]; omega) | (simp only [setL_length, List.length_map]; omega)⟩) | (exact ⟨by omega, by first | rfl | omega, by omega, Nat.le_of_ble_eq_true rfl, Nat.le_of_ble_eq_true rfl⟩) | (exact ⟨rfl, rfl, rfl, Nat.le_of_ble_eq_true rfl, by first | rfl | omega | exact Nat.le_of_ble_eq_true rfl | (dsimp only; omega) | (simp; done) | (simp; omega), by first | rfl | omega | exact Nat.le_of_ble_eq_true rfl | (dsimp only; omega) | (simp; done) | (simp; omega), by omega, Nat.le_of_ble_eq_true rfl⟩) | exact Eq.refl true) ?_) | refine Exists.intro _ (And.intro rfl ?_) | refine And.intro (And.intro rfl (chk_rowI _ _ _ _)) ?_ | refine br_t (by omega) ?_ | refine br_f (by omega) ?_ | refine bs_t (by omega) ?_ | refine bs_f (by omega) ?_ | refine fun (K' : K3) hK' => ?_ | (refine hK' _ _ _ ?_; clear hK' K') | refine draw_auto tok mixed (by kernel_rfl) ?_ | refine CallK.val (R := []) hev (by kernel_rfl) rfl (by simp [V.wf, A.wf, C.wf]) trivial rfl rfl trivial ?_ | refine bs_t hlt ?_ | refine br_t hlt ?_ | refine bs_bt (Eq.refl true) ?_ | refine bs_bf (Eq.refl false) ?_ | refine br_bt (Eq.refl true) ?_ | refine br_bf (Eq.refl false) ?_ | refine CallK.m ?_ | refine Two.l ?_ | refine And.intro (And.intro rfl rfl) ?_)
      refine Tri.loop (γ := Nat × Int) (fun g => g.1 &&& s = g.1 ∧ g.2 + sumL (chn s g.1 g.1) (gS t s) = LD t s ∧ -(fubS s) ≤ g.2 - sumL (chn s g.1 g.1) (fun f => fubS (dif s f)) ∧ g.2 + sumL (chn s g.1 g.1) (fun f => fubS (dif s f)) ≤ fubS s)
        (fun g => [(0, V.c (.sl 0 n)), (2, V.i 0), (3, V.c (.sl 1 (M + 1))), (4, V.u s), (5, V.u g.1)])
        (fun g => [⟨1, .vec 3 1, (fnL (outG t s g.2) (M + 1)).map C.i⟩, ⟨0, .ro 0, t.map C.u⟩]) 2 (fun g => g.1) (s, 0) (R0 := []) ?_ ?_ ?_
      · have hfub : sumL (chn s s s) (fun f => fubS (dif s f)) ≤ fubS s := hfub
        refine ⟨Nat.and_self s, by simp only; rw [hLD]; omega, ?_, ?_⟩
        · simp only; omega
        · simp only; omega
      · skip
        refine ⟨?_, ?_, rfl, rfl, by first | exact Nat.le_of_ble_eq_true rfl | exact Nat.le_refl _ | omega⟩
        · repeat (first | exact trivial | (refine And.intro (covS_syn (by rfl) rfl (by first | exact trivial | exact Nat.le_of_ble_eq_true rfl | exact hy | (first | ((show ∀ p ∈ (_ : List (Nat × Nat)), p.1 < _); decide) | exact (fun p hp => nomatch hp)) | (show (_ : Nat) < _; omega))) ?_) | refine And.intro (covS_bool rfl rfl (by rfl)) ?_)
        · repeat (first | exact trivial | (refine And.intro (covE_id (Nat.le_of_ble_eq_true rfl) (by first | exact wf_ints _ _ | exact wf_bools _ _ | first | exact wf_us _ _ | (simp [C.wf]; done) | simp [C.wf]) rfl (by first | rfl | (exact congrArg _ (fnL_congr fun x _ => by simp only [outF, outG]; by_cases h : x < s <;> simp [h])))) ?_))
      · rintro ⟨f, acc⟩ ⟨i1, i2, i3, i4⟩
        simp only at i1 i2 i3 i4 ⊢
        refine vc_ok tok ?_
        have hfs : f ≤ s := by rw [← i1]; exact Nat.and_le_right
        have hrl : ((fnL (outG t s acc) (M + 1)).map C.i).length = M + 1 := by rw [List.length_map, fnL_len]
        by_cases hf0 : (f : Int) > 0
        · have hf0' : f ≠ 0 := by omega
          have hstep := chn_step (s := s) hf0'
          rw [hstep, sumL_cons] at i2 i3 i4
          have hde : bitI .and .u64 ((f : Int) - 1) (s : Int) = (((f - 1) &&& s : Nat) : Int) := by
            rw [show ((f : Int) - 1) = ((f - 1 : Nat) : Int) by omega]; exact bit_and (by omega) (by omega)
          have hbn : ∀ g ∈ chn s ((f - 1) &&& s) ((f - 1) &&& s), 0 ≤ fubS (dif s g) := fun g hg => by
            obtain ⟨q1, q2⟩ := chn_mem s _ _ (by rw [Nat.and_assoc, Nat.and_self]) g hg
            have := dif_lt q1 q2
            have := fubS_pos (dif s g) (by omega)
            omega
          have hsn : 0 ≤ sumL (chn s ((f - 1) &&& s) ((f - 1) &&& s)) (fun f => fubS (dif s f)) := by
            have : ∀ l : List Nat, (∀ g ∈ l, 0 ≤ fubS (dif s g)) → 0 ≤ sumL l (fun f => fubS (dif s f)) := by
              intro l
              induction l with
              | nil => intro _; simp [sumL]
              | cons a r ih => intro h; rw [sumL_cons]; have := h a (by simp); have := ih fun g hg => h g (by simp [hg]); omega
            exact this _ hbn
          have hnxt : (f - 1) &&& s ≤ f - 1 := Nat.and_le_left
          have hand := bit_andNot (x := s) (y := f) (by omega) (by omega)
          have hdl := dif_lt hf0' i1
          have hdb := LD_bd t _ (dif s f) (Nat.lt_succ_self _) (by omega)
          have hdp := fubS_pos (dif s f) (by omega)
          have hap1 := hap f (by omega)
          have hsz := size_spec f (by omega)
          have hgf : gS t s f = sgT t f (LD t (dif s f)) := rfl
          have hla : ((fnL (outG t s acc) (M + 1)).map C.i)[mulS ((s : Nat) : Int).toNat 1]? = some (C.i acc) := by
            rw [intLz rfl (by rw [fnL_len]; omega), fnL_get (by omega)]; unfold outG; rw [if_neg (by omega), if_pos rfl]
          have hld : ((fnL (outG t s acc) (M + 1)).map C.i)[mulS (bitI .andNot .u64 (s : Int) (f : Int)).toNat 1]? = some (C.i (LD t (dif s f))) := by
            rw [intLz hand (by rw [fnL_len]; omega), fnL_get (by omega)]; unfold outG; rw [if_pos hdl]
          have hset : ∀ z : Int, setL ((fnL (outG t s acc) (M + 1)).map C.i) (mulS ((s : Nat) : Int).toNat 1) [C.i z] = (fnL (outG t s z) (M + 1)).map C.i := fun z => by
            rw [setI rfl, fnL_set]
            refine congrArg _ (fnL_congr fun x _ => ?_)
            unfold outG
            by_cases h : x = s
            · subst h; rw [if_pos rfl, if_neg (by omega), if_pos rfl]
            · rw [if_neg h, if_neg h, if_neg h]
          have hands : (f - 1) &&& s &&& s = (f - 1) &&& s := by rw [Nat.and_assoc, Nat.and_self]
          obtain ⟨d, hd⟩ : ∃ d, d = dif s f := ⟨_, rfl⟩
          obtain ⟨x, hx⟩ : ∃ x, x = LD t (dif s f) := ⟨_, rfl⟩
          rw [← hx] at hld hdb hgf
          rw [← hd] at hand hdl hdb hdp i3 i4
          obtain ⟨f', hf'⟩ : ∃ f', f' = (f - 1) &&& s := ⟨_, rfl⟩
          rw [← hf'] at i2 i3 i4 hde hsn hnxt hands
          cases ha : aptS t f with
          | false =>
            rw [ha] at hap1
            have hg0 : gS t s f = 0 := by rw [hgf]; unfold sgT; rw [ha]; rfl
            rw [hg0] at i2
            repeat ((conv => whnf); first | (refine And.intro (by first | omega | exact Nat.le_of_ble_eq_true rfl | (dsimp only [inK]; omega) | (simp only [mulS_eq]; omega) | (simp only [mulS_eq, setL_length]; omega) | (simp only [setL_length]; omega) | (simp only [setL_length, List.length_map]; omega) | (exact ⟨by omega, by omega, by first | exact Nat.le_of_ble_eq_true rfl | (dsimp only; omega) | (simp only [setL_length]; omega) | (simp only [setL_length, List.length_map]; omega)⟩) | (exact ⟨by omega, by first | rfl | omega, by omega, Nat.le_of_ble_eq_true rfl, Nat.le_of_ble_eq_true rfl⟩) | (exact ⟨rfl, rfl, rfl, Nat.le_of_ble_eq_true rfl, by first | rfl | omega | exact Nat.le_of_ble_eq_true rfl | (dsimp only; omega) | (simp; done) | (simp; omega), by first | rfl | omega | exact Nat.le_of_ble_eq_true rfl | (dsimp only; omega) | (simp; done) | (simp; omega), by omega, Nat.le_of_ble_eq_true rfl⟩) | exact Eq.refl true) ?_) | refine Exists.intro _ (And.intro rfl ?_) | refine And.intro (And.intro rfl (chk_rowI _ _ _ _)) ?_ | refine br_t (by omega) ?_ | refine br_f (by omega) ?_ | refine bs_t (by omega) ?_ | refine bs_f (by omega) ?_ | refine fun (K' : K3) hK' => ?_ | (refine hK' _ _ _ ?_; clear hK' K') | refine draw_auto tok mixed (by kernel_rfl) ?_ | refine bs_t hf0 ?_ | refine br_t hf0 ?_ | refine CallK.val (R := []) hap1 (by kernel_rfl) rfl (by simp [V.wf, A.wf, C.wf]) ⟨roE_f (flat_u _) (l := 0) rfl (by omega) rfl (.inl rfl), trivial⟩ rfl rfl trivial ?_ | refine bs_bt (Eq.refl true) ?_ | refine bs_bf (Eq.refl false) ?_ | refine br_bt (Eq.refl true) ?_ | refine br_bf (Eq.refl false) ?_ | refine CallK.m ?_ | refine Two.l ?_ | refine And.intro (And.intro rfl rfl) ?_)
            refine ⟨(f', acc), [], ⟨hands, by simp only; omega, by simp only; omega, by simp only; omega⟩, by simp only; omega, ?_⟩
            refine ⟨?_, ?_, rfl, rfl, by first | exact Nat.le_of_ble_eq_true rfl | exact Nat.le_refl _ | omega⟩
            · repeat (first | exact trivial | (refine And.intro (covS_syn (by first | rfl | exact congrArg (fun z => some (V.c (C.int .u64 z))) hde) rfl (by first | exact trivial | exact Nat.le_of_ble_eq_true rfl | exact hy | (first | ((show ∀ p ∈ (_ : List (Nat × Nat)), p.1 < _); decide) | exact (fun p hp => nomatch hp)) | (show (_ : Nat) < _; omega))) ?_) | refine And.intro (covS_bool rfl rfl (by rfl)) ?_)
            · repeat (first | exact trivial | (refine And.intro (covE_id (Nat.le_of_ble_eq_true rfl) (by first | exact wf_ints _ _ | exact wf_bools _ _ | first | exact wf_us _ _ | (simp [C.wf]; done) | simp [C.wf]) rfl (by rfl)) ?_))
          | true =>
            rw [ha] at hap1
            by_cases ho : (((bitsL f).length : Nat) : Int) % 2 = 1
            · have hg0 : gS t s f = x := by rw [hgf]; unfold sgT; rw [ha, if_pos rfl, if_pos (by omega)]
              rw [hg0] at i2
              repeat ((conv => whnf); first | (refine And.intro (by first | omega | exact Nat.le_of_ble_eq_true rfl | (dsimp only [inK]; omega) | (simp only [mulS_eq]; omega) | (simp only [mulS_eq, setL_length]; omega) | (simp only [setL_length]; omega) | (simp only [setL_length, List.length_map]; omega) | (exact ⟨by omega, by omega, by first | exact Nat.le_of_ble_eq_true rfl | (dsimp only; omega) | (simp only [setL_length]; omega) | (simp only [setL_length, List.length_map]; omega)⟩) | (exact ⟨by omega, by first | rfl | omega, by omega, Nat.le_of_ble_eq_true rfl, Nat.le_of_ble_eq_true rfl⟩) | (exact ⟨rfl, rfl, rfl, Nat.le_of_ble_eq_true rfl, by first | rfl | omega | exact Nat.le_of_ble_eq_true rfl | (dsimp only; omega) | (simp; done) | (simp; omega), by first | rfl | omega | exact Nat.le_of_ble_eq_true rfl | (dsimp only; omega) | (simp; done) | (simp; omega), by omega, Nat.le_of_ble_eq_true rfl⟩) | exact Eq.refl true) ?_) | with_reducible refine ld (hla) ?_ | with_reducible refine ld (hld) ?_ | refine Exists.intro _ (And.intro rfl ?_) | refine And.intro (And.intro rfl (chk_rowI _ _ _ _)) ?_ | refine br_t (by omega) ?_ | refine br_f (by omega) ?_ | refine bs_t (by omega) ?_ | refine bs_f (by omega) ?_ | refine fun (K' : K3) hK' => ?_ | (refine hK' _ _ _ ?_; clear hK' K') | refine draw_auto tok mixed (by kernel_rfl) ?_ | refine bs_t hf0 ?_ | refine br_t hf0 ?_ | refine CallK.val (R := []) hap1 (by kernel_rfl) rfl (by simp [V.wf, A.wf, C.wf]) ⟨roE_f (flat_u _) (l := 0) rfl (by omega) rfl (.inl rfl), trivial⟩ rfl rfl trivial ?_ | refine CallK.val (R := []) hsz (by kernel_rfl) rfl (by simp [V.wf, A.wf, C.wf]) trivial rfl rfl trivial ?_ | refine bs_t ho ?_ | refine br_t ho ?_ | (refine And.intro (by rw [hand]; refine ⟨by omega, by omega, ?_⟩; (try dsimp only); simp only [mulS_eq, List.length_map, fnL_len]; omega) ?_) | refine bs_bt (Eq.refl true) ?_ | refine bs_bf (Eq.refl false) ?_ | refine br_bt (Eq.refl true) ?_ | refine br_bf (Eq.refl false) ?_ | refine CallK.m ?_ | refine Two.l ?_ | refine And.intro (And.intro rfl rfl) ?_)
              refine ⟨(f', acc + x), [], ⟨hands, by simp only; omega, by simp only; omega, by simp only; omega⟩, by simp only; omega, ?_⟩
              refine ⟨?_, ?_, rfl, rfl, by first | exact Nat.le_of_ble_eq_true rfl | exact Nat.le_refl _ | omega⟩
              · repeat (first | exact trivial | (refine And.intro (covS_syn (by first | rfl | exact congrArg (fun z => some (V.c (C.int .u64 z))) hde) rfl (by first | exact trivial | exact Nat.le_of_ble_eq_true rfl | exact hy | (first | ((show ∀ p ∈ (_ : List (Nat × Nat)), p.1 < _); decide) | exact (fun p hp => nomatch hp)) | (show (_ : Nat) < _; omega))) ?_) | refine And.intro (covS_bool rfl rfl (by rfl)) ?_)
              · repeat (first | exact trivial | (refine And.intro (covE_id (Nat.le_of_ble_eq_true rfl) (by first | exact wf_ints _ _ | exact wf_bools _ _ | first | exact wf_us _ _ | (simp [C.wf]; done) | simp [C.wf]) rfl (by first | rfl | exact hset _)) ?_))
            · have hg0 : gS t s f = -x := by rw [hgf]; unfold sgT; rw [ha, if_pos rfl, if_neg (by omega)]
              rw [hg0] at i2
              repeat ((conv => whnf); first | (refine And.intro (by first | omega | exact Nat.le_of_ble_eq_true rfl | (dsimp only [inK]; omega) | (simp only [mulS_eq]; omega) | (simp only [mulS_eq, setL_length]; omega) | (simp only [setL_length]; omega) | (simp only [setL_length, List.length_map]; omega) | (exact ⟨by omega, by omega, by first | exact Nat.le_of_ble_eq_true rfl | (dsimp only; omega) | (simp only [setL_length]; omega) | (simp only [setL_length, List.length_map]; omega)⟩) | (exact ⟨by omega, by first | rfl | omega, by omega, Nat.le_of_ble_eq_true rfl, Nat.le_of_ble_eq_true rfl⟩) | (exact ⟨rfl, rfl, rfl, Nat.le_of_ble_eq_true rfl, by first | rfl | omega | exact Nat.le_of_ble_eq_true rfl | (dsimp only; omega) | (simp; done) | (simp; omega), by first | rfl | omega | exact Nat.le_of_ble_eq_true rfl | (dsimp only; omega) | (simp; done) | (simp; omega), by omega, Nat.le_of_ble_eq_true rfl⟩) | exact Eq.refl true) ?_) | with_reducible refine ld (hla) ?_ | with_reducible refine ld (hld) ?_ | refine Exists.intro _ (And.intro rfl ?_) | refine And.intro (And.intro rfl (chk_rowI _ _ _ _)) ?_ | refine br_t (by omega) ?_ | refine br_f (by omega) ?_ | refine bs_t (by omega) ?_ | refine bs_f (by omega) ?_ | refine fun (K' : K3) hK' => ?_ | (refine hK' _ _ _ ?_; clear hK' K') | refine draw_auto tok mixed (by kernel_rfl) ?_ | refine bs_t hf0 ?_ | refine br_t hf0 ?_ | refine CallK.val (R := []) hap1 (by kernel_rfl) rfl (by simp [V.wf, A.wf, C.wf]) ⟨roE_f (flat_u _) (l := 0) rfl (by omega) rfl (.inl rfl), trivial⟩ rfl rfl trivial ?_ | refine CallK.val (R := []) hsz (by kernel_rfl) rfl (by simp [V.wf, A.wf, C.wf]) trivial rfl rfl trivial ?_ | refine bs_f ho ?_ | refine br_f ho ?_ | (refine And.intro (by rw [hand]; refine ⟨by omega, by omega, ?_⟩; (try dsimp only); simp only [mulS_eq, List.length_map, fnL_len]; omega) ?_) | refine bs_bt (Eq.refl true) ?_ | refine bs_bf (Eq.refl false) ?_ | refine br_bt (Eq.refl true) ?_ | refine br_bf (Eq.refl false) ?_ | refine CallK.m ?_ | refine Two.l ?_ | refine And.intro (And.intro rfl rfl) ?_)
              refine ⟨(f', acc - x), [], ⟨hands, by simp only; omega, by simp only; omega, by simp only; omega⟩, by simp only; omega, ?_⟩
              refine ⟨?_, ?_, rfl, rfl, by first | exact Nat.le_of_ble_eq_true rfl | exact Nat.le_refl _ | omega⟩
              · repeat (first | exact trivial | (refine And.intro (covS_syn (by first | rfl | exact congrArg (fun z => some (V.c (C.int .u64 z))) hde) rfl (by first | exact trivial | exact Nat.le_of_ble_eq_true rfl | exact hy | (first | ((show ∀ p ∈ (_ : List (Nat × Nat)), p.1 < _); decide) | exact (fun p hp => nomatch hp)) | (show (_ : Nat) < _; omega))) ?_) | refine And.intro (covS_bool rfl rfl (by rfl)) ?_)
              · repeat (first | exact trivial | (refine And.intro (covE_id (Nat.le_of_ble_eq_true rfl) (by first | exact wf_ints _ _ | exact wf_bools _ _ | first | exact wf_us _ _ | (simp [C.wf]; done) | simp [C.wf]) rfl (by first | rfl | exact hset _)) ?_))
        · obtain rfl : f = 0 := by omega
          have i2 : acc + 0 = LD t s := i2
          have hfe : fnL (outG t s acc) (M + 1) = fnL (outF t (s + 1)) (M + 1) := fnL_congr fun x _ => by
            unfold outG outF
            by_cases h : x < s
            · rw [if_pos h, if_pos (by omega)]
            · rw [if_neg h]
              by_cases h2 : x = s
              · subst h2; rw [if_pos rfl, if_pos (by omega)]; omega
              · rw [if_neg h2, if_neg (by omega)]
          rw [hfe]
          repeat ((conv => whnf); first | (refine And.intro (by first | omega | exact Nat.le_of_ble_eq_true rfl | (dsimp only [inK]; omega) | (simp only [mulS_eq]; omega) | (simp only [mulS_eq, setL_length]; omega) | (simp only [setL_length]; omega) | (simp only [setL_length, List.length_map]; omega) | (exact ⟨by omega, by omega, by first | exact Nat.le_of_ble_eq_true rfl | (dsimp only; omega) | (simp only [setL_length]; omega) | (simp only [setL_length, List.length_map]; omega)⟩) | (exact ⟨by omega, by first | rfl | omega, by omega, Nat.le_of_ble_eq_true rfl, Nat.le_of_ble_eq_true rfl⟩) | (exact ⟨rfl, rfl, rfl, Nat.le_of_ble_eq_true rfl, by first | rfl | omega | exact Nat.le_of_ble_eq_true rfl | (dsimp only; omega) | (simp; done) | (simp; omega), by first | rfl | omega | exact Nat.le_of_ble_eq_true rfl | (dsimp only; omega) | (simp; done) | (simp; omega), by omega, Nat.le_of_ble_eq_true rfl⟩) | exact Eq.refl true) ?_) | refine Exists.intro _ (And.intro rfl ?_) | refine And.intro (And.intro rfl (chk_rowI _ _ _ _)) ?_ | refine br_t (by omega) ?_ | refine br_f (by omega) ?_ | refine bs_t (by omega) ?_ | refine bs_f (by omega) ?_ | refine fun (K' : K3) hK' => ?_ | (refine hK' _ _ _ ?_; clear hK' K') | refine draw_auto tok mixed (by kernel_rfl) ?_ | refine bs_f hf0 ?_ | refine br_f hf0 ?_ | refine bs_bt (Eq.refl true) ?_ | refine bs_bf (Eq.refl false) ?_ | refine br_bt (Eq.refl true) ?_ | refine br_bf (Eq.refl false) ?_ | refine CallK.m ?_ | refine Two.l ?_ | refine And.intro (And.intro rfl rfl) ?_)
          refine ⟨s + 1, [], by omega, by omega, ?_⟩
          refine ⟨?_, ?_, rfl, rfl, by first | exact Nat.le_of_ble_eq_true rfl | exact Nat.le_refl _ | omega⟩
          · repeat (first | exact trivial | (refine And.intro (covS_syn (by rfl) rfl (by first | exact trivial | exact Nat.le_of_ble_eq_true rfl | exact hy | (first | ((show ∀ p ∈ (_ : List (Nat × Nat)), p.1 < _); decide) | exact (fun p hp => nomatch hp)) | (show (_ : Nat) < _; omega))) ?_) | refine And.intro (covS_bool rfl rfl (by rfl)) ?_)
          · repeat (first | exact trivial | (refine And.intro (covE_id (Nat.le_of_ble_eq_true rfl) (by first | exact wf_ints _ _ | exact wf_bools _ _ | first | exact wf_us _ _ | (simp [C.wf]; done) | simp [C.wf]) rfl (by rfl)) ?_))
    · obtain rfl : s = M + 1 := by omega
      have hrl : ((fnL (outF t (M + 1)) (M + 1)).map C.i).length = M + 1 := by rw [List.length_map, fnL_len]
      have hlm : ((fnL (outF t (M + 1)) (M + 1)).map C.i)[mulS ((M : Nat) : Int).toNat 1]? = some (C.i (LD t M)) := by
        rw [intLz rfl (by rw [fnL_len]; omega), fnL_get (by omega)]; unfold outF; rw [if_pos (by omega)]
      repeat ((conv => whnf); first | (refine And.intro (by first | omega | exact Nat.le_of_ble_eq_true rfl | (dsimp only [inK]; omega) | (simp only [mulS_eq]; omega) | (simp only [mulS_eq, setL_length]; omega) | (simp only [setL_length]; omega) | (simp only [setL_length, List.length_map]; omega) | (exact ⟨by omega, by omega, by first | exact Nat.le_of_ble_eq_true rfl | (dsimp only; omega) | (simp only [setL_length]; omega) | (simp only [setL_length, List.length_map]; omega)⟩) | (exact ⟨by omega, by first | rfl | omega, by omega, Nat.le_of_ble_eq_true rfl, Nat.le_of_ble_eq_true rfl⟩) | (exact ⟨rfl, rfl, rfl, Nat.le_of_ble_eq_true rfl, by first | rfl | omega | exact Nat.le_of_ble_eq_true rfl | (dsimp only; omega) | (simp; done) | (simp; omega), by first | rfl | omega | exact Nat.le_of_ble_eq_true rfl | (dsimp only; omega) | (simp; done) | (simp; omega), by omega, Nat.le_of_ble_eq_true rfl⟩) | exact Eq.refl true) ?_) | with_reducible refine ld (hlm) ?_ | refine Exists.intro _ (And.intro rfl ?_) | refine And.intro (And.intro rfl (chk_rowI _ _ _ _)) ?_ | refine br_t (by omega) ?_ | refine br_f (by omega) ?_ | refine bs_t (by omega) ?_ | refine bs_f (by omega) ?_ | refine fun (K' : K3) hK' => ?_ | (refine hK' _ _ _ ?_; clear hK' K') | refine draw_auto tok mixed (by kernel_rfl) ?_ | refine CallK.val (R := []) hev (by kernel_rfl) rfl (by simp [V.wf, A.wf, C.wf]) trivial rfl rfl trivial ?_ | refine bs_f hlt ?_ | refine br_f hlt ?_ | refine bs_bt (Eq.refl true) ?_ | refine bs_bf (Eq.refl false) ?_ | refine br_bt (Eq.refl true) ?_ | refine br_bf (Eq.refl false) ?_ | refine CallK.m ?_ | refine Two.l ?_ | refine And.intro (And.intro rfl rfl) ?_)
      intro ρ; rfl
end Go.Proofs.YtijnimgmpocmaaaDoor

/- Waste, plain: the program's orders of loading are the polynomial's value at -1, but for the sign. -/
namespace Go.Proofs.YtijnimgmpocmaaaDoor
open Go.RowKit
set_option linter.unusedVariables false
set_option linter.unusedSimpArgs false
def spl : List Nat → List (List Nat × List Nat)
  | [] => [([], [])]
  | a :: r => (spl r).map (fun p => (p.1, a :: p.2)) ++ (spl r).map (fun p => (a :: p.1, p.2))
def okH (cl : Nat → Nat → Bool) : List Nat → List Nat → Bool
  | [], _ => true
  | a :: q, h => apt cl a h && okH cl q (a :: h)
def subM : List Nat → List Nat
  | [] => [0]
  | a :: r => subM r ++ (subM r).map fun f => f ||| 2 ^ a
theorem bitsL_nodup (s : Nat) : (bitsL s).Nodup := List.nodup_range.filter _
end Go.Proofs.YtijnimgmpocmaaaDoor

/- Waste: Loadings, IsLoading. -/
namespace Go.Proofs.YtijnimgmpocmaaaDoor
open Go.RowKit
set_option linter.unusedVariables false
set_option linter.unusedSimpArgs false
@[reducible] def kW (N : Int) (ps : List Cell) : V := V.agg [C.i N, C.sl 0 ps.length]
set_option maxRecDepth 10000 in
set_option maxHeartbeats 4000000 in
theorem Loadings_no (N : Int) (ps : List Cell) (hl : ps.length ≤ 100) (hv : okK' N ps = false) : Spec Tryd.prog 26 [kW N ps] [⟨0, .ro 2, cellC ps⟩] 1 (Is (V.tup [A.c (C.i 0), A.c (C.i 70)])) := by
  have hsp := newTable_no N ps hl hv
  refine Spec.of tok Tryd.func26 rfl rfl rfl fun n0 cx => vc_ok tok ?_
  repeat ((conv => whnf); first | (refine And.intro (by first | omega | exact Nat.le_of_ble_eq_true rfl | (dsimp only [inK]; omega) | (simp only [mulS_eq]; omega) | (simp only [mulS_eq, setL_length]; omega) | (simp only [setL_length]; omega) | (simp only [setL_length, List.length_map]; omega) | (exact ⟨by omega, by omega, by first | exact Nat.le_of_ble_eq_true rfl | (dsimp only; omega) | (simp only [setL_length]; omega) | (simp only [setL_length, List.length_map]; omega)⟩) | (exact ⟨by omega, by first | rfl | omega, by omega, Nat.le_of_ble_eq_true rfl, Nat.le_of_ble_eq_true rfl⟩) | (exact ⟨rfl, rfl, rfl, Nat.le_of_ble_eq_true rfl, by first | rfl | omega | exact Nat.le_of_ble_eq_true rfl | (dsimp only; omega) | (simp; done) | (simp; omega), by first | rfl | omega | exact Nat.le_of_ble_eq_true rfl | (dsimp only; omega) | (simp; done) | (simp; omega), by omega, Nat.le_of_ble_eq_true rfl⟩) | exact Eq.refl true) ?_) | refine Exists.intro _ (And.intro rfl ?_) | refine And.intro (And.intro rfl (chk_rowI _ _ _ _)) ?_ | refine br_t (by omega) ?_ | refine br_f (by omega) ?_ | refine bs_t (by omega) ?_ | refine bs_f (by omega) ?_ | refine fun (K' : K3) hK' => ?_ | (refine hK' _ _ _ ?_; clear hK' K') | refine draw_auto tok mixed (by kernel_rfl) ?_ | refine CallK.val (R := []) hsp (by kernel_rfl) rfl (by simp [V.wf, A.wf, C.wf]) ⟨roE_f (flat_c _) (l := 0) rfl (by omega) rfl (.inr rfl), trivial⟩ rfl rfl (by simp [V.wf, A.wf, C.wf]) ?_ | refine bs_bt (Eq.refl true) ?_ | refine bs_bf (Eq.refl false) ?_ | refine br_bt (Eq.refl true) ?_ | refine br_bf (Eq.refl false) ?_ | refine CallK.m ?_ | refine Two.l ?_ | refine And.intro (And.intro rfl rfl) ?_)
  intro ρ; rfl
set_option maxRecDepth 10000 in
set_option maxHeartbeats 4000000 in
theorem Loadings_spec (n : Nat) (qs : List (Nat × Nat)) (hk : Knd n qs) : Spec Tryd.prog 26 [kW n (castP qs)] [⟨0, .ro 2, cellC (castP qs)⟩] 1 (Is (V.tup [A.c (C.i (LD (tabS n qs) (2 ^ n - 1))), A.c (C.i 0)])) := by
  have hnt := newTable_spec n qs hk
  have htl := tabS_len n qs
  have hlo := loadings_spec (tabS n qs) n htl hk.rng.2 (tabS_256 hk)
  refine Spec.of tok Tryd.func26 rfl rfl rfl fun n0 cx => vc_ok tok ?_
  repeat ((conv => whnf); first | (refine And.intro (by first | omega | exact Nat.le_of_ble_eq_true rfl | (dsimp only [inK]; omega) | (simp only [mulS_eq]; omega) | (simp only [mulS_eq, setL_length]; omega) | (simp only [setL_length]; omega) | (simp only [setL_length, List.length_map]; omega) | (exact ⟨by omega, by omega, by first | exact Nat.le_of_ble_eq_true rfl | (dsimp only; omega) | (simp only [setL_length]; omega) | (simp only [setL_length, List.length_map]; omega)⟩) | (exact ⟨by omega, by first | rfl | omega, by omega, Nat.le_of_ble_eq_true rfl, Nat.le_of_ble_eq_true rfl⟩) | (exact ⟨rfl, rfl, rfl, Nat.le_of_ble_eq_true rfl, by first | rfl | omega | exact Nat.le_of_ble_eq_true rfl | (dsimp only; omega) | (simp; done) | (simp; omega), by first | rfl | omega | exact Nat.le_of_ble_eq_true rfl | (dsimp only; omega) | (simp; done) | (simp; omega), by omega, Nat.le_of_ble_eq_true rfl⟩) | exact Eq.refl true) ?_) | refine Exists.intro _ (And.intro rfl ?_) | refine And.intro (And.intro rfl (chk_rowI _ _ _ _)) ?_ | refine br_t (by omega) ?_ | refine br_f (by omega) ?_ | refine bs_t (by omega) ?_ | refine bs_f (by omega) ?_ | refine fun (K' : K3) hK' => ?_ | (refine hK' _ _ _ ?_; clear hK' K') | refine draw_auto tok mixed (by kernel_rfl) ?_ | refine CallK.rowE (R := []) (flat_u _) hnt (by kernel_rfl) rfl (by simp [V.wf, A.wf, C.wf]) ⟨roE_f (flat_c _) (l := 0) rfl (by omega) rfl (.inr rfl), trivial⟩ rfl ?_ | refine CallK.val (R := [(0, some 2)]) hlo (by kernel_rfl) rfl (by simp [V.wf, A.wf, C.wf]) ⟨roE_f (flat_u _) (l := 2) rfl (by omega) rfl (.inl rfl), trivial⟩ rfl rfl trivial ?_ | refine bs_bt (Eq.refl true) ?_ | refine bs_bf (Eq.refl false) ?_ | refine br_bt (Eq.refl true) ?_ | refine br_bf (Eq.refl false) ?_ | refine CallK.m ?_ | refine Two.l ?_ | refine And.intro (And.intro rfl rfl) ?_)
  intro ρ; rfl
/-- Who is loaded before whom. -/
def fst1 (t : List Nat) (p : Nat × Nat) (b : Bool) : List Nat := if b = true then t.set p.2 (t.getD p.2 0 ||| 2 ^ p.1) else t.set p.1 (t.getD p.1 0 ||| 2 ^ p.2)
def fstK (n : Nat) (qs : List (Nat × Nat)) (bs : List Bool) : Nat → List Nat
  | 0 => List.replicate n 0
  | k + 1 => fst1 (fstK n qs bs k) (qs.getD k (0, 0)) (bs.getD k false)
theorem fst1_len (t : List Nat) (p : Nat × Nat) (b : Bool) : (fst1 t p b).length = t.length := by unfold fst1; split <;> simp
theorem fstK_len (n : Nat) (qs : List (Nat × Nat)) (bs : List Bool) : ∀ k, (fstK n qs bs k).length = n
  | 0 => by simp [fstK]
  | k + 1 => by simp only [fstK]; rw [fst1_len, fstK_len n qs bs k]
theorem fstK_lt {n : Nat} {qs : List (Nat × Nat)} (hk : Knd n qs) (bs : List Bool) : ∀ k, k ≤ qs.length → ∀ x ∈ fstK n qs bs k, x < 256
  | 0, _, x, hx => by simp only [fstK] at hx; rw [List.eq_of_mem_replicate hx]; omega
  | k + 1, hkk, x, hx => by
    have hp := hk.ok _ (getD_mem (show k < qs.length by omega))
    have hn := hk.rng
    have ih := fstK_lt hk bs k (by omega)
    simp only [fstK, fst1] at hx
    split at hx
    · rcases List.mem_or_eq_of_mem_set hx with h | rfl
      · exact ih x h
      · exact or_256 (getD_lt (by omega) ih _) (pow_256 (by omega))
    · rcases List.mem_or_eq_of_mem_set hx with h | rfl
      · exact ih x h
      · exact or_256 (getD_lt (by omega) ih _) (pow_256 (by omega))
def ldA (t : List Nat) (L : Nat) : Nat → Nat
  | 0 => L
  | a + 1 => if dif (t.getD a 0) (ldA t L a) = 0 then ldA t L a ||| 2 ^ a else ldA t L a
def ldR (t : List Nat) (n : Nat) : Nat → Nat
  | 0 => 0
  | k + 1 => ldA t (ldR t n k) n
theorem ldA_256 {t : List Nat} {L : Nat} (hL : L < 256) : ∀ a, a ≤ 8 → ldA t L a < 256
  | 0, _ => hL
  | a + 1, h => by
    have := ldA_256 (t := t) hL a (by omega)
    simp only [ldA]
    split
    · exact or_256 this (pow_256 (by omega))
    · exact this
theorem ldR_256 (t : List Nat) {n : Nat} (hn : n ≤ 8) : ∀ k, ldR t n k < 256
  | 0 => by simp [ldR]
  | k + 1 => ldA_256 (ldR_256 t hn k) n hn
def isLd (n : Nat) (qs : List (Nat × Nat)) (bs : List Bool) : Bool := decide ((((bitsL (ldR (fstK n qs bs qs.length) n n)).length : Nat) : Int) = n)
section
set_option maxRecDepth 10000 in
set_option maxHeartbeats 4000000 in
theorem isLoading_err (N : Int) (ps : List Cell) (bs : List Bool) (Er : Int) (hl : ps.length ≤ 100) (hbs : bs.length < 9223372036854775808) (he : (okK' N ps = false ∧ Er = 70) ∨ (okK' N ps = true ∧ ¬ bs.length = ps.length ∧ Er = 2)) :
    Spec Tryd.prog 33 [kW N ps, V.c (.sl 1 bs.length)] [⟨0, .ro 2, cellC ps⟩, ⟨1, .ro 0, bs.map C.bool⟩] 2 (Is (V.tup [A.c .ff, A.c (C.i Er)])) := by
  have hva := valid_spec N ps hl
  refine Spec.of tok Tryd.func33 rfl rfl rfl fun n0 cx => vc_ok tok ?_
  rcases he with ⟨hv, rfl⟩ | ⟨hv, hne, rfl⟩
  · rw [hv] at hva
    repeat ((conv => whnf); first | (refine And.intro (by first | omega | exact Nat.le_of_ble_eq_true rfl | (dsimp only [inK]; omega) | (simp only [mulS_eq]; omega) | (simp only [mulS_eq, setL_length]; omega) | (simp only [setL_length]; omega) | (simp only [setL_length, List.length_map]; omega) | (exact ⟨by omega, by omega, by first | exact Nat.le_of_ble_eq_true rfl | (dsimp only; omega) | (simp only [setL_length]; omega) | (simp only [setL_length, List.length_map]; omega)⟩) | (exact ⟨by omega, by first | rfl | omega, by omega, Nat.le_of_ble_eq_true rfl, Nat.le_of_ble_eq_true rfl⟩) | (exact ⟨rfl, rfl, rfl, Nat.le_of_ble_eq_true rfl, by first | rfl | omega | exact Nat.le_of_ble_eq_true rfl | (dsimp only; omega) | (simp; done) | (simp; omega), by first | rfl | omega | exact Nat.le_of_ble_eq_true rfl | (dsimp only; omega) | (simp; done) | (simp; omega), by omega, Nat.le_of_ble_eq_true rfl⟩) | exact Eq.refl true) ?_) | refine Exists.intro _ (And.intro rfl ?_) | refine And.intro (And.intro rfl (chk_rowI _ _ _ _)) ?_ | refine br_t (by omega) ?_ | refine br_f (by omega) ?_ | refine bs_t (by omega) ?_ | refine bs_f (by omega) ?_ | refine fun (K' : K3) hK' => ?_ | (refine hK' _ _ _ ?_; clear hK' K') | refine draw_auto tok mixed (by kernel_rfl) ?_ | refine CallK.val (R := []) hva (by kernel_rfl) rfl (by simp [V.wf, A.wf, C.wf]) ⟨roE_f (flat_c _) (l := 0) rfl (by omega) rfl (.inr rfl), trivial⟩ rfl rfl trivial ?_ | refine bs_bt (Eq.refl true) ?_ | refine bs_bf (Eq.refl false) ?_ | refine br_bt (Eq.refl true) ?_ | refine br_bf (Eq.refl false) ?_ | refine CallK.m ?_ | refine Two.l ?_ | refine And.intro (And.intro rfl rfl) ?_)
    intro ρ; rfl
  · rw [hv] at hva
    have hne : (bs.length : Int) ≠ (ps.length : Int) := by omega
    repeat ((conv => whnf); first | (refine And.intro (by first | omega | exact Nat.le_of_ble_eq_true rfl | (dsimp only [inK]; omega) | (simp only [mulS_eq]; omega) | (simp only [mulS_eq, setL_length]; omega) | (simp only [setL_length]; omega) | (simp only [setL_length, List.length_map]; omega) | (exact ⟨by omega, by omega, by first | exact Nat.le_of_ble_eq_true rfl | (dsimp only; omega) | (simp only [setL_length]; omega) | (simp only [setL_length, List.length_map]; omega)⟩) | (exact ⟨by omega, by first | rfl | omega, by omega, Nat.le_of_ble_eq_true rfl, Nat.le_of_ble_eq_true rfl⟩) | (exact ⟨rfl, rfl, rfl, Nat.le_of_ble_eq_true rfl, by first | rfl | omega | exact Nat.le_of_ble_eq_true rfl | (dsimp only; omega) | (simp; done) | (simp; omega), by first | rfl | omega | exact Nat.le_of_ble_eq_true rfl | (dsimp only; omega) | (simp; done) | (simp; omega), by omega, Nat.le_of_ble_eq_true rfl⟩) | exact Eq.refl true) ?_) | refine Exists.intro _ (And.intro rfl ?_) | refine And.intro (And.intro rfl (chk_rowI _ _ _ _)) ?_ | refine br_t (by omega) ?_ | refine br_f (by omega) ?_ | refine bs_t (by omega) ?_ | refine bs_f (by omega) ?_ | refine fun (K' : K3) hK' => ?_ | (refine hK' _ _ _ ?_; clear hK' K') | refine draw_auto tok mixed (by kernel_rfl) ?_ | refine CallK.val (R := []) hva (by kernel_rfl) rfl (by simp [V.wf, A.wf, C.wf]) ⟨roE_f (flat_c _) (l := 0) rfl (by omega) rfl (.inr rfl), trivial⟩ rfl rfl trivial ?_ | refine bs_t hne ?_ | refine br_t hne ?_ | refine bs_bt (Eq.refl true) ?_ | refine bs_bf (Eq.refl false) ?_ | refine br_bt (Eq.refl true) ?_ | refine br_bf (Eq.refl false) ?_ | refine CallK.m ?_ | refine Two.l ?_ | refine And.intro (And.intro rfl rfl) ?_)
    intro ρ; rfl
end
set_option maxRecDepth 10000 in
set_option maxHeartbeats 8000000 in
theorem isLoading_spec (n : Nat) (qs : List (Nat × Nat)) (hk : Knd n qs) (bs : List Bool) (hbl : bs.length = qs.length) :
    Spec Tryd.prog 33 [kW n (castP qs), V.c (.sl 1 bs.length)] [⟨0, .ro 2, cellC (castP qs)⟩, ⟨1, .ro 0, bs.map C.bool⟩] 2 (Is (V.tup [A.c (.bool (isLd n qs bs)), A.c (C.i 0)])) := by
  have hcl := cellC_len (castP qs)
  have hn := hk.rng
  have hql := knd_len hk
  have hpl := castP_len qs
  have hva := valid_spec n (castP qs) (by omega)
  rw [knd_ok hk] at hva
  have hrep := repU n
  have hbm : (bs.map C.bool).length = bs.length := List.length_map _
  have hle : ¬ (bs.length : Int) ≠ ((castP qs).length : Int) := by omega
  refine Spec.of tok Tryd.func33 rfl rfl rfl fun n0 cx => vc_ok tok ?_
  repeat ((conv => whnf); first | (refine And.intro (by first | omega | exact Nat.le_of_ble_eq_true rfl | (dsimp only [inK]; omega) | (simp only [mulS_eq]; omega) | (simp only [mulS_eq, setL_length]; omega) | (simp only [setL_length]; omega) | (simp only [setL_length, List.length_map]; omega) | (exact ⟨by omega, by omega, by first | exact Nat.le_of_ble_eq_true rfl | (dsimp only; omega) | (simp only [setL_length]; omega) | (simp only [setL_length, List.length_map]; omega)⟩) | (exact ⟨by omega, by first | rfl | omega, by omega, Nat.le_of_ble_eq_true rfl, Nat.le_of_ble_eq_true rfl⟩) | (exact ⟨rfl, rfl, rfl, Nat.le_of_ble_eq_true rfl, by first | rfl | omega | exact Nat.le_of_ble_eq_true rfl | (dsimp only; omega) | (simp; done) | (simp; omega), by first | rfl | omega | exact Nat.le_of_ble_eq_true rfl | (dsimp only; omega) | (simp; done) | (simp; omega), by omega, Nat.le_of_ble_eq_true rfl⟩) | exact Eq.refl true) ?_) | refine Exists.intro _ (And.intro rfl ?_) | refine And.intro (And.intro rfl (chk_rowI _ _ _ _)) ?_ | refine br_t (by omega) ?_ | refine br_f (by omega) ?_ | refine bs_t (by omega) ?_ | refine bs_f (by omega) ?_ | refine fun (K' : K3) hK' => ?_ | (refine hK' _ _ _ ?_; clear hK' K') | refine draw_auto tok mixed (by kernel_rfl) ?_ | refine CallK.val (R := []) hva (by kernel_rfl) rfl (by simp [V.wf, A.wf, C.wf]) ⟨roE_f (flat_c _) (l := 0) rfl (by omega) rfl (.inr rfl), trivial⟩ rfl rfl trivial ?_ | refine bs_f hle ?_ | refine br_f hle ?_ | refine bs_bt (Eq.refl true) ?_ | refine bs_bf (Eq.refl false) ?_ | refine br_bt (Eq.refl true) ?_ | refine br_bf (Eq.refl false) ?_ | refine CallK.m ?_ | refine Two.l ?_ | refine And.intro (And.intro rfl rfl) ?_)
  refine Tri.loop (γ := Nat) (fun k => k ≤ qs.length) (fun k => [(1, V.c (.sl 1 bs.length)), (2, V.c (.ptr 2 0)), (4, V.c .ff), (5, V.i 0), (6, V.c (.sl 3 n)), (27, V.c (.sl 0 (castP qs).length)), (28, V.i (castP qs).length), (29, V.i (k : Nat))])
    (fun k => [⟨3, .vec 75 1, (fstK n qs bs k).map C.u⟩, ⟨2, .own 24, [C.i n, .sl 0 (castP qs).length]⟩, ⟨0, .ro 2, cellC (castP qs)⟩, ⟨1, .ro 0, bs.map C.bool⟩]) 4 (fun k => qs.length - k) 0 (R0 := []) ?_ ?_ ?_
  · omega
  · skip
    refine ⟨?_, ?_, rfl, rfl, by first | exact Nat.le_of_ble_eq_true rfl | exact Nat.le_refl _ | omega⟩
    · repeat (first | exact trivial | (refine And.intro (covS_syn (by rfl) rfl (by first | exact trivial | exact Nat.le_of_ble_eq_true rfl | exact hy | (first | ((show ∀ p ∈ (_ : List (Nat × Nat)), p.1 < _); decide) | exact (fun p hp => nomatch hp)) | (show (_ : Nat) < _; omega))) ?_) | refine And.intro (covS_bool rfl rfl (by rfl)) ?_)
    · repeat (first | exact trivial | (refine And.intro (covE_id (Nat.le_of_ble_eq_true rfl) (by first | exact wf_ints _ _ | exact wf_bools _ _ | first | exact wf_us _ _ | exact wf_cells _ _ | exact wf_bools _ _ | (simp [C.wf]; done) | simp [C.wf]) rfl (by first | rfl | exact hrep)) ?_))
  · intro k hkl
    refine vc_ok tok ?_
    by_cases hlt : k < qs.length
    · have hld := cellT (l := castP qs) (k := k) rfl (by omega)
      change takeC (cellC (castP qs)) (mulS ((k : Nat) : Int).toNat 2) 2 = some [C.i ((castP qs).getD k cz).1, C.i ((castP qs).getD k cz).2] at hld
      rw [castP_get hlt] at hld
      have hpq := hk.ok _ (getD_mem hlt)
      have htl := fstK_len n qs bs k
      have htb := fstK_lt hk bs k hkl
      have hsucc : fstK n qs bs (k + 1) = fst1 (fstK n qs bs k) (qs.getD k (0, 0)) (bs.getD k false) := rfl
      have hlb : (bs.map C.bool)[mulS ((k : Nat) : Int).toNat 1]? = some (C.bool (bs.getD k false)) := boolL (by omega)
      obtain ⟨p, hp⟩ : ∃ p, p = qs.getD k (0, 0) := ⟨_, rfl⟩
      obtain ⟨t, ht⟩ : ∃ t, t = fstK n qs bs k := ⟨_, rfl⟩
      rw [← hp] at hld hsucc hpq
      rw [← ht] at hsucc htl htb ⊢
      obtain ⟨a, b⟩ := p
      simp only at hld hpq
      have hlm : (t.map C.u).length = n := by rw [List.length_map, htl]
      cases hb : bs.getD k false with
      | true =>
        rw [hb] at hsucc hlb
        have ha := getD_lt (by omega) htb b
        have hl1 : (t.map C.u)[mulS ((b : Nat) : Int).toNat 1]? = some (C.u (t.getD b 0)) := uLz rfl (by omega)
        have hw1 := with_spec (t.getD b 0) a ha (by omega)
        have hfin : setL (t.map C.u) (mulS ((b : Nat) : Int).toNat 1) [C.int .u64 ((t.getD b 0 ||| 2 ^ a : Nat) : Int)] = (fstK n qs bs (k + 1)).map C.u := by
          rw [setU rfl rfl, hsucc]; rfl
        repeat ((conv => whnf); first | (refine And.intro (by first | omega | exact Nat.le_of_ble_eq_true rfl | (dsimp only [inK]; omega) | (simp only [mulS_eq]; omega) | (simp only [mulS_eq, setL_length]; omega) | (simp only [setL_length]; omega) | (simp only [setL_length, List.length_map]; omega) | (exact ⟨by omega, by omega, by first | exact Nat.le_of_ble_eq_true rfl | (dsimp only; omega) | (simp only [setL_length]; omega) | (simp only [setL_length, List.length_map]; omega)⟩) | (exact ⟨by omega, by first | rfl | omega, by omega, Nat.le_of_ble_eq_true rfl, Nat.le_of_ble_eq_true rfl⟩) | (exact ⟨rfl, rfl, rfl, Nat.le_of_ble_eq_true rfl, by first | rfl | omega | exact Nat.le_of_ble_eq_true rfl | (dsimp only; omega) | (simp; done) | (simp; omega), by first | rfl | omega | exact Nat.le_of_ble_eq_true rfl | (dsimp only; omega) | (simp; done) | (simp; omega), by omega, Nat.le_of_ble_eq_true rfl⟩) | exact Eq.refl true) ?_) | with_reducible refine ld (hld) ?_ | with_reducible refine ld (hlb) ?_ | with_reducible refine ld (hl1) ?_ | refine Exists.intro _ (And.intro rfl ?_) | refine And.intro (And.intro rfl (chk_rowI _ _ _ _)) ?_ | refine br_t (by omega) ?_ | refine br_f (by omega) ?_ | refine bs_t (by omega) ?_ | refine bs_f (by omega) ?_ | refine fun (K' : K3) hK' => ?_ | (refine hK' _ _ _ ?_; clear hK' K') | refine draw_auto tok mixed (by kernel_rfl) ?_ | refine HD_mk (fun _ h => CallK.val (R := []) hw1 (by kernel_rfl) rfl (by simp [V.wf, A.wf, C.wf, V.i]) trivial rfl rfl trivial h) ?_ | refine bs_bt (Eq.refl true) ?_ | refine bs_bf (Eq.refl false) ?_ | refine br_bt (Eq.refl true) ?_ | refine br_bf (Eq.refl false) ?_ | refine CallK.m ?_ | refine Two.l ?_ | refine And.intro (And.intro rfl rfl) ?_)
        refine ⟨k + 1, [], by omega, by omega, ?_⟩
        refine ⟨?_, ?_, rfl, rfl, by first | exact Nat.le_of_ble_eq_true rfl | exact Nat.le_refl _ | omega⟩
        · repeat (first | exact trivial | (refine And.intro (covS_syn (by first | rfl | (refine congrArg some (congrArg V.i ?_); omega)) rfl (by first | exact trivial | exact Nat.le_of_ble_eq_true rfl | exact hy | (first | ((show ∀ p ∈ (_ : List (Nat × Nat)), p.1 < _); decide) | exact (fun p hp => nomatch hp)) | (show (_ : Nat) < _; omega))) ?_) | refine And.intro (covS_bool rfl rfl (by rfl)) ?_)
        · repeat (first | exact trivial | (refine And.intro (covE_id (Nat.le_of_ble_eq_true rfl) (by first | exact wf_ints _ _ | exact wf_bools _ _ | first | exact wf_us _ _ | exact wf_cells _ _ | exact wf_bools _ _ | (simp [C.wf]; done) | simp [C.wf]) rfl (by first | rfl | exact hfin)) ?_))
      | false =>
        rw [hb] at hsucc hlb
        have ha := getD_lt (by omega) htb a
        have hl1 : (t.map C.u)[mulS ((a : Nat) : Int).toNat 1]? = some (C.u (t.getD a 0)) := uLz rfl (by omega)
        have hw1 := with_spec (t.getD a 0) b ha (by omega)
        have hfin : setL (t.map C.u) (mulS ((a : Nat) : Int).toNat 1) [C.int .u64 ((t.getD a 0 ||| 2 ^ b : Nat) : Int)] = (fstK n qs bs (k + 1)).map C.u := by
          rw [setU rfl rfl, hsucc]; rfl
        repeat ((conv => whnf); first | (refine And.intro (by first | omega | exact Nat.le_of_ble_eq_true rfl | (dsimp only [inK]; omega) | (simp only [mulS_eq]; omega) | (simp only [mulS_eq, setL_length]; omega) | (simp only [setL_length]; omega) | (simp only [setL_length, List.length_map]; omega) | (exact ⟨by omega, by omega, by first | exact Nat.le_of_ble_eq_true rfl | (dsimp only; omega) | (simp only [setL_length]; omega) | (simp only [setL_length, List.length_map]; omega)⟩) | (exact ⟨by omega, by first | rfl | omega, by omega, Nat.le_of_ble_eq_true rfl, Nat.le_of_ble_eq_true rfl⟩) | (exact ⟨rfl, rfl, rfl, Nat.le_of_ble_eq_true rfl, by first | rfl | omega | exact Nat.le_of_ble_eq_true rfl | (dsimp only; omega) | (simp; done) | (simp; omega), by first | rfl | omega | exact Nat.le_of_ble_eq_true rfl | (dsimp only; omega) | (simp; done) | (simp; omega), by omega, Nat.le_of_ble_eq_true rfl⟩) | exact Eq.refl true) ?_) | with_reducible refine ld (hld) ?_ | with_reducible refine ld (hlb) ?_ | with_reducible refine ld (hl1) ?_ | refine Exists.intro _ (And.intro rfl ?_) | refine And.intro (And.intro rfl (chk_rowI _ _ _ _)) ?_ | refine br_t (by omega) ?_ | refine br_f (by omega) ?_ | refine bs_t (by omega) ?_ | refine bs_f (by omega) ?_ | refine fun (K' : K3) hK' => ?_ | (refine hK' _ _ _ ?_; clear hK' K') | refine draw_auto tok mixed (by kernel_rfl) ?_ | refine HD_mk (fun _ h => CallK.val (R := []) hw1 (by kernel_rfl) rfl (by simp [V.wf, A.wf, C.wf, V.i]) trivial rfl rfl trivial h) ?_ | refine bs_bt (Eq.refl true) ?_ | refine bs_bf (Eq.refl false) ?_ | refine br_bt (Eq.refl true) ?_ | refine br_bf (Eq.refl false) ?_ | refine CallK.m ?_ | refine Two.l ?_ | refine And.intro (And.intro rfl rfl) ?_)
        refine ⟨k + 1, [], by omega, by omega, ?_⟩
        refine ⟨?_, ?_, rfl, rfl, by first | exact Nat.le_of_ble_eq_true rfl | exact Nat.le_refl _ | omega⟩
        · repeat (first | exact trivial | (refine And.intro (covS_syn (by first | rfl | (refine congrArg some (congrArg V.i ?_); omega)) rfl (by first | exact trivial | exact Nat.le_of_ble_eq_true rfl | exact hy | (first | ((show ∀ p ∈ (_ : List (Nat × Nat)), p.1 < _); decide) | exact (fun p hp => nomatch hp)) | (show (_ : Nat) < _; omega))) ?_) | refine And.intro (covS_bool rfl rfl (by rfl)) ?_)
        · repeat (first | exact trivial | (refine And.intro (covE_id (Nat.le_of_ble_eq_true rfl) (by first | exact wf_ints _ _ | exact wf_bools _ _ | first | exact wf_us _ _ | exact wf_cells _ _ | exact wf_bools _ _ | (simp [C.wf]; done) | simp [C.wf]) rfl (by first | rfl | exact hfin)) ?_))
    · obtain rfl : k = qs.length := by omega
      have htl := fstK_len n qs bs qs.length
      have htb := fstK_lt hk bs qs.length (Nat.le_refl _)
      have hres : isLd n qs bs = decide ((((bitsL (ldR (fstK n qs bs qs.length) n n)).length : Nat) : Int) = n) := rfl
      obtain ⟨t, ht⟩ : ∃ t, t = fstK n qs bs qs.length := ⟨_, rfl⟩
      rw [← ht] at htl htb hres ⊢
      have hlm : (t.map C.u).length = n := by rw [List.length_map, htl]
      repeat ((conv => whnf); first | (refine And.intro (by first | omega | exact Nat.le_of_ble_eq_true rfl | (dsimp only [inK]; omega) | (simp only [mulS_eq]; omega) | (simp only [mulS_eq, setL_length]; omega) | (simp only [setL_length]; omega) | (simp only [setL_length, List.length_map]; omega) | (exact ⟨by omega, by omega, by first | exact Nat.le_of_ble_eq_true rfl | (dsimp only; omega) | (simp only [setL_length]; omega) | (simp only [setL_length, List.length_map]; omega)⟩) | (exact ⟨by omega, by first | rfl | omega, by omega, Nat.le_of_ble_eq_true rfl, Nat.le_of_ble_eq_true rfl⟩) | (exact ⟨rfl, rfl, rfl, Nat.le_of_ble_eq_true rfl, by first | rfl | omega | exact Nat.le_of_ble_eq_true rfl | (dsimp only; omega) | (simp; done) | (simp; omega), by first | rfl | omega | exact Nat.le_of_ble_eq_true rfl | (dsimp only; omega) | (simp; done) | (simp; omega), by omega, Nat.le_of_ble_eq_true rfl⟩) | exact Eq.refl true) ?_) | refine Exists.intro _ (And.intro rfl ?_) | refine And.intro (And.intro rfl (chk_rowI _ _ _ _)) ?_ | refine br_t (by omega) ?_ | refine br_f (by omega) ?_ | refine bs_t (by omega) ?_ | refine bs_f (by omega) ?_ | refine fun (K' : K3) hK' => ?_ | (refine hK' _ _ _ ?_; clear hK' K') | refine draw_auto tok mixed (by kernel_rfl) ?_ | refine bs_bt (Eq.refl true) ?_ | refine bs_bf (Eq.refl false) ?_ | refine br_bt (Eq.refl true) ?_ | refine br_bf (Eq.refl false) ?_ | refine CallK.m ?_ | refine Two.l ?_ | refine And.intro (And.intro rfl rfl) ?_)
      refine Tri.loop (γ := Nat) (fun i => i ≤ n) (fun i => [(2, V.c (.ptr 2 0)), (6, V.c (.sl 3 n)), (9, V.u (ldR t n i)), (64, V.i n), (65, V.i (i : Nat))])
        (fun i => [⟨3, .vec 75 1, t.map C.u⟩, ⟨2, .own 24, [C.i n, .sl 0 (castP qs).length]⟩, ⟨0, .ro 2, cellC (castP qs)⟩, ⟨1, .ro 0, bs.map C.bool⟩]) 4 (fun i => n - i) 0 (R0 := []) ?_ ?_ ?_
      · omega
      · skip
        refine ⟨?_, ?_, rfl, rfl, by first | exact Nat.le_of_ble_eq_true rfl | exact Nat.le_refl _ | omega⟩
        · repeat (first | exact trivial | (refine And.intro (covS_syn (by rfl) rfl (by first | exact trivial | exact Nat.le_of_ble_eq_true rfl | exact hy | (first | ((show ∀ p ∈ (_ : List (Nat × Nat)), p.1 < _); decide) | exact (fun p hp => nomatch hp)) | (show (_ : Nat) < _; omega))) ?_) | refine And.intro (covS_bool rfl rfl (by rfl)) ?_)
        · repeat (first | exact trivial | (refine And.intro (covE_id (Nat.le_of_ble_eq_true rfl) (by first | exact wf_ints _ _ | exact wf_bools _ _ | first | exact wf_us _ _ | exact wf_cells _ _ | exact wf_bools _ _ | (simp [C.wf]; done) | simp [C.wf]) rfl (by rfl)) ?_))
      · intro i hi
        refine vc_ok tok ?_
        by_cases hin : i < n
        · have hL := ldR_256 t hn.2 i
          have hRs : ldR t n (i + 1) = ldA t (ldR t n i) n := rfl
          obtain ⟨L, hLL⟩ : ∃ L, L = ldR t n i := ⟨_, rfl⟩
          rw [← hLL] at hL hRs ⊢
          repeat ((conv => whnf); first | (refine And.intro (by first | omega | exact Nat.le_of_ble_eq_true rfl | (dsimp only [inK]; omega) | (simp only [mulS_eq]; omega) | (simp only [mulS_eq, setL_length]; omega) | (simp only [setL_length]; omega) | (simp only [setL_length, List.length_map]; omega) | (exact ⟨by omega, by omega, by first | exact Nat.le_of_ble_eq_true rfl | (dsimp only; omega) | (simp only [setL_length]; omega) | (simp only [setL_length, List.length_map]; omega)⟩) | (exact ⟨by omega, by first | rfl | omega, by omega, Nat.le_of_ble_eq_true rfl, Nat.le_of_ble_eq_true rfl⟩) | (exact ⟨rfl, rfl, rfl, Nat.le_of_ble_eq_true rfl, by first | rfl | omega | exact Nat.le_of_ble_eq_true rfl | (dsimp only; omega) | (simp; done) | (simp; omega), by first | rfl | omega | exact Nat.le_of_ble_eq_true rfl | (dsimp only; omega) | (simp; done) | (simp; omega), by omega, Nat.le_of_ble_eq_true rfl⟩) | exact Eq.refl true) ?_) | refine Exists.intro _ (And.intro rfl ?_) | refine And.intro (And.intro rfl (chk_rowI _ _ _ _)) ?_ | refine br_t (by omega) ?_ | refine br_f (by omega) ?_ | refine bs_t (by omega) ?_ | refine bs_f (by omega) ?_ | refine fun (K' : K3) hK' => ?_ | (refine hK' _ _ _ ?_; clear hK' K') | refine draw_auto tok mixed (by kernel_rfl) ?_ | refine bs_bt (Eq.refl true) ?_ | refine bs_bf (Eq.refl false) ?_ | refine br_bt (Eq.refl true) ?_ | refine br_bf (Eq.refl false) ?_ | refine CallK.m ?_ | refine Two.l ?_ | refine And.intro (And.intro rfl rfl) ?_)
          refine Tri.loop (γ := Nat) (fun a => a ≤ n) (fun a => [(2, V.c (.ptr 2 0)), (6, V.c (.sl 3 n)), (9, V.u (ldA t L a)), (64, V.i n), (65, V.i (i : Nat)), (67, V.c (.sl 3 n)), (68, V.i n), (69, V.i (a : Nat))])
            (fun a => [⟨3, .vec 75 1, t.map C.u⟩, ⟨2, .own 24, [C.i n, .sl 0 (castP qs).length]⟩, ⟨0, .ro 2, cellC (castP qs)⟩, ⟨1, .ro 0, bs.map C.bool⟩]) 4 (fun a => n - a) 0 (R0 := []) ?_ ?_ ?_
          · omega
          · skip
            refine ⟨?_, ?_, rfl, rfl, by first | exact Nat.le_of_ble_eq_true rfl | exact Nat.le_refl _ | omega⟩
            · repeat (first | exact trivial | (refine And.intro (covS_syn (by rfl) rfl (by first | exact trivial | exact Nat.le_of_ble_eq_true rfl | exact hy | (first | ((show ∀ p ∈ (_ : List (Nat × Nat)), p.1 < _); decide) | exact (fun p hp => nomatch hp)) | (show (_ : Nat) < _; omega))) ?_) | refine And.intro (covS_bool rfl rfl (by rfl)) ?_)
            · repeat (first | exact trivial | (refine And.intro (covE_id (Nat.le_of_ble_eq_true rfl) (by first | exact wf_ints _ _ | exact wf_bools _ _ | first | exact wf_us _ _ | exact wf_cells _ _ | exact wf_bools _ _ | (simp [C.wf]; done) | simp [C.wf]) rfl (by rfl)) ?_))
          · intro a ha
            refine vc_ok tok ?_
            by_cases han : a < n
            · have hla : (t.map C.u)[mulS ((a : Nat) : Int).toNat 1]? = some (C.u (t.getD a 0)) := uLz rfl (by omega)
              have hta := getD_lt (by omega) htb a
              have hA := ldA_256 (t := t) hL a (by omega)
              have hAs : ldA t L (a + 1) = if dif (t.getD a 0) (ldA t L a) = 0 then ldA t L a ||| 2 ^ a else ldA t L a := rfl
              obtain ⟨A0, hA0⟩ : ∃ A0, A0 = ldA t L a := ⟨_, rfl⟩
              rw [← hA0] at hA hAs ⊢
              have hand := bit_andNot (x := t.getD a 0) (y := A0) (by omega) (by omega)
              have hw := with_spec A0 a hA (by omega)
              by_cases hz : bitI .andNot .u64 ((t.getD a 0 : Nat) : Int) (A0 : Int) = 0
              · have hst : ldA t L (a + 1) = A0 ||| 2 ^ a := by rw [hAs, if_pos (by rw [hand] at hz; omega)]
                repeat ((conv => whnf); first | (refine And.intro (by first | omega | exact Nat.le_of_ble_eq_true rfl | (dsimp only [inK]; omega) | (simp only [mulS_eq]; omega) | (simp only [mulS_eq, setL_length]; omega) | (simp only [setL_length]; omega) | (simp only [setL_length, List.length_map]; omega) | (exact ⟨by omega, by omega, by first | exact Nat.le_of_ble_eq_true rfl | (dsimp only; omega) | (simp only [setL_length]; omega) | (simp only [setL_length, List.length_map]; omega)⟩) | (exact ⟨by omega, by first | rfl | omega, by omega, Nat.le_of_ble_eq_true rfl, Nat.le_of_ble_eq_true rfl⟩) | (exact ⟨rfl, rfl, rfl, Nat.le_of_ble_eq_true rfl, by first | rfl | omega | exact Nat.le_of_ble_eq_true rfl | (dsimp only; omega) | (simp; done) | (simp; omega), by first | rfl | omega | exact Nat.le_of_ble_eq_true rfl | (dsimp only; omega) | (simp; done) | (simp; omega), by omega, Nat.le_of_ble_eq_true rfl⟩) | exact Eq.refl true) ?_) | with_reducible refine ld (hla) ?_ | refine Exists.intro _ (And.intro rfl ?_) | refine And.intro (And.intro rfl (chk_rowI _ _ _ _)) ?_ | refine br_t (by omega) ?_ | refine br_f (by omega) ?_ | refine bs_t (by omega) ?_ | refine bs_f (by omega) ?_ | refine fun (K' : K3) hK' => ?_ | (refine hK' _ _ _ ?_; clear hK' K') | refine draw_auto tok mixed (by kernel_rfl) ?_ | refine bs_t hz ?_ | refine br_t hz ?_ | refine CallK.val (R := []) hw (by kernel_rfl) rfl (by simp [V.wf, A.wf, C.wf, V.i]) trivial rfl rfl trivial ?_ | refine bs_bt (Eq.refl true) ?_ | refine bs_bf (Eq.refl false) ?_ | refine br_bt (Eq.refl true) ?_ | refine br_bf (Eq.refl false) ?_ | refine CallK.m ?_ | refine Two.l ?_ | refine And.intro (And.intro rfl rfl) ?_)
                refine ⟨a + 1, [], by omega, by omega, ?_⟩
                refine ⟨?_, ?_, rfl, rfl, by first | exact Nat.le_of_ble_eq_true rfl | exact Nat.le_refl _ | omega⟩
                · repeat (first | exact trivial | (refine And.intro (covS_syn (by first | rfl | (refine congrArg some (congrArg V.i ?_); omega) | (rw [hst]; rfl)) rfl (by first | exact trivial | exact Nat.le_of_ble_eq_true rfl | exact hy | (first | ((show ∀ p ∈ (_ : List (Nat × Nat)), p.1 < _); decide) | exact (fun p hp => nomatch hp)) | (show (_ : Nat) < _; omega))) ?_) | refine And.intro (covS_bool rfl rfl (by rfl)) ?_)
                · repeat (first | exact trivial | (refine And.intro (covE_id (Nat.le_of_ble_eq_true rfl) (by first | exact wf_ints _ _ | exact wf_bools _ _ | first | exact wf_us _ _ | exact wf_cells _ _ | exact wf_bools _ _ | (simp [C.wf]; done) | simp [C.wf]) rfl (by rfl)) ?_))
              · have hst : ldA t L (a + 1) = A0 := by rw [hAs, if_neg (by rw [hand] at hz; omega)]
                repeat ((conv => whnf); first | (refine And.intro (by first | omega | exact Nat.le_of_ble_eq_true rfl | (dsimp only [inK]; omega) | (simp only [mulS_eq]; omega) | (simp only [mulS_eq, setL_length]; omega) | (simp only [setL_length]; omega) | (simp only [setL_length, List.length_map]; omega) | (exact ⟨by omega, by omega, by first | exact Nat.le_of_ble_eq_true rfl | (dsimp only; omega) | (simp only [setL_length]; omega) | (simp only [setL_length, List.length_map]; omega)⟩) | (exact ⟨by omega, by first | rfl | omega, by omega, Nat.le_of_ble_eq_true rfl, Nat.le_of_ble_eq_true rfl⟩) | (exact ⟨rfl, rfl, rfl, Nat.le_of_ble_eq_true rfl, by first | rfl | omega | exact Nat.le_of_ble_eq_true rfl | (dsimp only; omega) | (simp; done) | (simp; omega), by first | rfl | omega | exact Nat.le_of_ble_eq_true rfl | (dsimp only; omega) | (simp; done) | (simp; omega), by omega, Nat.le_of_ble_eq_true rfl⟩) | exact Eq.refl true) ?_) | with_reducible refine ld (hla) ?_ | refine Exists.intro _ (And.intro rfl ?_) | refine And.intro (And.intro rfl (chk_rowI _ _ _ _)) ?_ | refine br_t (by omega) ?_ | refine br_f (by omega) ?_ | refine bs_t (by omega) ?_ | refine bs_f (by omega) ?_ | refine fun (K' : K3) hK' => ?_ | (refine hK' _ _ _ ?_; clear hK' K') | refine draw_auto tok mixed (by kernel_rfl) ?_ | refine bs_f hz ?_ | refine br_f hz ?_ | refine bs_bt (Eq.refl true) ?_ | refine bs_bf (Eq.refl false) ?_ | refine br_bt (Eq.refl true) ?_ | refine br_bf (Eq.refl false) ?_ | refine CallK.m ?_ | refine Two.l ?_ | refine And.intro (And.intro rfl rfl) ?_)
                refine ⟨a + 1, [], by omega, by omega, ?_⟩
                refine ⟨?_, ?_, rfl, rfl, by first | exact Nat.le_of_ble_eq_true rfl | exact Nat.le_refl _ | omega⟩
                · repeat (first | exact trivial | (refine And.intro (covS_syn (by first | rfl | (refine congrArg some (congrArg V.i ?_); omega) | (rw [hst]; rfl)) rfl (by first | exact trivial | exact Nat.le_of_ble_eq_true rfl | exact hy | (first | ((show ∀ p ∈ (_ : List (Nat × Nat)), p.1 < _); decide) | exact (fun p hp => nomatch hp)) | (show (_ : Nat) < _; omega))) ?_) | refine And.intro (covS_bool rfl rfl (by rfl)) ?_)
                · repeat (first | exact trivial | (refine And.intro (covE_id (Nat.le_of_ble_eq_true rfl) (by first | exact wf_ints _ _ | exact wf_bools _ _ | first | exact wf_us _ _ | exact wf_cells _ _ | exact wf_bools _ _ | (simp [C.wf]; done) | simp [C.wf]) rfl (by rfl)) ?_))
            · obtain rfl : a = n := by omega
              rw [← hRs]
              repeat ((conv => whnf); first | (refine And.intro (by first | omega | exact Nat.le_of_ble_eq_true rfl | (dsimp only [inK]; omega) | (simp only [mulS_eq]; omega) | (simp only [mulS_eq, setL_length]; omega) | (simp only [setL_length]; omega) | (simp only [setL_length, List.length_map]; omega) | (exact ⟨by omega, by omega, by first | exact Nat.le_of_ble_eq_true rfl | (dsimp only; omega) | (simp only [setL_length]; omega) | (simp only [setL_length, List.length_map]; omega)⟩) | (exact ⟨by omega, by first | rfl | omega, by omega, Nat.le_of_ble_eq_true rfl, Nat.le_of_ble_eq_true rfl⟩) | (exact ⟨rfl, rfl, rfl, Nat.le_of_ble_eq_true rfl, by first | rfl | omega | exact Nat.le_of_ble_eq_true rfl | (dsimp only; omega) | (simp; done) | (simp; omega), by first | rfl | omega | exact Nat.le_of_ble_eq_true rfl | (dsimp only; omega) | (simp; done) | (simp; omega), by omega, Nat.le_of_ble_eq_true rfl⟩) | exact Eq.refl true) ?_) | refine Exists.intro _ (And.intro rfl ?_) | refine And.intro (And.intro rfl (chk_rowI _ _ _ _)) ?_ | refine br_t (by omega) ?_ | refine br_f (by omega) ?_ | refine bs_t (by omega) ?_ | refine bs_f (by omega) ?_ | refine fun (K' : K3) hK' => ?_ | (refine hK' _ _ _ ?_; clear hK' K') | refine draw_auto tok mixed (by kernel_rfl) ?_ | refine bs_bt (Eq.refl true) ?_ | refine bs_bf (Eq.refl false) ?_ | refine br_bt (Eq.refl true) ?_ | refine br_bf (Eq.refl false) ?_ | refine CallK.m ?_ | refine Two.l ?_ | refine And.intro (And.intro rfl rfl) ?_)
              refine ⟨i + 1, [], by omega, by omega, ?_⟩
              refine ⟨?_, ?_, rfl, rfl, by first | exact Nat.le_of_ble_eq_true rfl | exact Nat.le_refl _ | omega⟩
              · repeat (first | exact trivial | (refine And.intro (covS_syn (by first | rfl | (refine congrArg some (congrArg V.i ?_); omega)) rfl (by first | exact trivial | exact Nat.le_of_ble_eq_true rfl | exact hy | (first | ((show ∀ p ∈ (_ : List (Nat × Nat)), p.1 < _); decide) | exact (fun p hp => nomatch hp)) | (show (_ : Nat) < _; omega))) ?_) | refine And.intro (covS_bool rfl rfl (by rfl)) ?_)
              · repeat (first | exact trivial | (refine And.intro (covE_id (Nat.le_of_ble_eq_true rfl) (by first | exact wf_ints _ _ | exact wf_bools _ _ | first | exact wf_us _ _ | exact wf_cells _ _ | exact wf_bools _ _ | (simp [C.wf]; done) | simp [C.wf]) rfl (by rfl)) ?_))
        · obtain rfl : i = n := by omega
          have hsz := size_spec (ldR t i i) (ldR_256 t hn.2 i)
          repeat ((conv => whnf); first | (refine And.intro (by first | omega | exact Nat.le_of_ble_eq_true rfl | (dsimp only [inK]; omega) | (simp only [mulS_eq]; omega) | (simp only [mulS_eq, setL_length]; omega) | (simp only [setL_length]; omega) | (simp only [setL_length, List.length_map]; omega) | (exact ⟨by omega, by omega, by first | exact Nat.le_of_ble_eq_true rfl | (dsimp only; omega) | (simp only [setL_length]; omega) | (simp only [setL_length, List.length_map]; omega)⟩) | (exact ⟨by omega, by first | rfl | omega, by omega, Nat.le_of_ble_eq_true rfl, Nat.le_of_ble_eq_true rfl⟩) | (exact ⟨rfl, rfl, rfl, Nat.le_of_ble_eq_true rfl, by first | rfl | omega | exact Nat.le_of_ble_eq_true rfl | (dsimp only; omega) | (simp; done) | (simp; omega), by first | rfl | omega | exact Nat.le_of_ble_eq_true rfl | (dsimp only; omega) | (simp; done) | (simp; omega), by omega, Nat.le_of_ble_eq_true rfl⟩) | exact Eq.refl true) ?_) | refine Exists.intro _ (And.intro rfl ?_) | refine And.intro (And.intro rfl (chk_rowI _ _ _ _)) ?_ | refine br_t (by omega) ?_ | refine br_f (by omega) ?_ | refine bs_t (by omega) ?_ | refine bs_f (by omega) ?_ | refine fun (K' : K3) hK' => ?_ | (refine hK' _ _ _ ?_; clear hK' K') | refine draw_auto tok mixed (by kernel_rfl) ?_ | refine HD_mk (fun _ h => CallK.val (R := []) hsz (by kernel_rfl) rfl (by simp [V.wf, A.wf, C.wf]) trivial rfl rfl trivial h) ?_ | refine bs_bt (Eq.refl true) ?_ | refine bs_bf (Eq.refl false) ?_ | refine br_bt (Eq.refl true) ?_ | refine br_bf (Eq.refl false) ?_ | refine CallK.m ?_ | refine Two.l ?_ | refine And.intro (And.intro rfl rfl) ?_)
          intro ρ; rw [hres]; rfl
end Go.Proofs.YtijnimgmpocmaaaDoor

/- Waste: the document's Valid. -/
namespace Go.Proofs.YtijnimgmpocmaaaDoor
open Go.RowKit
set_option linter.unusedVariables false
set_option linter.unusedSimpArgs false
set_option maxRecDepth 10000 in
set_option maxHeartbeats 4000000 in
theorem rvalid_spec (N : Int) (ps : List Cell) (hl : ps.length ≤ 100) : Spec Tryd.prog 22 [V.agg [C.i N, C.sl 0 ps.length]] [⟨0, .ro 2, cellC ps⟩] 1 (Is (V.c (.bool (okK' N ps)))) := by
  have hcl := cellC_len ps
  have hlen : okK' N ps = true → ps.length ≤ 28 := fun h => by
    obtain ⟨n, qs, rfl, rfl, hk⟩ := knd_of h
    rw [castP_len]; exact knd_len hk
  refine Spec.of tok Tryd.func22 rfl rfl rfl fun n0 cx => vc_ok tok ?_
  by_cases h1 : N < 1
  · repeat ((conv => whnf); first | (refine And.intro (by first | omega | exact Nat.le_of_ble_eq_true rfl | (dsimp only [inK]; omega) | (simp only [mulS_eq]; omega) | (simp only [mulS_eq, setL_length]; omega) | (simp only [setL_length]; omega) | (simp only [setL_length, List.length_map]; omega) | (exact ⟨by omega, by omega, by first | exact Nat.le_of_ble_eq_true rfl | (dsimp only; omega) | (simp only [setL_length]; omega) | (simp only [setL_length, List.length_map]; omega)⟩) | (exact ⟨by omega, by first | rfl | omega, by omega, Nat.le_of_ble_eq_true rfl, Nat.le_of_ble_eq_true rfl⟩) | (exact ⟨rfl, rfl, rfl, Nat.le_of_ble_eq_true rfl, by first | rfl | omega | exact Nat.le_of_ble_eq_true rfl | (dsimp only; omega) | (simp; done) | (simp; omega), by first | rfl | omega | exact Nat.le_of_ble_eq_true rfl | (dsimp only; omega) | (simp; done) | (simp; omega), by omega, Nat.le_of_ble_eq_true rfl⟩) | exact Eq.refl true) ?_) | refine Exists.intro _ (And.intro rfl ?_) | refine And.intro (And.intro rfl (chk_rowI _ _ _ _)) ?_ | refine br_t (by omega) ?_ | refine br_f (by omega) ?_ | refine bs_t (by omega) ?_ | refine bs_f (by omega) ?_ | refine fun (K' : K3) hK' => ?_ | (refine hK' _ _ _ ?_; clear hK' K') | refine draw_auto tok mixed (by kernel_rfl) ?_ | refine bs_t h1 ?_ | refine br_t h1 ?_ | refine bs_bt (Eq.refl true) ?_ | refine bs_bf (Eq.refl false) ?_ | refine br_bt (Eq.refl true) ?_ | refine br_bf (Eq.refl false) ?_ | refine CallK.m ?_ | refine Two.l ?_ | refine And.intro (And.intro rfl rfl) ?_)
    intro ρ; show Value.bool _ = Value.bool _; unfold okK'; rw [decide_eq_false (by omega)]; rfl
  by_cases h2 : N > 8
  · repeat ((conv => whnf); first | (refine And.intro (by first | omega | exact Nat.le_of_ble_eq_true rfl | (dsimp only [inK]; omega) | (simp only [mulS_eq]; omega) | (simp only [mulS_eq, setL_length]; omega) | (simp only [setL_length]; omega) | (simp only [setL_length, List.length_map]; omega) | (exact ⟨by omega, by omega, by first | exact Nat.le_of_ble_eq_true rfl | (dsimp only; omega) | (simp only [setL_length]; omega) | (simp only [setL_length, List.length_map]; omega)⟩) | (exact ⟨by omega, by first | rfl | omega, by omega, Nat.le_of_ble_eq_true rfl, Nat.le_of_ble_eq_true rfl⟩) | (exact ⟨rfl, rfl, rfl, Nat.le_of_ble_eq_true rfl, by first | rfl | omega | exact Nat.le_of_ble_eq_true rfl | (dsimp only; omega) | (simp; done) | (simp; omega), by first | rfl | omega | exact Nat.le_of_ble_eq_true rfl | (dsimp only; omega) | (simp; done) | (simp; omega), by omega, Nat.le_of_ble_eq_true rfl⟩) | exact Eq.refl true) ?_) | refine Exists.intro _ (And.intro rfl ?_) | refine And.intro (And.intro rfl (chk_rowI _ _ _ _)) ?_ | refine br_t (by omega) ?_ | refine br_f (by omega) ?_ | refine bs_t (by omega) ?_ | refine bs_f (by omega) ?_ | refine fun (K' : K3) hK' => ?_ | (refine hK' _ _ _ ?_; clear hK' K') | refine draw_auto tok mixed (by kernel_rfl) ?_ | refine bs_f h1 ?_ | refine br_f h1 ?_ | refine bs_t h2 ?_ | refine br_t h2 ?_ | refine bs_bt (Eq.refl true) ?_ | refine bs_bf (Eq.refl false) ?_ | refine br_bt (Eq.refl true) ?_ | refine br_bf (Eq.refl false) ?_ | refine CallK.m ?_ | refine Two.l ?_ | refine And.intro (And.intro rfl rfl) ?_)
    intro ρ; show Value.bool _ = Value.bool _; unfold okK'; rw [decide_eq_false (by omega)]; rfl
  by_cases h3 : (ps.length : Int) > 28
  · repeat ((conv => whnf); first | (refine And.intro (by first | omega | exact Nat.le_of_ble_eq_true rfl | (dsimp only [inK]; omega) | (simp only [mulS_eq]; omega) | (simp only [mulS_eq, setL_length]; omega) | (simp only [setL_length]; omega) | (simp only [setL_length, List.length_map]; omega) | (exact ⟨by omega, by omega, by first | exact Nat.le_of_ble_eq_true rfl | (dsimp only; omega) | (simp only [setL_length]; omega) | (simp only [setL_length, List.length_map]; omega)⟩) | (exact ⟨by omega, by first | rfl | omega, by omega, Nat.le_of_ble_eq_true rfl, Nat.le_of_ble_eq_true rfl⟩) | (exact ⟨rfl, rfl, rfl, Nat.le_of_ble_eq_true rfl, by first | rfl | omega | exact Nat.le_of_ble_eq_true rfl | (dsimp only; omega) | (simp; done) | (simp; omega), by first | rfl | omega | exact Nat.le_of_ble_eq_true rfl | (dsimp only; omega) | (simp; done) | (simp; omega), by omega, Nat.le_of_ble_eq_true rfl⟩) | exact Eq.refl true) ?_) | refine Exists.intro _ (And.intro rfl ?_) | refine And.intro (And.intro rfl (chk_rowI _ _ _ _)) ?_ | refine br_t (by omega) ?_ | refine br_f (by omega) ?_ | refine bs_t (by omega) ?_ | refine bs_f (by omega) ?_ | refine fun (K' : K3) hK' => ?_ | (refine hK' _ _ _ ?_; clear hK' K') | refine draw_auto tok mixed (by kernel_rfl) ?_ | refine bs_f h1 ?_ | refine br_f h1 ?_ | refine bs_f h2 ?_ | refine br_f h2 ?_ | refine bs_t h3 ?_ | refine br_t h3 ?_ | refine bs_bt (Eq.refl true) ?_ | refine bs_bf (Eq.refl false) ?_ | refine br_bt (Eq.refl true) ?_ | refine br_bf (Eq.refl false) ?_ | refine CallK.m ?_ | refine Two.l ?_ | refine And.intro (And.intro rfl rfl) ?_)
    intro ρ; show Value.bool _ = Value.bool _
    cases h : okK' N ps with
    | false => rfl
    | true => have := hlen h; omega
  repeat ((conv => whnf); first | (refine And.intro (by first | omega | exact Nat.le_of_ble_eq_true rfl | (dsimp only [inK]; omega) | (simp only [mulS_eq]; omega) | (simp only [mulS_eq, setL_length]; omega) | (simp only [setL_length]; omega) | (simp only [setL_length, List.length_map]; omega) | (exact ⟨by omega, by omega, by first | exact Nat.le_of_ble_eq_true rfl | (dsimp only; omega) | (simp only [setL_length]; omega) | (simp only [setL_length, List.length_map]; omega)⟩) | (exact ⟨by omega, by first | rfl | omega, by omega, Nat.le_of_ble_eq_true rfl, Nat.le_of_ble_eq_true rfl⟩) | (exact ⟨rfl, rfl, rfl, Nat.le_of_ble_eq_true rfl, by first | rfl | omega | exact Nat.le_of_ble_eq_true rfl | (dsimp only; omega) | (simp; done) | (simp; omega), by first | rfl | omega | exact Nat.le_of_ble_eq_true rfl | (dsimp only; omega) | (simp; done) | (simp; omega), by omega, Nat.le_of_ble_eq_true rfl⟩) | exact Eq.refl true) ?_) | refine Exists.intro _ (And.intro rfl ?_) | refine And.intro (And.intro rfl (chk_rowI _ _ _ _)) ?_ | refine br_t (by omega) ?_ | refine br_f (by omega) ?_ | refine bs_t (by omega) ?_ | refine bs_f (by omega) ?_ | refine fun (K' : K3) hK' => ?_ | (refine hK' _ _ _ ?_; clear hK' K') | refine draw_auto tok mixed (by kernel_rfl) ?_ | refine bs_f h1 ?_ | refine br_f h1 ?_ | refine bs_f h2 ?_ | refine br_f h2 ?_ | refine bs_f h3 ?_ | refine br_f h3 ?_ | refine bs_bt (Eq.refl true) ?_ | refine bs_bf (Eq.refl false) ?_ | refine br_bt (Eq.refl true) ?_ | refine br_bf (Eq.refl false) ?_ | refine CallK.m ?_ | refine Two.l ?_ | refine And.intro (And.intro rfl rfl) ?_)
  refine Tri.loop (γ := Nat) (fun k => k ≤ ps.length ∧ okPk N ps k = true) (fun k => [(1, V.c (.ptr 1 0)), (2, V.c .ff), (22, V.c (.sl 0 ps.length)), (23, V.i ps.length), (24, V.i (k : Nat))])
    (fun k => [⟨1, .own 24, [C.i N, .sl 0 ps.length]⟩, ⟨0, .ro 2, cellC ps⟩]) 2 (fun k => ps.length - k) 0 (R0 := []) ?_ ?_ ?_
  · exact ⟨by omega, rfl⟩
  · skip
    refine ⟨?_, ?_, rfl, rfl, by first | exact Nat.le_of_ble_eq_true rfl | exact Nat.le_refl _ | omega⟩
    · repeat (first | exact trivial | (refine And.intro (covS_syn (by rfl) rfl (by first | exact trivial | exact Nat.le_of_ble_eq_true rfl | exact hy | (first | ((show ∀ p ∈ (_ : List (Nat × Nat)), p.1 < _); decide) | exact (fun p hp => nomatch hp)) | (show (_ : Nat) < _; omega))) ?_) | refine And.intro (covS_bool rfl rfl (by rfl)) ?_)
    · repeat (first | exact trivial | (refine And.intro (covE_id (Nat.le_of_ble_eq_true rfl) (by first | exact wf_ints _ _ | exact wf_bools _ _ | first | exact wf_us _ _ | exact wf_cells _ _ | (simp [C.wf]; done) | simp [C.wf]) rfl (by rfl)) ?_))
  · rintro k ⟨hk, hok⟩
    refine vc_ok tok ?_
    by_cases hlt : k < ps.length
    · have hbad : badP N ps k = (decide ((ps.getD k cz).1 < 0) || (decide ((ps.getD k cz).1 ≥ (ps.getD k cz).2) || (decide ((ps.getD k cz).2 ≥ N) || seenP ps k (ps.getD k cz)))) := rfl
      have hld := cellT (l := ps) (k := k) rfl hlt
      change takeC (cellC ps) (mulS ((k : Nat) : Int).toNat 2) 2 = some [C.i (ps.getD k cz).1, C.i (ps.getD k cz).2] at hld
      have fails : badP N ps k = true → okK' N ps = false := fun h => by
        unfold okK'; rw [okPk_false hlt h]; simp
      obtain ⟨p, hp⟩ : ∃ p, p = ps.getD k cz := ⟨_, rfl⟩
      rw [← hp] at hbad hld
      by_cases h4 : p.1 < 0
      · repeat ((conv => whnf); first | (refine And.intro (by first | omega | exact Nat.le_of_ble_eq_true rfl | (dsimp only [inK]; omega) | (simp only [mulS_eq]; omega) | (simp only [mulS_eq, setL_length]; omega) | (simp only [setL_length]; omega) | (simp only [setL_length, List.length_map]; omega) | (exact ⟨by omega, by omega, by first | exact Nat.le_of_ble_eq_true rfl | (dsimp only; omega) | (simp only [setL_length]; omega) | (simp only [setL_length, List.length_map]; omega)⟩) | (exact ⟨by omega, by first | rfl | omega, by omega, Nat.le_of_ble_eq_true rfl, Nat.le_of_ble_eq_true rfl⟩) | (exact ⟨rfl, rfl, rfl, Nat.le_of_ble_eq_true rfl, by first | rfl | omega | exact Nat.le_of_ble_eq_true rfl | (dsimp only; omega) | (simp; done) | (simp; omega), by first | rfl | omega | exact Nat.le_of_ble_eq_true rfl | (dsimp only; omega) | (simp; done) | (simp; omega), by omega, Nat.le_of_ble_eq_true rfl⟩) | exact Eq.refl true) ?_) | with_reducible refine ld (hld) ?_ | refine Exists.intro _ (And.intro rfl ?_) | refine And.intro (And.intro rfl (chk_rowI _ _ _ _)) ?_ | refine br_t (by omega) ?_ | refine br_f (by omega) ?_ | refine bs_t (by omega) ?_ | refine bs_f (by omega) ?_ | refine fun (K' : K3) hK' => ?_ | (refine hK' _ _ _ ?_; clear hK' K') | refine draw_auto tok mixed (by kernel_rfl) ?_ | refine bs_t h4 ?_ | refine br_t h4 ?_ | refine bs_bt (Eq.refl true) ?_ | refine bs_bf (Eq.refl false) ?_ | refine br_bt (Eq.refl true) ?_ | refine br_bf (Eq.refl false) ?_ | refine CallK.m ?_ | refine Two.l ?_ | refine And.intro (And.intro rfl rfl) ?_)
        intro ρ; rw [fails (by rw [hbad]; simp [h4])]; rfl
      by_cases h5 : p.1 ≥ p.2
      · repeat ((conv => whnf); first | (refine And.intro (by first | omega | exact Nat.le_of_ble_eq_true rfl | (dsimp only [inK]; omega) | (simp only [mulS_eq]; omega) | (simp only [mulS_eq, setL_length]; omega) | (simp only [setL_length]; omega) | (simp only [setL_length, List.length_map]; omega) | (exact ⟨by omega, by omega, by first | exact Nat.le_of_ble_eq_true rfl | (dsimp only; omega) | (simp only [setL_length]; omega) | (simp only [setL_length, List.length_map]; omega)⟩) | (exact ⟨by omega, by first | rfl | omega, by omega, Nat.le_of_ble_eq_true rfl, Nat.le_of_ble_eq_true rfl⟩) | (exact ⟨rfl, rfl, rfl, Nat.le_of_ble_eq_true rfl, by first | rfl | omega | exact Nat.le_of_ble_eq_true rfl | (dsimp only; omega) | (simp; done) | (simp; omega), by first | rfl | omega | exact Nat.le_of_ble_eq_true rfl | (dsimp only; omega) | (simp; done) | (simp; omega), by omega, Nat.le_of_ble_eq_true rfl⟩) | exact Eq.refl true) ?_) | with_reducible refine ld (hld) ?_ | refine Exists.intro _ (And.intro rfl ?_) | refine And.intro (And.intro rfl (chk_rowI _ _ _ _)) ?_ | refine br_t (by omega) ?_ | refine br_f (by omega) ?_ | refine bs_t (by omega) ?_ | refine bs_f (by omega) ?_ | refine fun (K' : K3) hK' => ?_ | (refine hK' _ _ _ ?_; clear hK' K') | refine draw_auto tok mixed (by kernel_rfl) ?_ | refine bs_f h4 ?_ | refine br_f h4 ?_ | refine bs_t h5 ?_ | refine br_t h5 ?_ | refine bs_bt (Eq.refl true) ?_ | refine bs_bf (Eq.refl false) ?_ | refine br_bt (Eq.refl true) ?_ | refine br_bf (Eq.refl false) ?_ | refine CallK.m ?_ | refine Two.l ?_ | refine And.intro (And.intro rfl rfl) ?_)
        intro ρ; rw [fails (by rw [hbad]; simp [h5])]; rfl
      by_cases h6 : p.2 ≥ N
      · repeat ((conv => whnf); first | (refine And.intro (by first | omega | exact Nat.le_of_ble_eq_true rfl | (dsimp only [inK]; omega) | (simp only [mulS_eq]; omega) | (simp only [mulS_eq, setL_length]; omega) | (simp only [setL_length]; omega) | (simp only [setL_length, List.length_map]; omega) | (exact ⟨by omega, by omega, by first | exact Nat.le_of_ble_eq_true rfl | (dsimp only; omega) | (simp only [setL_length]; omega) | (simp only [setL_length, List.length_map]; omega)⟩) | (exact ⟨by omega, by first | rfl | omega, by omega, Nat.le_of_ble_eq_true rfl, Nat.le_of_ble_eq_true rfl⟩) | (exact ⟨rfl, rfl, rfl, Nat.le_of_ble_eq_true rfl, by first | rfl | omega | exact Nat.le_of_ble_eq_true rfl | (dsimp only; omega) | (simp; done) | (simp; omega), by first | rfl | omega | exact Nat.le_of_ble_eq_true rfl | (dsimp only; omega) | (simp; done) | (simp; omega), by omega, Nat.le_of_ble_eq_true rfl⟩) | exact Eq.refl true) ?_) | with_reducible refine ld (hld) ?_ | refine Exists.intro _ (And.intro rfl ?_) | refine And.intro (And.intro rfl (chk_rowI _ _ _ _)) ?_ | refine br_t (by omega) ?_ | refine br_f (by omega) ?_ | refine bs_t (by omega) ?_ | refine bs_f (by omega) ?_ | refine fun (K' : K3) hK' => ?_ | (refine hK' _ _ _ ?_; clear hK' K') | refine draw_auto tok mixed (by kernel_rfl) ?_ | refine bs_f h4 ?_ | refine br_f h4 ?_ | refine bs_f h5 ?_ | refine br_f h5 ?_ | refine bs_t h6 ?_ | refine br_t h6 ?_ | refine bs_bt (Eq.refl true) ?_ | refine bs_bf (Eq.refl false) ?_ | refine br_bt (Eq.refl true) ?_ | refine br_bf (Eq.refl false) ?_ | refine CallK.m ?_ | refine Two.l ?_ | refine And.intro (And.intro rfl rfl) ?_)
        intro ρ; rw [fails (by rw [hbad]; simp [h6])]; rfl
      repeat ((conv => whnf); first | (refine And.intro (by first | omega | exact Nat.le_of_ble_eq_true rfl | (dsimp only [inK]; omega) | (simp only [mulS_eq]; omega) | (simp only [mulS_eq, setL_length]; omega) | (simp only [setL_length]; omega) | (simp only [setL_length, List.length_map]; omega) | (exact ⟨by omega, by omega, by first | exact Nat.le_of_ble_eq_true rfl | (dsimp only; omega) | (simp only [setL_length]; omega) | (simp only [setL_length, List.length_map]; omega)⟩) | (exact ⟨by omega, by first | rfl | omega, by omega, Nat.le_of_ble_eq_true rfl, Nat.le_of_ble_eq_true rfl⟩) | (exact ⟨rfl, rfl, rfl, Nat.le_of_ble_eq_true rfl, by first | rfl | omega | exact Nat.le_of_ble_eq_true rfl | (dsimp only; omega) | (simp; done) | (simp; omega), by first | rfl | omega | exact Nat.le_of_ble_eq_true rfl | (dsimp only; omega) | (simp; done) | (simp; omega), by omega, Nat.le_of_ble_eq_true rfl⟩) | exact Eq.refl true) ?_) | with_reducible refine ld (hld) ?_ | refine Exists.intro _ (And.intro rfl ?_) | refine And.intro (And.intro rfl (chk_rowI _ _ _ _)) ?_ | refine br_t (by omega) ?_ | refine br_f (by omega) ?_ | refine bs_t (by omega) ?_ | refine bs_f (by omega) ?_ | refine fun (K' : K3) hK' => ?_ | (refine hK' _ _ _ ?_; clear hK' K') | refine draw_auto tok mixed (by kernel_rfl) ?_ | refine bs_f h4 ?_ | refine br_f h4 ?_ | refine bs_f h5 ?_ | refine br_f h5 ?_ | refine bs_f h6 ?_ | refine br_f h6 ?_ | refine bs_bt (Eq.refl true) ?_ | refine bs_bf (Eq.refl false) ?_ | refine br_bt (Eq.refl true) ?_ | refine br_bf (Eq.refl false) ?_ | refine CallK.m ?_ | refine Two.l ?_ | refine And.intro (And.intro rfl rfl) ?_)
      refine Tri.loop (γ := Nat) (fun j => j ≤ k ∧ ∀ i, i < j → ps.getD i cz ≠ p) (fun j => [(1, V.c (.ptr 1 0)), (2, V.c .ff), (3, V.i (k : Nat)), (4, V.c (.ptr 2 0)), (22, V.c (.sl 0 ps.length)), (23, V.i ps.length), (24, V.i (k : Nat)), (49, V.c (.sl 0 k)), (50, V.i (k : Nat)), (51, V.i (j : Nat))])
        (fun j => [⟨2, .own 59, [C.i p.1, C.i p.2]⟩, ⟨1, .own 24, [C.i N, .sl 0 ps.length]⟩, ⟨0, .ro 2, cellC ps⟩]) 3 (fun j => k - j) 0 (R0 := []) ?_ ?_ ?_
      · exact ⟨by omega, by omega⟩
      · skip
        refine ⟨?_, ?_, rfl, rfl, by first | exact Nat.le_of_ble_eq_true rfl | exact Nat.le_refl _ | omega⟩
        · repeat (first | exact trivial | (refine And.intro (covS_syn (by rfl) rfl (by first | exact trivial | exact Nat.le_of_ble_eq_true rfl | exact hy | (first | ((show ∀ p ∈ (_ : List (Nat × Nat)), p.1 < _); decide) | exact (fun p hp => nomatch hp)) | (show (_ : Nat) < _; omega))) ?_) | refine And.intro (covS_bool rfl rfl (by rfl)) ?_)
        · repeat (first | exact trivial | (refine And.intro (covE_id (Nat.le_of_ble_eq_true rfl) (by first | exact wf_ints _ _ | exact wf_bools _ _ | first | exact wf_us _ _ | exact wf_cells _ _ | (simp [C.wf]; done) | simp [C.wf]) rfl (by rfl)) ?_))
      · rintro j ⟨hj, hne⟩
        refine vc_ok tok ?_
        by_cases hjk : j < k
        · have hlj := cellT (l := ps) (k := j) rfl (by omega)
          change takeC (cellC ps) (mulS ((j : Nat) : Int).toNat 2) 2 = some [C.i (ps.getD j cz).1, C.i (ps.getD j cz).2] at hlj
          cases he : (decide (p.1 = (ps.getD j cz).1) && (decide (p.2 = (ps.getD j cz).2) && true)) with
          | true =>
            repeat ((conv => whnf); first | (refine And.intro (by first | omega | exact Nat.le_of_ble_eq_true rfl | (dsimp only [inK]; omega) | (simp only [mulS_eq]; omega) | (simp only [mulS_eq, setL_length]; omega) | (simp only [setL_length]; omega) | (simp only [setL_length, List.length_map]; omega) | (exact ⟨by omega, by omega, by first | exact Nat.le_of_ble_eq_true rfl | (dsimp only; omega) | (simp only [setL_length]; omega) | (simp only [setL_length, List.length_map]; omega)⟩) | (exact ⟨by omega, by first | rfl | omega, by omega, Nat.le_of_ble_eq_true rfl, Nat.le_of_ble_eq_true rfl⟩) | (exact ⟨rfl, rfl, rfl, Nat.le_of_ble_eq_true rfl, by first | rfl | omega | exact Nat.le_of_ble_eq_true rfl | (dsimp only; omega) | (simp; done) | (simp; omega), by first | rfl | omega | exact Nat.le_of_ble_eq_true rfl | (dsimp only; omega) | (simp; done) | (simp; omega), by omega, Nat.le_of_ble_eq_true rfl⟩) | exact Eq.refl true) ?_) | with_reducible refine ld (hlj) ?_ | refine Exists.intro _ (And.intro rfl ?_) | refine And.intro (And.intro rfl (chk_rowI _ _ _ _)) ?_ | refine br_t (by omega) ?_ | refine br_f (by omega) ?_ | refine bs_t (by omega) ?_ | refine bs_f (by omega) ?_ | refine fun (K' : K3) hK' => ?_ | (refine hK' _ _ _ ?_; clear hK' K') | refine draw_auto tok mixed (by kernel_rfl) ?_ | refine br_bt he ?_ | refine bs_bt (Eq.refl true) ?_ | refine bs_bf (Eq.refl false) ?_ | refine br_bt (Eq.refl true) ?_ | refine br_bf (Eq.refl false) ?_ | refine CallK.m ?_ | refine Two.l ?_ | refine And.intro (And.intro rfl rfl) ?_)
            intro ρ; rw [fails]; rfl
            rw [hbad]
            have : seenP ps k p = true := by
              unfold seenP
              rw [List.any_eq_true]
              refine ⟨ps.getD j cz, ?_, ?_⟩
              · rw [List.mem_take_iff_getElem]; exact ⟨j, by omega, by simp [List.getD_eq_getElem?_getD, show j < ps.length by omega]⟩
              · simp at he; simp; exact Prod.ext he.1.symm he.2.symm
            rw [this]; simp
          | false =>
            repeat ((conv => whnf); first | (refine And.intro (by first | omega | exact Nat.le_of_ble_eq_true rfl | (dsimp only [inK]; omega) | (simp only [mulS_eq]; omega) | (simp only [mulS_eq, setL_length]; omega) | (simp only [setL_length]; omega) | (simp only [setL_length, List.length_map]; omega) | (exact ⟨by omega, by omega, by first | exact Nat.le_of_ble_eq_true rfl | (dsimp only; omega) | (simp only [setL_length]; omega) | (simp only [setL_length, List.length_map]; omega)⟩) | (exact ⟨by omega, by first | rfl | omega, by omega, Nat.le_of_ble_eq_true rfl, Nat.le_of_ble_eq_true rfl⟩) | (exact ⟨rfl, rfl, rfl, Nat.le_of_ble_eq_true rfl, by first | rfl | omega | exact Nat.le_of_ble_eq_true rfl | (dsimp only; omega) | (simp; done) | (simp; omega), by first | rfl | omega | exact Nat.le_of_ble_eq_true rfl | (dsimp only; omega) | (simp; done) | (simp; omega), by omega, Nat.le_of_ble_eq_true rfl⟩) | exact Eq.refl true) ?_) | with_reducible refine ld (hlj) ?_ | refine Exists.intro _ (And.intro rfl ?_) | refine And.intro (And.intro rfl (chk_rowI _ _ _ _)) ?_ | refine br_t (by omega) ?_ | refine br_f (by omega) ?_ | refine bs_t (by omega) ?_ | refine bs_f (by omega) ?_ | refine fun (K' : K3) hK' => ?_ | (refine hK' _ _ _ ?_; clear hK' K') | refine draw_auto tok mixed (by kernel_rfl) ?_ | refine br_bf he ?_ | refine bs_bt (Eq.refl true) ?_ | refine bs_bf (Eq.refl false) ?_ | refine br_bt (Eq.refl true) ?_ | refine br_bf (Eq.refl false) ?_ | refine CallK.m ?_ | refine Two.l ?_ | refine And.intro (And.intro rfl rfl) ?_)
            refine ⟨j + 1, [], ⟨by omega, fun i hi => ?_⟩, by omega, ?_⟩
            · by_cases h : i = j
              · rw [h]; intro hh; rw [hh] at he; simp at he
              · exact hne i (by omega)
            refine ⟨?_, ?_, rfl, rfl, by first | exact Nat.le_of_ble_eq_true rfl | exact Nat.le_refl _ | omega⟩
            · repeat (first | exact trivial | (refine And.intro (covS_syn (by first | rfl | (refine congrArg some (congrArg V.i ?_); omega)) rfl (by first | exact trivial | exact Nat.le_of_ble_eq_true rfl | exact hy | (first | ((show ∀ p ∈ (_ : List (Nat × Nat)), p.1 < _); decide) | exact (fun p hp => nomatch hp)) | (show (_ : Nat) < _; omega))) ?_) | refine And.intro (covS_bool rfl rfl (by rfl)) ?_)
            · repeat (first | exact trivial | (refine And.intro (covE_id (Nat.le_of_ble_eq_true rfl) (by first | exact wf_ints _ _ | exact wf_bools _ _ | first | exact wf_us _ _ | exact wf_cells _ _ | (simp [C.wf]; done) | simp [C.wf]) rfl (by rfl)) ?_))
        · obtain rfl : j = k := by omega
          have hsn : seenP ps j p = false := by
            unfold seenP
            rw [List.any_eq_false]
            intro q hq
            rw [List.mem_take_iff_getElem] at hq
            obtain ⟨i, hi, rfl⟩ := hq
            have := hne i (by omega)
            simpa [List.getD_eq_getElem?_getD, show i < ps.length by omega] using this
          repeat ((conv => whnf); first | (refine And.intro (by first | omega | exact Nat.le_of_ble_eq_true rfl | (dsimp only [inK]; omega) | (simp only [mulS_eq]; omega) | (simp only [mulS_eq, setL_length]; omega) | (simp only [setL_length]; omega) | (simp only [setL_length, List.length_map]; omega) | (exact ⟨by omega, by omega, by first | exact Nat.le_of_ble_eq_true rfl | (dsimp only; omega) | (simp only [setL_length]; omega) | (simp only [setL_length, List.length_map]; omega)⟩) | (exact ⟨by omega, by first | rfl | omega, by omega, Nat.le_of_ble_eq_true rfl, Nat.le_of_ble_eq_true rfl⟩) | (exact ⟨rfl, rfl, rfl, Nat.le_of_ble_eq_true rfl, by first | rfl | omega | exact Nat.le_of_ble_eq_true rfl | (dsimp only; omega) | (simp; done) | (simp; omega), by first | rfl | omega | exact Nat.le_of_ble_eq_true rfl | (dsimp only; omega) | (simp; done) | (simp; omega), by omega, Nat.le_of_ble_eq_true rfl⟩) | exact Eq.refl true) ?_) | refine Exists.intro _ (And.intro rfl ?_) | refine And.intro (And.intro rfl (chk_rowI _ _ _ _)) ?_ | refine br_t (by omega) ?_ | refine br_f (by omega) ?_ | refine bs_t (by omega) ?_ | refine bs_f (by omega) ?_ | refine fun (K' : K3) hK' => ?_ | (refine hK' _ _ _ ?_; clear hK' K') | refine draw_auto tok mixed (by kernel_rfl) ?_ | refine bs_bt (Eq.refl true) ?_ | refine bs_bf (Eq.refl false) ?_ | refine br_bt (Eq.refl true) ?_ | refine br_bf (Eq.refl false) ?_ | refine CallK.m ?_ | refine Two.l ?_ | refine And.intro (And.intro rfl rfl) ?_)
          refine ⟨j + 1, [], ⟨by omega, by rw [okPk_succ, hok, hbad, dd_f h4, dd_f h5, dd_f h6, hsn]; rfl⟩, by omega, ?_⟩
          refine ⟨?_, ?_, rfl, rfl, by first | exact Nat.le_of_ble_eq_true rfl | exact Nat.le_refl _ | omega⟩
          · repeat (first | exact trivial | (refine And.intro (covS_syn (by first | rfl | (refine congrArg some (congrArg V.i ?_); omega)) rfl (by first | exact trivial | exact Nat.le_of_ble_eq_true rfl | exact hy | (first | ((show ∀ p ∈ (_ : List (Nat × Nat)), p.1 < _); decide) | exact (fun p hp => nomatch hp)) | (show (_ : Nat) < _; omega))) ?_) | refine And.intro (covS_bool rfl rfl (by rfl)) ?_)
          · repeat (first | exact trivial | (refine And.intro (covE_id (Nat.le_of_ble_eq_true rfl) (by first | exact wf_ints _ _ | exact wf_bools _ _ | first | exact wf_us _ _ | exact wf_cells _ _ | (simp [C.wf]; done) | simp [C.wf]) rfl (by rfl)) ?_))
    · have hkl : k = ps.length := by omega
      subst hkl
      repeat ((conv => whnf); first | (refine And.intro (by first | omega | exact Nat.le_of_ble_eq_true rfl | (dsimp only [inK]; omega) | (simp only [mulS_eq]; omega) | (simp only [mulS_eq, setL_length]; omega) | (simp only [setL_length]; omega) | (simp only [setL_length, List.length_map]; omega) | (exact ⟨by omega, by omega, by first | exact Nat.le_of_ble_eq_true rfl | (dsimp only; omega) | (simp only [setL_length]; omega) | (simp only [setL_length, List.length_map]; omega)⟩) | (exact ⟨by omega, by first | rfl | omega, by omega, Nat.le_of_ble_eq_true rfl, Nat.le_of_ble_eq_true rfl⟩) | (exact ⟨rfl, rfl, rfl, Nat.le_of_ble_eq_true rfl, by first | rfl | omega | exact Nat.le_of_ble_eq_true rfl | (dsimp only; omega) | (simp; done) | (simp; omega), by first | rfl | omega | exact Nat.le_of_ble_eq_true rfl | (dsimp only; omega) | (simp; done) | (simp; omega), by omega, Nat.le_of_ble_eq_true rfl⟩) | exact Eq.refl true) ?_) | refine Exists.intro _ (And.intro rfl ?_) | refine And.intro (And.intro rfl (chk_rowI _ _ _ _)) ?_ | refine br_t (by omega) ?_ | refine br_f (by omega) ?_ | refine bs_t (by omega) ?_ | refine bs_f (by omega) ?_ | refine fun (K' : K3) hK' => ?_ | (refine hK' _ _ _ ?_; clear hK' K') | refine draw_auto tok mixed (by kernel_rfl) ?_ | refine bs_bt (Eq.refl true) ?_ | refine bs_bf (Eq.refl false) ?_ | refine br_bt (Eq.refl true) ?_ | refine br_bf (Eq.refl false) ?_ | refine CallK.m ?_ | refine Two.l ?_ | refine And.intro (And.intro rfl rfl) ?_)
      intro ρ; show Value.bool _ = Value.bool _; unfold okK'; rw [hok, decide_eq_true (by omega)]; rfl
end Go.Proofs.YtijnimgmpocmaaaDoor

/- Waste: the document's clash, At, SameInts. -/
namespace Go.Proofs.YtijnimgmpocmaaaDoor
open Go.RowKit
set_option linter.unusedVariables false
set_option linter.unusedSimpArgs false
def clashI (ps : List Cell) (a b : Int) : Bool := ps.any fun p => decide (p.1 = (if b < a then b else a)) && (decide (p.2 = (if b > a then b else a)) && true)
set_option maxRecDepth 10000 in
set_option maxHeartbeats 4000000 in
theorem clash_any (N a b : Int) (ps : List Cell) (hl : ps.length ≤ 100) : Spec Tryd.prog 77 [V.agg [C.i N, C.sl 0 ps.length], V.i a, V.i b] [⟨0, .ro 2, cellC ps⟩] 1 (Is (V.c (.bool (clashI ps a b)))) := by
  have hcl := cellC_len ps
  refine Spec.of tok Tryd.func77 rfl rfl rfl fun n0 cx => vc_ok tok ?_
  repeat ((conv => whnf); first | (refine And.intro (by first | omega | exact Nat.le_of_ble_eq_true rfl | (dsimp only [inK]; omega) | (simp only [mulS_eq]; omega) | (simp only [mulS_eq, setL_length]; omega) | (simp only [setL_length]; omega) | (simp only [setL_length, List.length_map]; omega) | (exact ⟨by omega, by omega, by first | exact Nat.le_of_ble_eq_true rfl | (dsimp only; omega) | (simp only [setL_length]; omega) | (simp only [setL_length, List.length_map]; omega)⟩) | (exact ⟨by omega, by first | rfl | omega, by omega, Nat.le_of_ble_eq_true rfl, Nat.le_of_ble_eq_true rfl⟩) | (exact ⟨rfl, rfl, rfl, Nat.le_of_ble_eq_true rfl, by first | rfl | omega | exact Nat.le_of_ble_eq_true rfl | (dsimp only; omega) | (simp; done) | (simp; omega), by first | rfl | omega | exact Nat.le_of_ble_eq_true rfl | (dsimp only; omega) | (simp; done) | (simp; omega), by omega, Nat.le_of_ble_eq_true rfl⟩) | exact Eq.refl true) ?_) | refine Exists.intro _ (And.intro rfl ?_) | refine And.intro (And.intro rfl (chk_rowI _ _ _ _)) ?_ | refine br_t (by omega) ?_ | refine br_f (by omega) ?_ | refine bs_t (by omega) ?_ | refine bs_f (by omega) ?_ | refine fun (K' : K3) hK' => ?_ | (refine hK' _ _ _ ?_; clear hK' K') | refine draw_auto tok mixed (by kernel_rfl) ?_ | refine bs_bt (Eq.refl true) ?_ | refine bs_bf (Eq.refl false) ?_ | refine br_bt (Eq.refl true) ?_ | refine br_bf (Eq.refl false) ?_ | refine CallK.m ?_ | refine Two.l ?_ | refine And.intro (And.intro rfl rfl) ?_)
  refine Tri.loop (γ := Nat) (fun k => k ≤ ps.length ∧ ∀ i, i < k → (decide ((ps.getD i cz).1 = (if b < a then b else a)) && (decide ((ps.getD i cz).2 = (if b > a then b else a)) && true)) = false)
    (fun k => [(1, V.i a), (2, V.i b), (3, V.c (.ptr 1 0)), (6, V.c .ff), (10, V.c (.sl 0 ps.length)), (11, V.i ps.length), (12, V.i (k : Nat))])
    (fun k => [⟨1, .own 24, [C.i N, .sl 0 ps.length]⟩, ⟨0, .ro 2, cellC ps⟩]) 2 (fun k => ps.length - k) 0 (R0 := []) ?_ ?_ ?_
  · exact ⟨by omega, by omega⟩
  · skip
    refine ⟨?_, ?_, rfl, rfl, by first | exact Nat.le_of_ble_eq_true rfl | exact Nat.le_refl _ | omega⟩
    · repeat (first | exact trivial | (refine And.intro (covS_syn (by rfl) rfl (by first | exact trivial | exact Nat.le_of_ble_eq_true rfl | exact hy | (first | ((show ∀ p ∈ (_ : List (Nat × Nat)), p.1 < _); decide) | exact (fun p hp => nomatch hp)) | (show (_ : Nat) < _; omega))) ?_) | refine And.intro (covS_bool rfl rfl (by rfl)) ?_)
    · repeat (first | exact trivial | (refine And.intro (covE_id (Nat.le_of_ble_eq_true rfl) (by first | exact wf_ints _ _ | exact wf_bools _ _ | first | exact wf_us _ _ | exact wf_cells _ _ | (simp [C.wf]; done) | simp [C.wf]) rfl (by rfl)) ?_))
  · rintro k ⟨hk, hno⟩
    refine vc_ok tok ?_
    by_cases hlt : k < ps.length
    · have hld := cellT (l := ps) (k := k) rfl hlt
      change takeC (cellC ps) (mulS ((k : Nat) : Int).toNat 2) 2 = some [C.i (ps.getD k cz).1, C.i (ps.getD k cz).2] at hld
      cases he : (decide ((ps.getD k cz).1 = (if b < a then b else a)) && (decide ((ps.getD k cz).2 = (if b > a then b else a)) && true)) with
      | true =>
        repeat ((conv => whnf); first | (refine And.intro (by first | omega | exact Nat.le_of_ble_eq_true rfl | (dsimp only [inK]; omega) | (simp only [mulS_eq]; omega) | (simp only [mulS_eq, setL_length]; omega) | (simp only [setL_length]; omega) | (simp only [setL_length, List.length_map]; omega) | (exact ⟨by omega, by omega, by first | exact Nat.le_of_ble_eq_true rfl | (dsimp only; omega) | (simp only [setL_length]; omega) | (simp only [setL_length, List.length_map]; omega)⟩) | (exact ⟨by omega, by first | rfl | omega, by omega, Nat.le_of_ble_eq_true rfl, Nat.le_of_ble_eq_true rfl⟩) | (exact ⟨rfl, rfl, rfl, Nat.le_of_ble_eq_true rfl, by first | rfl | omega | exact Nat.le_of_ble_eq_true rfl | (dsimp only; omega) | (simp; done) | (simp; omega), by first | rfl | omega | exact Nat.le_of_ble_eq_true rfl | (dsimp only; omega) | (simp; done) | (simp; omega), by omega, Nat.le_of_ble_eq_true rfl⟩) | exact Eq.refl true) ?_) | with_reducible refine ld (hld) ?_ | refine Exists.intro _ (And.intro rfl ?_) | refine And.intro (And.intro rfl (chk_rowI _ _ _ _)) ?_ | refine br_t (by omega) ?_ | refine br_f (by omega) ?_ | refine bs_t (by omega) ?_ | refine bs_f (by omega) ?_ | refine fun (K' : K3) hK' => ?_ | (refine hK' _ _ _ ?_; clear hK' K') | refine draw_auto tok mixed (by kernel_rfl) ?_ | refine br_bt he ?_ | refine bs_bt (Eq.refl true) ?_ | refine bs_bf (Eq.refl false) ?_ | refine br_bt (Eq.refl true) ?_ | refine br_bf (Eq.refl false) ?_ | refine CallK.m ?_ | refine Two.l ?_ | refine And.intro (And.intro rfl rfl) ?_)
        intro ρ; show Value.bool _ = Value.bool _
        have : clashI ps a b = true := by
          unfold clashI; rw [List.any_eq_true]
          exact ⟨ps.getD k cz, by rw [List.getD_eq_getElem?_getD, List.getElem?_eq_getElem hlt]; exact List.getElem_mem hlt, he⟩
        rw [this]
      | false =>
        repeat ((conv => whnf); first | (refine And.intro (by first | omega | exact Nat.le_of_ble_eq_true rfl | (dsimp only [inK]; omega) | (simp only [mulS_eq]; omega) | (simp only [mulS_eq, setL_length]; omega) | (simp only [setL_length]; omega) | (simp only [setL_length, List.length_map]; omega) | (exact ⟨by omega, by omega, by first | exact Nat.le_of_ble_eq_true rfl | (dsimp only; omega) | (simp only [setL_length]; omega) | (simp only [setL_length, List.length_map]; omega)⟩) | (exact ⟨by omega, by first | rfl | omega, by omega, Nat.le_of_ble_eq_true rfl, Nat.le_of_ble_eq_true rfl⟩) | (exact ⟨rfl, rfl, rfl, Nat.le_of_ble_eq_true rfl, by first | rfl | omega | exact Nat.le_of_ble_eq_true rfl | (dsimp only; omega) | (simp; done) | (simp; omega), by first | rfl | omega | exact Nat.le_of_ble_eq_true rfl | (dsimp only; omega) | (simp; done) | (simp; omega), by omega, Nat.le_of_ble_eq_true rfl⟩) | exact Eq.refl true) ?_) | with_reducible refine ld (hld) ?_ | refine Exists.intro _ (And.intro rfl ?_) | refine And.intro (And.intro rfl (chk_rowI _ _ _ _)) ?_ | refine br_t (by omega) ?_ | refine br_f (by omega) ?_ | refine bs_t (by omega) ?_ | refine bs_f (by omega) ?_ | refine fun (K' : K3) hK' => ?_ | (refine hK' _ _ _ ?_; clear hK' K') | refine draw_auto tok mixed (by kernel_rfl) ?_ | refine br_bf he ?_ | refine bs_bt (Eq.refl true) ?_ | refine bs_bf (Eq.refl false) ?_ | refine br_bt (Eq.refl true) ?_ | refine br_bf (Eq.refl false) ?_ | refine CallK.m ?_ | refine Two.l ?_ | refine And.intro (And.intro rfl rfl) ?_)
        refine ⟨k + 1, [], ⟨by omega, fun i hi => ?_⟩, by omega, ?_⟩
        · by_cases h : i = k
          · rw [h]; exact he
          · exact hno i (by omega)
        refine ⟨?_, ?_, rfl, rfl, by first | exact Nat.le_of_ble_eq_true rfl | exact Nat.le_refl _ | omega⟩
        · repeat (first | exact trivial | (refine And.intro (covS_syn (by first | rfl | (refine congrArg some (congrArg V.i ?_); omega)) rfl (by first | exact trivial | exact Nat.le_of_ble_eq_true rfl | exact hy | (first | ((show ∀ p ∈ (_ : List (Nat × Nat)), p.1 < _); decide) | exact (fun p hp => nomatch hp)) | (show (_ : Nat) < _; omega))) ?_) | refine And.intro (covS_bool rfl rfl (by rfl)) ?_)
        · repeat (first | exact trivial | (refine And.intro (covE_id (Nat.le_of_ble_eq_true rfl) (by first | exact wf_ints _ _ | exact wf_bools _ _ | first | exact wf_us _ _ | exact wf_cells _ _ | (simp [C.wf]; done) | simp [C.wf]) rfl (by rfl)) ?_))
    · obtain rfl : k = ps.length := by omega
      repeat ((conv => whnf); first | (refine And.intro (by first | omega | exact Nat.le_of_ble_eq_true rfl | (dsimp only [inK]; omega) | (simp only [mulS_eq]; omega) | (simp only [mulS_eq, setL_length]; omega) | (simp only [setL_length]; omega) | (simp only [setL_length, List.length_map]; omega) | (exact ⟨by omega, by omega, by first | exact Nat.le_of_ble_eq_true rfl | (dsimp only; omega) | (simp only [setL_length]; omega) | (simp only [setL_length, List.length_map]; omega)⟩) | (exact ⟨by omega, by first | rfl | omega, by omega, Nat.le_of_ble_eq_true rfl, Nat.le_of_ble_eq_true rfl⟩) | (exact ⟨rfl, rfl, rfl, Nat.le_of_ble_eq_true rfl, by first | rfl | omega | exact Nat.le_of_ble_eq_true rfl | (dsimp only; omega) | (simp; done) | (simp; omega), by first | rfl | omega | exact Nat.le_of_ble_eq_true rfl | (dsimp only; omega) | (simp; done) | (simp; omega), by omega, Nat.le_of_ble_eq_true rfl⟩) | exact Eq.refl true) ?_) | refine Exists.intro _ (And.intro rfl ?_) | refine And.intro (And.intro rfl (chk_rowI _ _ _ _)) ?_ | refine br_t (by omega) ?_ | refine br_f (by omega) ?_ | refine bs_t (by omega) ?_ | refine bs_f (by omega) ?_ | refine fun (K' : K3) hK' => ?_ | (refine hK' _ _ _ ?_; clear hK' K') | refine draw_auto tok mixed (by kernel_rfl) ?_ | refine bs_bt (Eq.refl true) ?_ | refine bs_bf (Eq.refl false) ?_ | refine br_bt (Eq.refl true) ?_ | refine br_bf (Eq.refl false) ?_ | refine CallK.m ?_ | refine Two.l ?_ | refine And.intro (And.intro rfl rfl) ?_)
      intro ρ; show Value.bool _ = Value.bool _
      have : clashI ps a b = false := by
        unfold clashI; rw [List.any_eq_false]
        intro q hq
        obtain ⟨i, hi, rfl⟩ := List.mem_iff_getElem.1 hq
        have := hno i hi
        simpa [List.getD_eq_getElem?_getD, hi] using this
      rw [this]
theorem clashI_cl {n : Nat} {qs : List (Nat × Nat)} (hk : Knd n qs) (a b : Nat) : clashI (castP qs) a b = symC (clP qs) a b := by
  have h1 : ∀ x y : Nat, (clashI (castP qs) a b = true ↔ ∃ p ∈ qs, (p.1 : Int) = (if (b : Int) < a then (b : Int) else a) ∧ (p.2 : Int) = (if (b : Int) > a then (b : Int) else a)) := fun _ _ => by
    simp only [clashI, castP, List.any_map, List.any_eq_true, Function.comp_def, Bool.and_eq_true, decide_eq_true_iff, and_true]
  rw [Bool.eq_iff_iff, h1 0 0]
  unfold symC
  by_cases hab : a < b
  · rw [if_pos hab, clP_iff, if_neg (by omega), if_pos (by omega)]
    constructor
    · rintro ⟨⟨x, y⟩, hp, e1, e2⟩
      simp only at e1 e2
      obtain rfl : x = a := by omega
      obtain rfl : y = b := by omega
      exact hp
    · intro h; exact ⟨_, h, rfl, rfl⟩
  · rw [if_neg hab]
    by_cases hba : b < a
    · rw [if_pos hba, clP_iff, if_pos (by omega), if_neg (by omega)]
      constructor
      · rintro ⟨⟨x, y⟩, hp, e1, e2⟩
        simp only at e1 e2
        obtain rfl : x = b := by omega
        obtain rfl : y = a := by omega
        exact hp
      · intro h; exact ⟨_, h, rfl, rfl⟩
    · rw [if_neg hba, if_neg (by omega), if_neg (by omega)]
      constructor
      · rintro ⟨⟨x, y⟩, hp, e1, e2⟩
        have := hk.ok _ hp
        simp only at e1 e2 this
        omega
      · intro h; cases h
theorem clash_spec (n : Nat) (qs : List (Nat × Nat)) (hk : Knd n qs) (a b : Nat) : Spec Tryd.prog 77 [V.agg [C.i n, C.sl 0 (castP qs).length], V.i a, V.i b] [⟨0, .ro 2, cellC (castP qs)⟩] 1 (Is (V.c (.bool (symC (clP qs) a b)))) := by
  have := clash_any n a b (castP qs) (by rw [castP_len]; have := knd_len hk; omega)
  rw [clashI_cl hk] at this; exact this
end Go.Proofs.YtijnimgmpocmaaaDoor

/- Waste: IndexFunc, whatever is asked. -/
namespace Go.Proofs.YtijnimgmpocmaaaDoor
open Go.RowKit
set_option linter.unusedVariables false
set_option linter.unusedSimpArgs false
def idxV (l : List Int) (p : Int → Bool) : Int := match l.findIdx? p with | some k => (k : Int) | none => -1
end Go.Proofs.YtijnimgmpocmaaaDoor

/- Waste: IndexFunc and ContainsFunc, whatever is asked; fillings. -/
namespace Go.Proofs.YtijnimgmpocmaaaDoor
open Go.RowKit
set_option linter.unusedVariables false
set_option linter.unusedSimpArgs false
def fillBad (x : Int) : Bool := !decide (0 ≤ x ∧ x ≤ 1000)
/-- A list is a filling. -/
def isF (n : Nat) (l : List Int) : Bool := decide ((l.length : Int) = n) && !(l.any fillBad)
/-- A filling is right: row a against its kinds. -/
def rgtK (t : List Nat) (l : List Int) (a k : Nat) : Bool := ((bitsL (t.getD a 0)).take k).all fun b => !decide (l.getD a 0 = l.getD b 0)
def rgtA (t : List Nat) (l : List Int) (a : Nat) : Bool := (bitsL (t.getD a 0)).all fun b => !decide (l.getD a 0 = l.getD b 0)
def rgtR (t : List Nat) (l : List Int) (k : Nat) : Bool := (List.range k).all fun a => rgtA t l a
end Go.Proofs.YtijnimgmpocmaaaDoor

/- Waste: the document's fillings. -/
namespace Go.Proofs.YtijnimgmpocmaaaDoor
open Go.RowKit
set_option linter.unusedVariables false
set_option linter.unusedSimpArgs false
/-- A filling is right: pair by pair. -/
def rgtPk (qs : List (Nat × Nat)) (l : List Int) (k : Nat) : Bool := (qs.take k).all fun p => !decide (l.getD p.1 0 = l.getD p.2 0)
def rgtP (qs : List (Nat × Nat)) (l : List Int) : Bool := qs.all fun p => !decide (l.getD p.1 0 = l.getD p.2 0)
end Go.Proofs.YtijnimgmpocmaaaDoor

/- Waste: Right and Clears, and the document's. -/
namespace Go.Proofs.YtijnimgmpocmaaaDoor
open Go.RowKit
set_option linter.unusedVariables false
set_option linter.unusedSimpArgs false
/-- Numbers and booleans. -/
def SimC : C → Prop
  | .int _ _ => True
  | .bool _ => True
  | .tt => True
  | .ff => True
  | _ => False
theorem sim_b (l : List Bool) : ∀ c ∈ l.map C.bool, SimC c := fun c hc => by obtain ⟨x, _, rfl⟩ := List.mem_map.1 hc; trivial
theorem sim_wf {cs : List C} (h : ∀ c ∈ cs, SimC c) (n : Nat) : ∀ c ∈ cs, c.wf n := fun c hc => by
  have := h c hc
  cases c <;> first | trivial | exact this.elim
theorem sim_chk {cs : List C} (h : ∀ c ∈ cs, SimC c) (p : Nat → Bool) : cs.all (C.chk p) = true := List.all_eq_true.2 fun c hc => by
  have := h c hc
  cases c <;> first | rfl | exact this.elim
theorem sim_ren {cs : List C} (h : ∀ c ∈ cs, SimC c) (R : Rn) : seqO (cs.map (C.ren R)) = some cs := seqO_fix fun c hc => by
  have := h c hc
  cases c <;> first | rfl | exact this.elim
theorem roE_s {R : Rn} {nx lab l z : Nat} {k : Kd} {L : List E} {cs : List C} (h : ∀ c ∈ cs, SimC c) (hr : renL R lab = some l) (h1 : lab < nx) (h3 : find L l = some ⟨l, k, cs⟩) (hz : z = 0 ∨ k.z = some z) : roE R nx L ⟨lab, .ro z, cs⟩ := by
  refine ⟨h1, sim_wf h _, ?_⟩
  show match renL R lab with | some l => _ | none => _
  rw [hr]
  exact ⟨k, _, h3, hz, sim_ren h _⟩
/-- A row that may be nil, and an error. -/
def optE (t z m : Nat) (cs : List C) (Er : Int) (v : V) (L' : List E) : Prop :=
  ∃ o : C, v = V.tup [A.c o, A.c (C.i Er)] ∧ ((o = C.nil ∧ m = 0 ∧ cs = []) ∨ ∃ lab, o = C.sl lab m ∧ find L' lab = some ⟨lab, .vec t z, cs⟩)
section
variable {P : Program} {n0 nx nac : Nat} {f : FuncId} {vs vs' : List V} {Lc L : List E} {R : Rn} {K : V → List E → Nat → Prop}
theorem CallK.optE {t z m : Nat} {Er : Int} {cs : List C} (hs : ∀ c ∈ cs, SimC c) (spec : Spec P f vs Lc nac (fun v L' _ => optE t z m cs Er v L')) (hok : callB P f = true)
    (hv : renVs R vs = some vs') (hvw : ∀ v ∈ vs, v.wf nac) (hL : roL R nac L Lc) (hLc : injB [] Lc = true)
    (hK : K (V.tup [A.c (.sl nx m), A.c (C.i Er)]) [⟨nx, .vec t z, cs⟩] (nx + 1)) : CallK P n0 f vs' L nx K := by
  refine CallK.mk' hok spec hv hvw hL hLc ?_
  rintro v L' nx' hw ⟨o, rfl, ⟨rfl, rfl, rfl⟩ | ⟨lab, rfl, hf⟩⟩
  · refine ⟨V.tup [A.c (.sl nx 0), A.c (C.i Er)], [⟨nx, .vec t z, []⟩], nx + 1, [(nx, none)], ⟨Nat.le_succ _, ?_, ?_, ⟨covE_nil (renL_one _ _) (Nat.lt_succ_self nx) rfl rfl, trivial⟩, rfl, ?_⟩, hK⟩
    · simp [V.ren, A.ren, C.ren, renL_one, C.i, seqO]
    · simp [V.chk, A.chk, C.chk, inLab_one, C.i]
    · simp only [List.all_cons, List.all_nil, Bool.and_true, inLab_one, Kd.isRo, Bool.not_false]
  · refine ⟨V.tup [A.c (.sl nx m), A.c (C.i Er)], [⟨nx, .vec t z, cs⟩], nx + 1, [(nx, some lab)], ⟨Nat.le_succ _, ?_, ?_, ⟨covE_some (renL_one _ _) (Nat.lt_succ_self nx) (sim_wf hs _) hf (sim_ren hs _), trivial⟩, rfl, ?_⟩, hK⟩
    · simp [V.ren, A.ren, C.ren, renL_one, C.i, seqO]
    · simp [V.chk, A.chk, C.chk, inLab_one, C.i]
    · simp only [List.all_cons, List.all_nil, Bool.and_true, inLab_one, Kd.isRo, Bool.not_false, Bool.true_and]
      exact sim_chk hs _
end
@[reducible] def kV (N : Int) (ps : List Cell) : V := V.agg [C.i N, C.sl 0 ps.length]
/-- What Right says. -/
def rightO (n : Nat) (qs : List (Nat × Nat)) (l : List Int) : V := if isF n l then V.tup [A.c (.bool (rgtP qs l)), A.c (C.i 0)] else V.tup [A.c .ff, A.c (C.i 71)]
section
variable (N : Int) (ps : List Cell) (l : List Int) (hl : ps.length ≤ 100) (hll : l.length ≤ 300) (hv : okK' N ps = false)
set_option maxRecDepth 10000 in
set_option maxHeartbeats 4000000 in
include hl hv in
set_option maxRecDepth 10000 in
set_option maxHeartbeats 4000000 in
include hl hv in
set_option maxRecDepth 10000 in
set_option maxHeartbeats 4000000 in
include hl hv in
set_option maxRecDepth 10000 in
set_option maxHeartbeats 4000000 in
include hl hv in
set_option maxRecDepth 10000 in
set_option maxHeartbeats 4000000 in
include hl hv in
end
section
variable (n : Nat) (qs : List (Nat × Nat)) (l : List Int) (hk : Knd n qs) (hll : l.length ≤ 300)
set_option maxRecDepth 10000 in
set_option maxHeartbeats 4000000 in
include hk hll in
end
end Go.Proofs.YtijnimgmpocmaaaDoor

/- Waste: Clears, and the document's Right and Clears. -/
namespace Go.Proofs.YtijnimgmpocmaaaDoor
open Go.RowKit
set_option linter.unusedVariables false
set_option linter.unusedSimpArgs false
/-- The order of loading that a filling clears. -/
def clrL (qs : List (Nat × Nat)) (l : List Int) : List Bool := qs.map fun p => decide (l.getD p.1 0 < l.getD p.2 0)
section
variable (n : Nat) (qs : List (Nat × Nat)) (l : List Int) (hk : Knd n qs) (hll : l.length ≤ 300)
set_option maxRecDepth 10000 in
set_option maxHeartbeats 4000000 in
include hk hll in
set_option maxRecDepth 10000 in
set_option maxHeartbeats 8000000 in
include hk hll in
set_option maxRecDepth 10000 in
set_option maxHeartbeats 4000000 in
include hk hll in
set_option maxRecDepth 10000 in
set_option maxHeartbeats 4000000 in
include hk hll in
set_option maxRecDepth 10000 in
set_option maxHeartbeats 4000000 in
include hk hll in
set_option maxRecDepth 10000 in
set_option maxHeartbeats 8000000 in
include hk hll in
end
end Go.Proofs.YtijnimgmpocmaaaDoor

/- Waste, plain: a right filling clears a right order of loading. -/
namespace Go.Proofs.YtijnimgmpocmaaaDoor
open Go.RowKit
set_option linter.unusedVariables false
set_option linter.unusedSimpArgs false
theorem getD_setN (t : List Nat) (i v k : Nat) : (t.set i v).getD k 0 = if i = k ∧ k < t.length then v else t.getD k 0 := getD_set t i v k
theorem dif_zero {s f : Nat} (h : ∀ b, s.testBit b = true → f.testBit b = true) : dif s f = 0 := by
  apply Nat.eq_of_testBit_eq; intro b
  rw [Nat.zero_testBit, dif_bit]
  cases hs : s.testBit b with
  | false => rfl
  | true => rw [h b hs]; rfl
theorem dif_zero_iff {s f : Nat} : dif s f = 0 ↔ ∀ b, s.testBit b = true → f.testBit b = true := by
  refine ⟨fun h b hb => ?_, dif_zero⟩
  have := dif_bit s f b
  rw [h, Nat.zero_testBit, hb] at this
  simpa using this.symm
theorem ldA_mono (t : List Nat) (L : Nat) {b : Nat} : ∀ (a a' : Nat), a ≤ a' → (ldA t L a).testBit b = true → (ldA t L a').testBit b = true
  | a, 0, h, hb => by obtain rfl : a = 0 := by omega
                      exact hb
  | a, a' + 1, h, hb => by
    rcases Nat.lt_or_ge a (a' + 1) with h1 | h1
    · have := ldA_mono t L a a' (by omega) hb
      simp only [ldA]
      split
      · rw [Nat.testBit_or, this]; rfl
      · exact this
    · obtain rfl : a = a' + 1 := by omega
      exact hb
theorem ldA_set {t : List Nat} {L a n : Nat} (ha : a < n) (h : ∀ b, (t.getD a 0).testBit b = true → (ldA t L a).testBit b = true) : (ldA t L n).testBit a = true := by
  refine ldA_mono t L (a + 1) n ha ?_
  simp only [ldA]
  rw [if_pos (dif_zero h), Nat.testBit_or, Nat.testBit_two_pow_self]; simp
theorem ldA_high {t : List Nat} {L n b : Nat} (hL : L.testBit b = true → b < n) : ∀ a, a ≤ n → (ldA t L a).testBit b = true → b < n
  | 0, _, h => hL h
  | a + 1, ha, h => by
    simp only [ldA] at h
    split at h
    · rw [Nat.testBit_or, Nat.testBit_two_pow, Bool.or_eq_true, decide_eq_true_iff] at h
      rcases h with h | h
      · exact ldA_high hL a (by omega) h
      · omega
    · exact ldA_high hL a (by omega) h
theorem ldR_high {t : List Nat} {n b : Nat} : ∀ k, (ldR t n k).testBit b = true → b < n
  | 0, h => by simp [ldR] at h
  | k + 1, h => ldA_high (ldR_high k) n (Nat.le_refl _) h
theorem bits_all {X n : Nat} (hn : n ≤ 8) (h1 : ∀ a, a < n → X.testBit a = true) (h2 : ∀ b, X.testBit b = true → b < n) : (bitsL X).length = n := by
  have a := nodup_len (bitsL_nodup X) (m := List.range n) fun b hb => List.mem_range.2 (h2 b (mem_bitsL.1 hb).2)
  have b := nodup_len (List.nodup_range (n := n)) (m := bitsL X) fun b hb => by
    have := List.mem_range.1 hb
    exact mem_bitsL.2 ⟨by omega, h1 b this⟩
  rw [List.length_range] at a b
  omega
end Go.Proofs.YtijnimgmpocmaaaDoor

/- Waste, plain: orders of loading in rounds. -/
namespace Go.Proofs.YtijnimgmpocmaaaDoor
open Go.RowKit
set_option linter.unusedVariables false
set_option linter.unusedSimpArgs false
/-- The pair by number: who is first, who is second. -/
def prd (qs : List (Nat × Nat)) (bs : List Bool) (i : Nat) : Nat × Nat := if bs.getD i false = true then qs.getD i (0, 0) else ((qs.getD i (0, 0)).2, (qs.getD i (0, 0)).1)
def okJ (qs : List (Nat × Nat)) (bs : List Bool) (f : Nat → Bool) (a : Nat) : Nat → Bool
  | 0 => true
  | i + 1 => okJ qs bs f a i && (!decide ((prd qs bs i).2 = a) || f (prd qs bs i).1)
def jac (qs : List (Nat × Nat)) (bs : List Bool) : Nat → Nat → Bool
  | 0, _ => false
  | r + 1, a => jac qs bs r a || okJ qs bs (jac qs bs r) a qs.length
section
variable {n : Nat} {qs : List (Nat × Nat)} {bs : List Bool}
theorem okJ_iff {f : Nat → Bool} {a : Nat} : ∀ {k : Nat}, okJ qs bs f a k = true ↔ ∀ i, i < k → (prd qs bs i).2 = a → f (prd qs bs i).1 = true
  | 0 => by simp [okJ]
  | k + 1 => by
    simp only [okJ, Bool.and_eq_true, Bool.or_eq_true, Bool.not_eq_true', decide_eq_false_iff_not]
    rw [okJ_iff]
    constructor
    · rintro ⟨h1, h2⟩ i hi he
      rcases Nat.lt_or_ge i k with h | h
      · exact h1 i h he
      · obtain rfl : i = k := by omega
        exact h2.resolve_left (fun h => h he)
    · intro h
      refine ⟨fun i hi he => h i (by omega) he, ?_⟩
      by_cases he : (prd qs bs k).2 = a
      · exact .inr (h k (by omega) he)
      · exact .inl he
theorem jac_succ {r a : Nat} (h : jac qs bs r a = true) : jac qs bs (r + 1) a = true := by simp [jac, h]
theorem jac_mono {r a : Nat} : ∀ {r' : Nat}, r ≤ r' → jac qs bs r a = true → jac qs bs r' a = true
  | 0, h, hj => by obtain rfl : r = 0 := by omega
                   exact hj
  | r' + 1, h, hj => by
    rcases Nat.lt_or_ge r (r' + 1) with h1 | h1
    · exact jac_succ (jac_mono (by omega) hj)
    · obtain rfl : r = r' + 1 := by omega
      exact hj
theorem prd_lt (hk : Knd n qs) {i : Nat} (hi : i < qs.length) : (prd qs bs i).1 < n ∧ (prd qs bs i).2 < n := by
  have := hk.ok _ (getD_mem hi)
  unfold prd
  split
  · omega
  · simp only; omega
theorem fstK_bit (hk : Knd n qs) : ∀ k, k ≤ qs.length → ∀ a b, ((fstK n qs bs k).getD a 0).testBit b = true ↔ ∃ i, i < k ∧ prd qs bs i = (b, a)
  | 0, _, a, b => by
    have : ((List.replicate n 0).getD a 0).testBit b = false := by
      rw [List.getD_eq_getElem?_getD, List.getElem?_replicate]; split <;> simp
    show ((List.replicate n 0).getD a 0).testBit b = true ↔ _
    rw [this]
    exact ⟨fun h => (by cases h), fun ⟨i, hi, _⟩ => by omega⟩
  | k + 1, hkk, a, b => by
    have hp := hk.ok _ (getD_mem (show k < qs.length by omega))
    have ih := fstK_bit hk k (by omega) a b
    have hl := fstK_len n qs bs k
    have step : ((fstK n qs bs (k + 1)).getD a 0).testBit b = true ↔ ((fstK n qs bs k).getD a 0).testBit b = true ∨ prd qs bs k = (b, a) := by
      show ((fst1 (fstK n qs bs k) (qs.getD k (0, 0)) (bs.getD k false)).getD a 0).testBit b = true ↔ _
      unfold fst1 prd
      split
      · rw [getD_setN]
        split
        · rename_i he
          rw [he.1, Nat.testBit_or, Nat.testBit_two_pow, Bool.or_eq_true, decide_eq_true_iff]
          refine or_congr Iff.rfl ⟨fun h => Prod.ext h he.1, fun h => congrArg Prod.fst h⟩
        · rename_i he
          exact ⟨.inl, fun h => h.resolve_right fun e => he ⟨congrArg Prod.snd e, by have := congrArg Prod.snd e; simp only at this; omega⟩⟩
      · rw [getD_setN]
        split
        · rename_i he
          rw [he.1, Nat.testBit_or, Nat.testBit_two_pow, Bool.or_eq_true, decide_eq_true_iff]
          refine or_congr Iff.rfl ⟨fun h => Prod.ext h rfl, fun h => congrArg Prod.fst h⟩
        · rename_i he
          exact ⟨.inl, fun h => h.resolve_right fun e => he ⟨congrArg Prod.snd e, by have := congrArg Prod.snd e; simp only at this; omega⟩⟩
    rw [step, ih]
    constructor
    · rintro (⟨i, hi, h⟩ | h)
      · exact ⟨i, by omega, h⟩
      · exact ⟨k, by omega, h⟩
    · rintro ⟨i, hi, h⟩
      rcases Nat.lt_or_ge i k with h1 | h1
      · exact .inl ⟨i, h1, h⟩
      · obtain rfl : i = k := by omega
        exact .inr h
theorem ldA_sub {t : List Nat} {n L : Nat} {S : Nat → Prop} (hS : ∀ a, a < n → (∀ b, (t.getD a 0).testBit b = true → S b) → S a) (hL : ∀ b, L.testBit b = true → S b) : ∀ a, a ≤ n → ∀ b, (ldA t L a).testBit b = true → S b
  | 0, _, b, h => hL b h
  | a + 1, ha, b, h => by
    simp only [ldA] at h
    split at h
    · rename_i hz
      rw [Nat.testBit_or, Nat.testBit_two_pow, Bool.or_eq_true, decide_eq_true_iff] at h
      rcases h with h | rfl
      · exact ldA_sub hS hL a (by omega) b h
      · exact hS a (by omega) fun b hb => ldA_sub hS hL a (by omega) b (dif_zero_iff.1 hz b hb)
    · exact ldA_sub hS hL a (by omega) b h
theorem ldR_sub {t : List Nat} {n : Nat} {S : Nat → Prop} (hS : ∀ a, a < n → (∀ b, (t.getD a 0).testBit b = true → S b) → S a) : ∀ k b, (ldR t n k).testBit b = true → S b
  | 0, b, h => by simp [ldR] at h
  | k + 1, b, h => ldA_sub hS (ldR_sub hS k) n (Nat.le_refl _) b h
theorem bits_all' {X n : Nat} (h : (bitsL X).length = n) (h2 : ∀ b, X.testBit b = true → b < n) (a : Nat) (ha : a < n) : X.testBit a = true := by
  cases hx : X.testBit a with
  | true => rfl
  | false =>
    exfalso
    have := nodup_len (l := a :: bitsL X) (m := List.range n) (List.nodup_cons.2 ⟨fun hm => by rw [mem_bitsL, hx] at hm; exact absurd hm.2 (by simp), bitsL_nodup X⟩) fun b hb => by
      rcases List.mem_cons.1 hb with rfl | hb
      · simpa using ha
      · exact List.mem_range.2 (h2 b (mem_bitsL.1 hb).2)
    rw [List.length_cons, List.length_range] at this; omega
theorem isLd_iff (hk : Knd n qs) : isLd n qs bs = true ↔ ∀ a, a < n → (ldR (fstK n qs bs qs.length) n n).testBit a = true := by
  unfold isLd
  rw [decide_eq_true_iff]
  refine ⟨fun h a ha => bits_all' (by omega) (fun b hb => ldR_high n hb) a ha, fun h => ?_⟩
  rw [bits_all hk.rng.2 h fun b hb => ldR_high n hb]
def crd (f : Nat → Bool) : Nat → Nat
  | 0 => 0
  | a + 1 => crd f a + if f a then 1 else 0
theorem crd_le (f : Nat → Bool) : ∀ a, crd f a ≤ a
  | 0 => Nat.le_refl _
  | a + 1 => by have := crd_le f a; simp only [crd]; split <;> omega
theorem crd_all {f : Nat → Bool} : ∀ {a}, crd f a = a → ∀ b, b < a → f b = true
  | a + 1, h, b, hb => by
    have h1 := crd_le f a
    simp only [crd] at h
    split at h
    · rcases Nat.lt_or_ge b a with h2 | h2
      · exact crd_all (by omega) b h2
      · obtain rfl : b = a := by omega
        assumption
    · omega
theorem crd_mono {f g : Nat → Bool} : ∀ {a}, (∀ b, b < a → f b = true → g b = true) → crd f a ≤ crd g a
  | 0, _ => Nat.le_refl _
  | a + 1, h => by
    have := crd_mono (a := a) fun b hb => h b (by omega)
    have h2 := h a (by omega)
    simp only [crd]
    cases hf : f a with
    | true => rw [h2 hf]; simp only [if_true]; omega
    | false => simp only [Bool.false_eq_true, if_false]; split <;> omega
theorem crd_lt {f g : Nat → Bool} : ∀ {a}, (∀ b, b < a → f b = true → g b = true) → (∃ b, b < a ∧ f b = false ∧ g b = true) → crd f a < crd g a
  | 0, _, ⟨b, hb, _⟩ => by omega
  | a + 1, h, ⟨b, hb, h1, h2⟩ => by
    have hm := crd_mono (a := a) (f := f) (g := g) fun b hb => h b (by omega)
    have h3 := h a (by omega)
    simp only [crd]
    rcases Nat.lt_or_ge b a with h4 | h4
    · have := crd_lt (a := a) (fun b hb => h b (by omega)) ⟨b, h4, h1, h2⟩
      cases hf : f a with
      | true => rw [h3 hf]; simp only [if_true]; omega
      | false => simp only [Bool.false_eq_true, if_false]; split <;> omega
    · obtain rfl : b = a := by omega
      rw [h1, h2]; simp; omega
theorem jac_grow (n : Nat) : ∀ r, (∃ s, s ≤ r ∧ ∀ a, a < n → jac qs bs (s + 1) a = true → jac qs bs s a = true) ∨ r ≤ crd (jac qs bs r) n
  | 0 => .inr (Nat.zero_le _)
  | r + 1 => by
    rcases jac_grow n r with ⟨s, hs, h⟩ | h
    · exact .inl ⟨s, by omega, h⟩
    · by_cases hx : ∃ b, b < n ∧ jac qs bs r b = false ∧ jac qs bs (r + 1) b = true
      · have := crd_lt (a := n) (f := jac qs bs r) (g := jac qs bs (r + 1)) (fun b _ => jac_succ) hx
        exact .inr (by omega)
      · refine .inl ⟨r, by omega, fun a ha h1 => ?_⟩
        cases h2 : jac qs bs r a with
        | true => rfl
        | false => exact absurd ⟨a, ha, h2, h1⟩ hx
theorem isLd_jac (hk : Knd n qs) : isLd n qs bs = true ↔ ∀ a, a < n → jac qs bs n a = true := by
  rw [isLd_iff hk]
  constructor
  · intro h a ha
    rcases jac_grow (qs := qs) (bs := bs) n n with ⟨s, hs, hst⟩ | hc
    · refine jac_mono hs ?_
      refine ldR_sub (S := fun a => jac qs bs s a = true) (n := n) (t := fstK n qs bs qs.length) (fun a ha hb => hst a ha ?_) n a (h a ha)
      simp only [jac, Bool.or_eq_true]
      refine .inr (okJ_iff.2 fun i hi he => hb _ ((fstK_bit hk _ (Nat.le_refl _) _ _).2 ⟨i, hi, Prod.ext rfl he⟩))
    · have := crd_le (jac qs bs n) n
      exact crd_all (by omega) a ha
  · intro h a ha
    have key : ∀ r a, a < n → jac qs bs r a = true → (ldR (fstK n qs bs qs.length) n r).testBit a = true := by
      intro r
      induction r with
      | zero => intro a _ h; simp [jac] at h
      | succ r ih =>
        intro a ha h
        simp only [jac, Bool.or_eq_true] at h
        show (ldA _ (ldR (fstK n qs bs qs.length) n r) n).testBit a = true
        rcases h with h | h
        · exact ldA_mono _ _ 0 n (Nat.zero_le _) (ih a ha h)
        · refine ldA_set ha fun b hb => ldA_mono _ _ 0 a (Nat.zero_le _) ?_
          obtain ⟨i, hi, he⟩ := (fstK_bit hk _ (Nat.le_refl _) _ _).1 hb
          have h1 := okJ_iff.1 h i hi (by rw [he])
          have h2 := (prd_lt (bs := bs) hk hi).1
          rw [he] at h1 h2
          exact ih b h2 h1
    exact key n a ha (h a ha)
def cntJ (qs : List (Nat × Nat)) (bs : List Bool) (x : Nat) : Nat → Nat
  | 0 => 0
  | m + 1 => cntJ qs bs x m + if jac qs bs m x then 0 else 1
end
end Go.Proofs.YtijnimgmpocmaaaDoor

