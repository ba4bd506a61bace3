/- Texts of the proof, part 5: U27, G2, G3, G4, V6, N6, G5, G6, G7, V11, V9, N7, N8d, N8, N9, N10, N11, V7, N12, N13, V8, N14, V10, E4, F5, F6, F7, E5, E6, E7, F8, F1, F2, F3. -/
import Derived.Test.YtjijjncddjkdlaaW4
import Derived.WalkKit
import Derived.Below
import Derived.Laws.OwnMore
import Derived.Maps.AppendAt
import Derived.Laws.IdiomCopy
import Derived.Laws.CopyRow
import Derived.IntWalk
import Derived.StillTail
import Derived.Scope
import Derived.ChangeKeysEq
import Derived.Laws.Small
import Derived.OrdersIn
import Derived.TacticsIn
import Derived.OwnWalkIn
import Derived.RangeFuncNested
import Derived.RangeFuncLeaves
import Derived.RangeFuncRecord
import Derived.Maps.Keyed
import Derived.Maps.RangeRun
import Derived.DeepKeys4
import Derived.Test.YtjijjncddjkdlaaRows
import Derived.KernelRfl
import Derived.ProofKit
import Derived.OpenShut
import Derived.Lib.SmallJoins
import Derived.Deep.Slices
import Derived.PlainAid
import Derived.StillTailTactics
import Derived.WalkSpells
import Derived.OwnWalk
import Derived.Lib.AppendZerosOnto
import Derived.Lib.AppendZeros
import Derived.Deep.AppendSrc
import Derived.Lib.SliceRun
import Derived.Lib.Walk
/- Shore: how many orders there are. -/
namespace Go.Proofs.Ytjijjncddjkdlaa
open Go.RowKit
set_option linter.unusedVariables false
set_option linter.unusedSimpArgs false
/-- So many ways, when i jobs of a beach have found their places among those in front. -/
def numI (o m : Nat) : Nat → Nat
  | 0 => o
  | i + 1 => numI o m i * (m + i + 1) / (i + 1)
def numJ (j : Coast) : Nat → Nat
  | 0 => 1
  | b + 1 => numI (numJ j b) (manyN j b) (j.getD b []).length
theorem numI_bd (o m : Nat) : ∀ {i : Nat}, m + i ≤ 12 → numI o m i ≤ o * 12 ^ i
  | 0, _ => by simp [numI]
  | i + 1, h => by
    have h1 := numI_bd o m (i := i) (by omega)
    simp only [numI]
    refine Nat.le_trans (Nat.div_le_self _ _) ?_
    rw [Nat.pow_succ, ← Nat.mul_assoc]
    exact Nat.mul_le_mul h1 (by omega)
theorem numJ_bd {j : Coast} : ∀ {b : Nat}, b ≤ j.length → manyN j b ≤ 12 → numJ j b ≤ 12 ^ manyN j b
  | 0, _, _ => by simp [numJ, manyN]
  | b + 1, hb, h => by
    have e := manyN_succ (j := j) (k := b) (by omega)
    rw [e] at h ⊢
    have h1 := numJ_bd (j := j) (b := b) (by omega) (by omega)
    have h2 := numI_bd (numJ j b) (manyN j b) (i := (j.getD b []).length) h
    simp only [numJ]
    rw [Nat.pow_add]
    exact Nat.le_trans h2 (Nat.mul_le_mul_right _ h1)
theorem manyN_mono (j : Coast) : ∀ {a b : Nat}, a ≤ b → b ≤ j.length → manyN j a ≤ manyN j b
  | a, 0, h, _ => by obtain rfl : a = 0 := by omega
                     exact Nat.le_refl _
  | a, b + 1, h, hb => by
    by_cases hab : a = b + 1
    · rw [hab]; exact Nat.le_refl _
    · have := manyN_mono j (a := a) (b := b) (by omega) (by omega)
      have e := manyN_succ (j := j) (k := b) (by omega)
      omega
set_option maxHeartbeats 1000000 in
set_option maxRecDepth 100000 in
theorem number_spec (j : Coast) (hj : Sized j) (hv : validL j = true) : Spec Try.prog 38 [V.c (.sl 0 j.length)] (⟨0, .ro 1, slsC 1 j⟩ :: entC 1 j) 32 (Is (.tup [.c (.i (numJ j j.length : Nat)), .c (.i 0)])) := by
  have hj20 := hj.len
  have hlen := slsC_len (b := 1) (j := j)
  have hC := hasC0 hj
  have hc := validL_coast hj hv
  have h12 : manyN j j.length ≤ 12 := by simp only [validL, Bool.and_eq_true, decide_eq_true_eq] at hv; omega
  have hp12 : ∀ m, m ≤ 12 → 12 ^ m ≤ 8916100448256 := fun m hm => Nat.le_trans (Nat.pow_le_pow_right (by omega) hm) (by decide)
  refine Spec.of tok Try.func38 rfl rfl rfl fun n0 cx => vc_ok tok ?_
  repeat ((conv => whnf); first | (refine And.intro (by first | omega | exact Nat.le_of_ble_eq_true rfl | (dsimp only [inK]; omega) | (simp only [mulS_eq]; omega) | (simp only [mulS_eq, setL_length]; omega) | (simp only [setL_length]; omega) | (simp only [setL_length, List.length_map]; omega) | (exact ⟨by omega, by omega, by first | exact Nat.le_of_ble_eq_true rfl | (dsimp only; omega) | (simp only [setL_length]; omega) | (simp only [setL_length, List.length_map]; omega)⟩) | (exact ⟨by omega, by first | rfl | omega, by omega, Nat.le_of_ble_eq_true rfl, Nat.le_of_ble_eq_true rfl⟩) | (exact ⟨rfl, rfl, rfl, Nat.le_of_ble_eq_true rfl, by first | rfl | omega | exact Nat.le_of_ble_eq_true rfl | (dsimp only; omega) | (simp; done) | (simp; omega), by first | rfl | omega | exact Nat.le_of_ble_eq_true rfl | (dsimp only; omega) | (simp; done) | (simp; omega), by omega, Nat.le_of_ble_eq_true rfl⟩) | exact Eq.refl true) ?_) | refine Exists.intro _ (And.intro rfl ?_) | refine And.intro (And.intro rfl (chk_rowI _ _ _ _)) ?_ | refine br_t (by omega) ?_ | refine br_f (by omega) ?_ | refine bs_t (by omega) ?_ | refine bs_f (by omega) ?_ | refine fun (K' : K3) hK' => ?_ | (refine hK' _ _ _ ?_; clear hK' K') | refine CallM.eq (by kernel_rfl) (open_spec j hj _ _ hC) ?_ | refine draw_auto tok mixed (by kernel_rfl) ?_ | rw [hv] | refine bs_bt (Eq.refl true) ?_ | refine bs_bf (Eq.refl false) ?_ | refine br_bt (Eq.refl true) ?_ | refine br_bf (Eq.refl false) ?_ | refine CallK.m ?_ | refine Two.l ?_ | refine And.intro (And.intro rfl rfl) ?_)
  refine Tri.loop (γ := Nat) (fun b => b ≤ j.length) (fun b => [(6, V.i (numJ j b : Nat)), (7, V.i (manyN j b : Nat)), (19, V.c (.sl 0 j.length)), (20, V.i j.length), (21, V.i (b : Nat))])
    (fun b => ⟨0, .ro 1, slsC 1 j⟩ :: entC 1 j) 32 (fun b => j.length - b) 0 (R0 := []) ?_ ?_ ?_
  · omega
  · skip
    refine ⟨?_, ?_, injB_ent (p := [_]) (by omega) rfl rfl, rfl, by first | exact Nat.le_of_ble_eq_true rfl | exact Nat.le_refl _ | omega⟩
    · repeat (first | exact trivial | (refine And.intro (covS_syn (by rfl) rfl (by first | exact trivial | exact Nat.le_of_ble_eq_true rfl | exact hy | (first | ((show ∀ p ∈ (_ : List (Nat × Nat)), p.1 < _); decide) | exact (fun p hp => nomatch hp)) | (show (_ : Nat) < _; omega))) ?_) | refine And.intro (covS_bool rfl rfl (by rfl)) ?_)
    · repeat (first | exact trivial | (exact covL_ent (by omega) (fun k hk => by (try simp only [flatN]); (repeat (first | rw [find_skip (by omega)] | rw [find_hi (by omega) (by rfl)])))) | (refine And.intro (covE_id (Nat.le_of_ble_eq_true rfl) (by first | exact wf_ints _ _ | exact wf_bools _ _ | first | exact wf_sls _ _ _ (by omega) | exact wf_jobs _ _ | simp [C.wf]) rfl (by rfl)) ?_))
  · intro b hb
    refine vc_ok tok ?_
    by_cases hlt : b < j.length
    · have hjk := hc.jobs b hlt
      have hmm := manyN_mono j (a := b + 1) (b := j.length) (by omega) (Nat.le_refl _)
      have hms := manyN_succ (j := j) (k := b) hlt
      have hns : numJ j (b + 1) = numI (numJ j b) (manyN j b) (j.getD b []).length := rfl
      have hob := numJ_bd (j := j) (b := b) (by omega) (by omega)
      obtain ⟨m, hm⟩ : ∃ m, m = manyN j b := ⟨_, rfl⟩
      obtain ⟨o, ho⟩ : ∃ o, o = numJ j b := ⟨_, rfl⟩
      rw [← hm] at hms hns hob
      rw [← ho] at hns hob
      rw [← hm, ← ho]
      repeat ((conv => whnf); first | (refine And.intro (by first | omega | exact Nat.le_of_ble_eq_true rfl | (dsimp only [inK]; omega) | (simp only [mulS_eq]; omega) | (simp only [mulS_eq, setL_length]; omega) | (simp only [setL_length]; omega) | (simp only [setL_length, List.length_map]; omega) | (exact ⟨by omega, by omega, by first | exact Nat.le_of_ble_eq_true rfl | (dsimp only; omega) | (simp only [setL_length]; omega) | (simp only [setL_length, List.length_map]; omega)⟩) | (exact ⟨by omega, by first | rfl | omega, by omega, Nat.le_of_ble_eq_true rfl, Nat.le_of_ble_eq_true rfl⟩) | (exact ⟨rfl, rfl, rfl, Nat.le_of_ble_eq_true rfl, by first | rfl | omega | exact Nat.le_of_ble_eq_true rfl | (dsimp only; omega) | (simp; done) | (simp; omega), by first | rfl | omega | exact Nat.le_of_ble_eq_true rfl | (dsimp only; omega) | (simp; done) | (simp; omega), by omega, Nat.le_of_ble_eq_true rfl⟩) | exact Eq.refl true) ?_) | with_reducible refine ld (slL hlt) ?_ | refine Exists.intro _ (And.intro rfl ?_) | refine And.intro (And.intro rfl (chk_rowI _ _ _ _)) ?_ | refine br_t (by omega) ?_ | refine br_f (by omega) ?_ | refine bs_t (by omega) ?_ | refine bs_f (by omega) ?_ | refine fun (K' : K3) hK' => ?_ | (refine hK' _ _ _ ?_; clear hK' K') | refine draw_auto tok mixed (by kernel_rfl) ?_ | refine bs_bt (Eq.refl true) ?_ | refine bs_bf (Eq.refl false) ?_ | refine br_bt (Eq.refl true) ?_ | refine br_bf (Eq.refl false) ?_ | refine CallK.m ?_ | refine Two.l ?_ | refine And.intro (And.intro rfl rfl) ?_)
      refine Tri.loop (γ := Nat) (fun i => i ≤ (j.getD b []).length) (fun i => [(6, V.i (numI o m i : Nat)), (7, V.i ((m : Nat) + (i : Nat))), (19, V.c (.sl 0 j.length)), (20, V.i j.length), (21, V.i (b : Nat)), (26, V.i (j.getD b []).length), (27, V.i (i : Nat))])
        (fun i => ⟨0, .ro 1, slsC 1 j⟩ :: entC 1 j) 32 (fun i => (j.getD b []).length - i) 0 (R0 := []) ?_ ?_ ?_
      · omega
      · skip
        refine ⟨?_, ?_, injB_ent (p := [_]) (by omega) rfl rfl, rfl, by first | exact Nat.le_of_ble_eq_true rfl | exact Nat.le_refl _ | omega⟩
        · repeat (first | exact trivial | (refine And.intro (covS_syn (by first | rfl | (refine congrArg some (congrArg V.i ?_); simp)) rfl (by first | exact trivial | exact Nat.le_of_ble_eq_true rfl | exact hy | (first | ((show ∀ p ∈ (_ : List (Nat × Nat)), p.1 < _); decide) | exact (fun p hp => nomatch hp)) | (show (_ : Nat) < _; omega))) ?_) | refine And.intro (covS_bool rfl rfl (by rfl)) ?_)
        · repeat (first | exact trivial | (exact covL_ent (by omega) (fun k hk => by (try simp only [flatN]); (repeat (first | rw [find_skip (by omega)] | rw [find_hi (by omega) (by rfl)])))) | (refine And.intro (covE_id (Nat.le_of_ble_eq_true rfl) (by first | exact wf_ints _ _ | exact wf_bools _ _ | first | exact wf_sls _ _ _ (by omega) | exact wf_jobs _ _ | simp [C.wf]) rfl (by rfl)) ?_))
      · intro i hi
        refine vc_ok tok ?_
        by_cases hil : i < (j.getD b []).length
        · have hs : numI o m (i + 1) = numI o m i * (m + i + 1) / (i + 1) := rfl
          have hb1 := numI_bd o m (i := i) (by omega)
          have hb2 : numI o m i ≤ 8916100448256 := by
            refine Nat.le_trans hb1 (Nat.le_trans (Nat.mul_le_mul_right _ hob) ?_)
            rw [← Nat.pow_add]; exact hp12 _ (by omega)
          obtain ⟨x, hx⟩ : ∃ x, x = numI o m i := ⟨_, rfl⟩
          rw [← hx] at hs hb2 ⊢
          have hpr : 0 ≤ ((x : Nat) : Int) * (((m : Nat) : Int) + ((i : Nat) : Int) + 1) ∧ ((x : Nat) : Int) * (((m : Nat) : Int) + ((i : Nat) : Int) + 1) ≤ 200000000000000 := by
            have h1 : x * (m + i + 1) ≤ 8916100448256 * 12 := Nat.mul_le_mul hb2 (by omega)
            have h2 : ((x * (m + i + 1) : Nat) : Int) = ((x : Nat) : Int) * (((m : Nat) : Int) + ((i : Nat) : Int) + 1) := by push_cast; rfl
            omega
          have hq : ((x : Nat) : Int) * (((m : Nat) : Int) + ((i : Nat) : Int) + 1) / (((i : Nat) : Int) + 1) = ((numI o m (i + 1) : Nat) : Int) := by
            rw [hs]; push_cast; rfl
          have hqb : 0 ≤ ((x : Nat) : Int) * (((m : Nat) : Int) + ((i : Nat) : Int) + 1) / (((i : Nat) : Int) + 1) ∧ ((x : Nat) : Int) * (((m : Nat) : Int) + ((i : Nat) : Int) + 1) / (((i : Nat) : Int) + 1) ≤ 200000000000000 := by
            have h1 := Int.ediv_nonneg hpr.1 (show (0 : Int) ≤ ((i : Nat) : Int) + 1 by omega)
            have h2 := Int.ediv_le_self (((i : Nat) : Int) + 1) hpr.1
            omega
          repeat ((conv => whnf); first | (refine And.intro (by first | omega | exact Nat.le_of_ble_eq_true rfl | (dsimp only [inK]; omega) | (simp only [mulS_eq]; omega) | (simp only [mulS_eq, setL_length]; omega) | (simp only [setL_length]; omega) | (simp only [setL_length, List.length_map]; omega) | (exact ⟨by omega, by omega, by first | exact Nat.le_of_ble_eq_true rfl | (dsimp only; omega) | (simp only [setL_length]; omega) | (simp only [setL_length, List.length_map]; omega)⟩) | (exact ⟨by omega, by first | rfl | omega, by omega, Nat.le_of_ble_eq_true rfl, Nat.le_of_ble_eq_true rfl⟩) | (exact ⟨rfl, rfl, rfl, Nat.le_of_ble_eq_true rfl, by first | rfl | omega | exact Nat.le_of_ble_eq_true rfl | (dsimp only; omega) | (simp; done) | (simp; omega), by first | rfl | omega | exact Nat.le_of_ble_eq_true rfl | (dsimp only; omega) | (simp; done) | (simp; omega), by omega, Nat.le_of_ble_eq_true rfl⟩) | exact Eq.refl true) ?_) | refine Exists.intro _ (And.intro rfl ?_) | refine And.intro (And.intro rfl (chk_rowI _ _ _ _)) ?_ | refine br_t (by omega) ?_ | refine br_f (by omega) ?_ | refine bs_t (by omega) ?_ | refine bs_f (by omega) ?_ | refine fun (K' : K3) hK' => ?_ | (refine hK' _ _ _ ?_; clear hK' K') | refine draw_auto tok mixed (by kernel_rfl) ?_ | refine bs_bt (Eq.refl true) ?_ | refine bs_bf (Eq.refl false) ?_ | refine br_bt (Eq.refl true) ?_ | refine br_bf (Eq.refl false) ?_ | refine CallK.m ?_ | refine Two.l ?_ | refine And.intro (And.intro rfl rfl) ?_)
          refine ⟨i + 1, [], by omega, by omega, ?_⟩
          refine ⟨?_, ?_, injB_ent (p := [_]) (by omega) rfl rfl, rfl, by first | exact Nat.le_of_ble_eq_true rfl | exact Nat.le_refl _ | omega⟩
          · repeat (first | exact trivial | (refine And.intro (covS_syn (by first | rfl | (refine congrArg some (congrArg V.i ?_); exact hq) | (refine congrArg some (congrArg V.i ?_); omega)) rfl (by first | exact trivial | exact Nat.le_of_ble_eq_true rfl | exact hy | (first | ((show ∀ p ∈ (_ : List (Nat × Nat)), p.1 < _); decide) | exact (fun p hp => nomatch hp)) | (show (_ : Nat) < _; omega))) ?_) | refine And.intro (covS_bool rfl rfl (by rfl)) ?_)
          · repeat (first | exact trivial | (exact covL_ent (by omega) (fun k hk => by (try simp only [flatN]); (repeat (first | rw [find_skip (by omega)] | rw [find_hi (by omega) (by rfl)])))) | (refine And.intro (covE_id (Nat.le_of_ble_eq_true rfl) (by first | exact wf_ints _ _ | exact wf_bools _ _ | first | exact wf_sls _ _ _ (by omega) | exact wf_jobs _ _ | simp [C.wf]) rfl (by rfl)) ?_))
        · obtain rfl : i = (j.getD b []).length := by omega
          rw [← hns]
          repeat ((conv => whnf); first | (refine And.intro (by first | omega | exact Nat.le_of_ble_eq_true rfl | (dsimp only [inK]; omega) | (simp only [mulS_eq]; omega) | (simp only [mulS_eq, setL_length]; omega) | (simp only [setL_length]; omega) | (simp only [setL_length, List.length_map]; omega) | (exact ⟨by omega, by omega, by first | exact Nat.le_of_ble_eq_true rfl | (dsimp only; omega) | (simp only [setL_length]; omega) | (simp only [setL_length, List.length_map]; omega)⟩) | (exact ⟨by omega, by first | rfl | omega, by omega, Nat.le_of_ble_eq_true rfl, Nat.le_of_ble_eq_true rfl⟩) | (exact ⟨rfl, rfl, rfl, Nat.le_of_ble_eq_true rfl, by first | rfl | omega | exact Nat.le_of_ble_eq_true rfl | (dsimp only; omega) | (simp; done) | (simp; omega), by first | rfl | omega | exact Nat.le_of_ble_eq_true rfl | (dsimp only; omega) | (simp; done) | (simp; omega), by omega, Nat.le_of_ble_eq_true rfl⟩) | exact Eq.refl true) ?_) | refine Exists.intro _ (And.intro rfl ?_) | refine And.intro (And.intro rfl (chk_rowI _ _ _ _)) ?_ | refine br_t (by omega) ?_ | refine br_f (by omega) ?_ | refine bs_t (by omega) ?_ | refine bs_f (by omega) ?_ | refine fun (K' : K3) hK' => ?_ | (refine hK' _ _ _ ?_; clear hK' K') | refine draw_auto tok mixed (by kernel_rfl) ?_ | refine bs_bt (Eq.refl true) ?_ | refine bs_bf (Eq.refl false) ?_ | refine br_bt (Eq.refl true) ?_ | refine br_bf (Eq.refl false) ?_ | refine CallK.m ?_ | refine Two.l ?_ | refine And.intro (And.intro rfl rfl) ?_)
          refine ⟨b + 1, [], by omega, by omega, ?_⟩
          refine ⟨?_, ?_, injB_ent (p := [_]) (by omega) rfl rfl, rfl, by first | exact Nat.le_of_ble_eq_true rfl | exact Nat.le_refl _ | omega⟩
          · repeat (first | exact trivial | (refine And.intro (covS_syn (by first | rfl | (refine congrArg some (congrArg V.i ?_); omega) | (refine congrArg some (congrArg V.i ?_); (rw [hms]; omega)) | (refine congrArg some (congrArg V.i ?_); (rw [hms]; push_cast; rfl))) rfl (by first | exact trivial | exact Nat.le_of_ble_eq_true rfl | exact hy | (first | ((show ∀ p ∈ (_ : List (Nat × Nat)), p.1 < _); decide) | exact (fun p hp => nomatch hp)) | (show (_ : Nat) < _; omega))) ?_) | refine And.intro (covS_bool rfl rfl (by rfl)) ?_)
          · repeat (first | exact trivial | (exact covL_ent (by omega) (fun k hk => by (try simp only [flatN]); (repeat (first | rw [find_skip (by omega)] | rw [find_hi (by omega) (by rfl)])))) | (refine And.intro (covE_id (Nat.le_of_ble_eq_true rfl) (by first | exact wf_ints _ _ | exact wf_bools _ _ | first | exact wf_sls _ _ _ (by omega) | exact wf_jobs _ _ | simp [C.wf]) rfl (by rfl)) ?_))
    · obtain rfl : b = j.length := by omega
      repeat ((conv => whnf); first | (refine And.intro (by first | omega | exact Nat.le_of_ble_eq_true rfl | (dsimp only [inK]; omega) | (simp only [mulS_eq]; omega) | (simp only [mulS_eq, setL_length]; omega) | (simp only [setL_length]; omega) | (simp only [setL_length, List.length_map]; omega) | (exact ⟨by omega, by omega, by first | exact Nat.le_of_ble_eq_true rfl | (dsimp only; omega) | (simp only [setL_length]; omega) | (simp only [setL_length, List.length_map]; omega)⟩) | (exact ⟨by omega, by first | rfl | omega, by omega, Nat.le_of_ble_eq_true rfl, Nat.le_of_ble_eq_true rfl⟩) | (exact ⟨rfl, rfl, rfl, Nat.le_of_ble_eq_true rfl, by first | rfl | omega | exact Nat.le_of_ble_eq_true rfl | (dsimp only; omega) | (simp; done) | (simp; omega), by first | rfl | omega | exact Nat.le_of_ble_eq_true rfl | (dsimp only; omega) | (simp; done) | (simp; omega), by omega, Nat.le_of_ble_eq_true rfl⟩) | exact Eq.refl true) ?_) | refine Exists.intro _ (And.intro rfl ?_) | refine And.intro (And.intro rfl (chk_rowI _ _ _ _)) ?_ | refine br_t (by omega) ?_ | refine br_f (by omega) ?_ | refine bs_t (by omega) ?_ | refine bs_f (by omega) ?_ | refine fun (K' : K3) hK' => ?_ | (refine hK' _ _ _ ?_; clear hK' K') | refine draw_auto tok mixed (by kernel_rfl) ?_ | refine bs_bt (Eq.refl true) ?_ | refine bs_bf (Eq.refl false) ?_ | refine br_bt (Eq.refl true) ?_ | refine br_bf (Eq.refl false) ?_ | refine CallK.m ?_ | refine Two.l ?_ | refine And.intro (And.intro rfl rfl) ?_)
      intro ρ; rfl
end Go.Proofs.Ytjijjncddjkdlaa

/- Shore: slices.Concat of beaches. -/
namespace Go.Proofs.Ytjijjncddjkdlaa
open Go.RowKit
set_option linter.unusedVariables false
set_option linter.unusedSimpArgs false
/-- The jobs of the first beaches, one after the other. -/
def flatP (j : Coast) (k : Nat) : List Job := (j.take k).flatten
def flatJ (j : Coast) : List Job := flatP j j.length
end Go.Proofs.Ytjijjncddjkdlaa

/- Shore: rows of rows that grow; the reference's Free. -/
namespace Go.Proofs.Ytjijjncddjkdlaa
open Go.RowKit
set_option linter.unusedVariables false
set_option linter.unusedSimpArgs false
section
variable {α : Type} {kd : Kd} {cs : α → List C} {ln : α → Nat} {d : α}
end
/-- A beach for each job. -/
def sglL (l : List Job) : Coast := l.map fun x => [x]
def freeE (j : Coast) : Int := if validL j then (if 1 ≤ (flatJ j).length ∧ (flatJ j).length ≤ 6 then 0 else 5) else 60
def freeR (j : Coast) : Coast := if freeE j = 0 then sglL (flatJ j) else []
def flatB (j : Coast) (b i : Nat) : List Job := flatP j b ++ (j.getD b []).take i
end Go.Proofs.Ytjijjncddjkdlaa

/- Shore: Free. -/
namespace Go.Proofs.Ytjijjncddjkdlaa
open Go.RowKit
set_option linter.unusedVariables false
set_option linter.unusedSimpArgs false
end Go.Proofs.Ytjijjncddjkdlaa

/- The pairs' bound is below the harm of each order; jobs turned round have the same harm backwards. Plain law. -/
namespace Go.Proofs.Ytjijjncddjkdlaa
open Go.RowKit
set_option linter.unusedVariables false
set_option linter.unusedSimpArgs false
theorem sumZ_add {n : Nat} {F G : Nat → Int} : sumZ n (fun i => F i + G i) = sumZ n F + sumZ n G := by
  induction n with
  | zero => rfl
  | succ n ih => simp only [sumZ, ih]; omega
theorem sumZ_comm {n m : Nat} {F : Nat → Nat → Int} : sumZ n (fun i => sumZ m (fun k => F i k)) = sumZ m (fun k => sumZ n (fun i => F i k)) := by
  induction n with
  | zero => simp only [sumZ]; exact sumZ_zero.symm
  | succ n ih => simp only [sumZ, ih, sumZ_add]
def minJ (x y : Job) : Int := if y.1 * x.2 < x.1 * y.2 then y.1 * x.2 else x.1 * y.2
def P1 (x : Job) (m : List Job) : Int := (m.map (minJ x)).sum
def PP (l m : List Job) : Int := (l.map fun x => P1 x m).sum
/-- The bound of what is left. -/
def BR (j : Coast) (f : Nat → Nat) : Int := sumZ j.length fun b => costS 0 (remC j f b) + sumZ b fun c => PP (remC j f b) (remC j f c)
theorem CoastOk.pos {j : Coast} (hj : CoastOk j) : ∀ c, c < j.length → ∀ x ∈ j.getD c [], 0 ≤ x.1 ∧ 0 ≤ x.2 := fun c hc x hx => by
  have := (hj.jobs c hc).1.mem hx; omega
end Go.Proofs.Ytjijjncddjkdlaa

/- Shore: lists backwards; calls on beaches turned round. -/
namespace Go.Proofs.Ytjijjncddjkdlaa
open Go.RowKit
set_option linter.unusedVariables false
set_option linter.unusedSimpArgs false
/-- Names of beaches that lie as rows of one's own. -/
def turR (lab oa n B : Nat) : Rn := (0, some lab) :: (21, some oa) :: shiftR 1 B n
theorem turR_be {lab oa n B i : Nat} (hi : i < n) (hn : n ≤ 20) : renL (turR lab oa n B) (1 + i) = some (i + B) := by
  simp only [turR, renL, beq_ne (show 0 ≠ 1 + i by omega), beq_ne (show 21 ≠ 1 + i by omega), cond_false]
  rw [renL_shift, if_pos (by omega)]
  congr 1; omega
theorem turR_sls {lab oa n B : Nat} (hn : n ≤ 20) : ∀ {m : Nat} {t : Coast}, m + t.length ≤ n → seqO ((slsC (1 + m) t).map (C.ren (turR lab oa n B))) = some (famS List.length (m + B) t)
  | m, [], _ => rfl
  | m, x :: r, h => by
    simp only [List.length_cons] at h
    have ih := turR_sls (lab := lab) (oa := oa) (B := B) hn (m := m + 1) (t := r) (by omega)
    simp only [slsC, List.map_cons, C.ren, turR_be (show m < n by omega) hn, seqO, famS]
    rw [show 1 + m + 1 = 1 + (m + 1) by omega, ih, show m + 1 + B = m + B + 1 by omega]
structure HasT (L : List E) (lab B : Nat) (t : Coast) : Prop where
  sl : find L lab = some ⟨lab, .vec 31 1, famS List.length B t⟩
  be : ∀ i, i < t.length → find L (i + B) = some ⟨i + B, rowJ, jobC (t.getD i [])⟩
theorem HasT.ro {L : List E} {lab B oa : Nat} {t : Coast} {o : List Int} {ko : Kd} (h : HasT L lab B t) (ht : Sized t) (ho : find L oa = some ⟨oa, ko, o.map C.i⟩) : roL (turR lab oa t.length B) 32 L (⟨0, .ro 1, slsC 1 t⟩ :: ⟨21, .ro 0, o.map C.i⟩ :: entC 1 t) := by
  have := ht.len
  have hs := turR_sls (lab := lab) (oa := oa) (B := B) ht.len (m := 0) (t := t) (by omega)
  rw [Nat.zero_add] at hs
  refine ⟨⟨Nat.le_of_ble_eq_true rfl, wf_sls _ _ _ (by omega), .vec 31 1, _, h.sl, .inr rfl, hs⟩, ⟨Nat.le_of_ble_eq_true rfl, wf_ints _ _, ko, _, ho, .inl rfl, ren_ints _ _⟩, roL_all fun e he => ?_⟩
  obtain ⟨i, hi, rfl⟩ := entC_mem he
  unfold roE
  simp only [turR_be hi ht.len]
  exact ⟨by omega, wf_jobs _ _, rowJ, _, h.be i hi, .inr rfl, ren_jobs _ _⟩
end Go.Proofs.Ytjijjncddjkdlaa

/- Shore: the reference's Same, where both lists are the same. -/
namespace Go.Proofs.Ytjijjncddjkdlaa
open Go.RowKit
set_option linter.unusedVariables false
set_option linter.unusedSimpArgs false
end Go.Proofs.Ytjijjncddjkdlaa

/- Shore: the reference's Turned. -/
namespace Go.Proofs.Ytjijjncddjkdlaa
open Go.RowKit
set_option linter.unusedVariables false
set_option linter.unusedSimpArgs false
end Go.Proofs.Ytjijjncddjkdlaa

/- Shore: two lists of beaches that lie as rows of one's own, held against each other. -/
namespace Go.Proofs.Ytjijjncddjkdlaa
open Go.RowKit
set_option linter.unusedVariables false
set_option linter.unusedSimpArgs false
theorem slsC_ren {R : Rn} {b B n : Nat} (hR : ∀ i, i < n → renL R (b + i) = some (i + B)) : ∀ {m : Nat} {t : Coast}, m + t.length ≤ n → seqO ((slsC (b + m) t).map (C.ren R)) = some (famS List.length (m + B) t)
  | m, [], _ => rfl
  | m, x :: r, h => by
    simp only [List.length_cons] at h
    have ih := slsC_ren (R := R) (b := b) (B := B) (n := n) hR (m := m + 1) (t := r) (by omega)
    simp only [slsC, List.map_cons, C.ren, hR m (by omega), seqO, famS]
    rw [show b + m + 1 = b + (m + 1) by omega, ih, show m + 1 + B = m + B + 1 by omega]
theorem renL_app {l : Nat} {Q : Rn} : ∀ {R : Rn}, (∀ p ∈ R, p.1 ≠ l) → renL (R ++ Q) l = renL Q l
  | [], _ => rfl
  | p :: R, h => by
    simp only [List.cons_append, renL, beq_ne (h p (by simp)), cond_false]
    exact renL_app fun q hq => h q (by simp [hq])
theorem renL_shift_app {b c l n : Nat} {Q : Rn} (h : b ≤ l ∧ l < b + n) : renL (shiftR b c n ++ Q) l = some (l - b + c) := by
  have key : ∀ {r : List Nat}, (∃ k ∈ r, k + b = l) → renL ((r.map fun k => (k + b, some (k + c))) ++ Q) l = some (l - b + c) := by
    intro r
    induction r with
    | nil => rintro ⟨k, hk, _⟩; cases hk
    | cons a r ih =>
      rintro ⟨k, hk, he⟩
      simp only [List.map_cons, List.cons_append, renL]
      by_cases ha : a + b = l
      · rw [ha, Nat.beq_refl, cond_true]; congr 1; omega
      · rw [beq_ne ha, cond_false]
        refine ih ⟨k, ?_, he⟩
        rcases List.mem_cons.1 hk with rfl | hk
        · exact absurd he ha
        · exact hk
  exact key ⟨l - b, List.mem_range.2 (by omega), by omega⟩
/-- Names of two lists of beaches. -/
def samR (la Ba lb Bb n : Nat) : Rn := (0, some la) :: (21, some lb) :: (shiftR 1 Ba n ++ shiftR 22 Bb n)
theorem samR_1 {la Ba lb Bb n i : Nat} (hi : i < n) (hn : n ≤ 20) : renL (samR la Ba lb Bb n) (1 + i) = some (i + Ba) := by
  simp only [samR, renL, beq_ne (show 0 ≠ 1 + i by omega), beq_ne (show 21 ≠ 1 + i by omega), cond_false]
  rw [renL_shift_app (by omega)]; congr 1; omega
theorem samR_2 {la Ba lb Bb n i : Nat} (hi : i < n) (hn : n ≤ 20) : renL (samR la Ba lb Bb n) (22 + i) = some (i + Bb) := by
  simp only [samR, renL, beq_ne (show 0 ≠ 22 + i by omega), beq_ne (show 21 ≠ 22 + i by omega), cond_false]
  rw [renL_app, renL_shift, if_pos (by omega)]
  · congr 1; omega
  · intro p hp
    obtain ⟨k, hk, rfl⟩ := List.mem_map.1 hp
    have := List.mem_range.1 hk
    simp only; omega
/-- Beaches that came in, or that lie as rows of one's own. -/
structure HasU (L : List E) (lab B : Nat) (t : Coast) : Prop where
  sl : ∃ k, find L lab = some ⟨lab, k, famS List.length B t⟩ ∧ k.z = some 1
  be : ∀ i, i < t.length → ∃ k, find L (i + B) = some ⟨i + B, k, jobC (t.getD i [])⟩ ∧ k.z = some 2
theorem HasT.u {L : List E} {lab B : Nat} {t : Coast} (h : HasT L lab B t) : HasU L lab B t := ⟨⟨_, h.sl, rfl⟩, fun i hi => ⟨_, h.be i hi, rfl⟩⟩
theorem slsC_fam : ∀ {b : Nat} {j : Coast}, slsC b j = famS List.length b j
  | _, [] => rfl
  | b, x :: r => by simp only [slsC, famS, slsC_fam (b := b + 1) (j := r)]
theorem HasC.u {L : List E} {j : Coast} (h : HasC L j) : HasU L 0 1 j := ⟨⟨_, by rw [← slsC_fam]; exact h.sl, rfl⟩, fun i hi => ⟨.ro 2, by rw [Nat.add_comm]; exact h.be i hi, rfl⟩⟩
theorem HasU.same {L : List E} {la Ba lb Bb : Nat} {t : Coast} (h : HasU L la Ba t) (h2 : HasU L lb Bb t) (ht : Sized t) : roL (samR la Ba lb Bb t.length) 43 L (⟨0, .ro 1, slsC 1 t⟩ :: ⟨21, .ro 1, slsC 22 t⟩ :: (entC 1 t ++ entC 22 t)) := by
  have h20 := ht.len
  have hs := slsC_ren (R := samR la Ba lb Bb t.length) (b := 1) (B := Ba) (n := t.length) (fun i hi => samR_1 hi h20) (m := 0) (t := t) (by omega)
  have hs2 := slsC_ren (R := samR la Ba lb Bb t.length) (b := 22) (B := Bb) (n := t.length) (fun i hi => samR_2 hi h20) (m := 0) (t := t) (by omega)
  rw [Nat.zero_add] at hs hs2
  obtain ⟨k1, e1, z1⟩ := h.sl
  obtain ⟨k2, e2, z2⟩ := h2.sl
  refine ⟨⟨Nat.le_of_ble_eq_true rfl, wf_sls _ _ _ (by omega), k1, _, e1, .inr z1, hs⟩, ⟨Nat.le_of_ble_eq_true rfl, wf_sls _ _ _ (by omega), k2, _, e2, .inr z2, hs2⟩, roL_all fun e he => ?_⟩
  rcases List.mem_append.1 he with he | he
  · obtain ⟨i, hi, rfl⟩ := entC_mem he
    obtain ⟨k, e3, z3⟩ := h.be i hi
    unfold roE
    simp only [samR_1 hi h20]
    exact ⟨by omega, wf_jobs _ _, k, _, e3, .inr z3, ren_jobs _ _⟩
  · obtain ⟨i, hi, rfl⟩ := entC_mem he
    obtain ⟨k, e3, z3⟩ := h2.be i hi
    unfold roE
    simp only [samR_2 hi h20]
    exact ⟨by omega, wf_jobs _ _, k, _, e3, .inr z3, ren_jobs _ _⟩
end Go.Proofs.Ytjijjncddjkdlaa

/- Shore, plain: a beach for each job: the bound is the least harm, and without order nothing is worse. -/
namespace Go.Proofs.Ytjijjncddjkdlaa
open Go.RowKit
set_option linter.unusedVariables false
set_option linter.unusedSimpArgs false
/-! A beach for each job. -/
def flR (j : Coast) (f : Nat → Nat) : Nat → List Job
  | 0 => []
  | n + 1 => flR j f n ++ remC j f n
end Go.Proofs.Ytjijjncddjkdlaa

/- Shore, plain: how many orders there are, and that each next one leaves one less. -/
namespace Go.Proofs.Ytjijjncddjkdlaa
open Go.RowKit
set_option linter.unusedVariables false
set_option linter.unusedSimpArgs false
/-! Ways by Pascal's triangle. -/
noncomputable def chN : Nat → Nat → Nat
  | 0 => fun _ => 1
  | m + 1 => fun i => Nat.rec 1 (fun i r => chN m (i + 1) + r) i
def fct : Nat → Nat
  | 0 => 1
  | n + 1 => fct n * (n + 1)
def prF (f : Nat → Nat) : Nat → Nat
  | 0 => 1
  | b + 1 => prF f b * fct (f b)
/-! Sums. -/
def smN (F : Nat → Nat) : Nat → Nat
  | 0 => 0
  | n + 1 => smN F n + F n
theorem smN_congr {F H : Nat → Nat} : ∀ {n}, (∀ i, i < n → F i = H i) → smN F n = smN H n
  | 0, _ => rfl
  | n + 1, h => by simp only [smN]; rw [smN_congr (n := n) fun i hi => h i (by omega), h n (by omega)]
theorem smN_zero : ∀ {n : Nat}, smN (fun _ => 0) n = 0
  | 0 => rfl
  | n + 1 => by simp only [smN]; rw [smN_zero (n := n)]
/-! Orders of numbers, by how often each stands. -/
def decF (f : Nat → Nat) (y : Nat) : Nat → Nat := fun z => if z = y then f z - 1 else f z
def tpN (n : Nat) : Nat → (Nat → Nat) → Nat
  | 0, _ => 1
  | s + 1, f => smN (fun y => if 0 < f y then tpN n s (decF f y) else 0) n
/-- How many numbers of each kind. -/
def cnF (o : List Int) : Nat → Nat := fun y => o.count (y : Int)
/-- How many orders of the same numbers come behind one. -/
def rkN (n : Nat) : List Int → Nat
  | [] => 0
  | x :: r => smN (fun y => if x < (y : Int) ∧ 0 < cnF (x :: r) y then tpN n r.length (decF (cnF (x :: r)) y) else 0) n + rkN n r
end Go.Proofs.Ytjijjncddjkdlaa

/- Shore: lists turned in place; ranges backwards over numbers. -/
namespace Go.Proofs.Ytjijjncddjkdlaa
open Go.RowKit
set_option linter.unusedVariables false
set_option linter.unusedSimpArgs false
/-- A part of a list, turned at its first x places. -/
def revX {α : Type} (l : List α) (d : α) (o n x : Nat) : List α := (List.range l.length).map fun j => if (o ≤ j ∧ j < o + n) ∧ (j < o + x ∨ o + n ≤ j + x) then l.getD (2 * o + n - 1 - j) d else l.getD j d
/-- A tail of which nothing is known but that it is not turned. -/
structure TailC (T : List E) (a nx : Nat) : Prop where
  nd : (T.map E.lab).Nodup
  lab : ∀ e ∈ T, e.lab ≠ a ∧ e.lab < nx
  wf : ∀ e ∈ T, ∀ c ∈ e.cs, c.wf nx
  ob : ∀ e ∈ T, ∀ m, nx ≤ m → m ≠ e.lab
end Go.Proofs.Ytjijjncddjkdlaa

/- Shore: Next. -/
namespace Go.Proofs.Ytjijjncddjkdlaa
open Go.RowKit
set_option linter.unusedVariables false
set_option linter.unusedSimpArgs false
/-- The last place with a greater number behind it. -/
structure PivAt (o : List Int) (k : Nat) : Prop where
  lt : k + 1 < o.length
  up : o.getD k 0 < o.getD (k + 1) 0
  rest : ∀ m, k < m → m + 1 < o.length → o.getD m 0 ≥ o.getD (m + 1) 0
def NoPiv (o : List Int) : Prop := ∀ m, m + 1 < o.length → o.getD m 0 ≥ o.getD (m + 1) 0
/-- The last number behind it that is greater. -/
structure LastAt (o : List Int) (k i : Nat) : Prop where
  gt : k < i
  lt : i < o.length
  up : o.getD k 0 < o.getD i 0
  rest : ∀ m, i < m → m < o.length → ¬ o.getD k 0 < o.getD m 0
def nextR (o : List Int) (k i : Nat) : List Int := revX ((o.set k (o.getD i 0)).set i (o.getD k 0)) 0 (k + 1) (o.length - (k + 1)) (o.length - (k + 1))
end Go.Proofs.Ytjijjncddjkdlaa

/- Shore: Next, walked. -/
namespace Go.Proofs.Ytjijjncddjkdlaa
open Go.RowKit
set_option linter.unusedVariables false
set_option linter.unusedSimpArgs false
end Go.Proofs.Ytjijjncddjkdlaa

/- Shore: Next where there is no next order, and its errors. -/
namespace Go.Proofs.Ytjijjncddjkdlaa
open Go.RowKit
set_option linter.unusedVariables false
set_option linter.unusedSimpArgs false
end Go.Proofs.Ytjijjncddjkdlaa

/- Shore: the reference's sorted. -/
namespace Go.Proofs.Ytjijjncddjkdlaa
open Go.RowKit
set_option linter.unusedVariables false
set_option linter.unusedSimpArgs false
/-- The numbers v among the first i of a part. -/
def cntI (ls : List Int) (o : Nat) (v : Nat) : Nat → List Int
  | 0 => []
  | i + 1 => cntI ls o v i ++ (if ls.getD (o + i) 0 = v then [(v : Int)] else [])
/-- A part's numbers below v, in order. -/
def srtV (ls : List Int) (o n : Nat) : Nat → List Int
  | 0 => []
  | v + 1 => srtV ls o n v ++ cntI ls o v n
end Go.Proofs.Ytjijjncddjkdlaa

/- Shore: the reference's Swap. -/
namespace Go.Proofs.Ytjijjncddjkdlaa
open Go.RowKit
set_option linter.unusedVariables false
set_option linter.unusedSimpArgs false
end Go.Proofs.Ytjijjncddjkdlaa

/- The order that comes next. Plain law. -/
namespace Go.Proofs.Ytjijjncddjkdlaa
open Go.RowKit
set_option linter.unusedVariables false
set_option linter.unusedSimpArgs false
/-- The numbers behind the place, turned, with one exchanged. -/
def swK (o : List Int) (k i : Nat) : List Int := (o.set k (o.getD i 0)).set i (o.getD k 0)
/-- What the reference answers: the place, the first of the least greater numbers behind it, and the rest in order. -/
structure LeastAt (o : List Int) (k l : Nat) : Prop where
  gt : k < l
  lt : l < o.length
  up : o.getD k 0 < o.getD l 0
  least : ∀ m, k < m → m < o.length → o.getD k 0 < o.getD m 0 → o.getD l 0 ≤ o.getD m 0
/-- Numbers below six, in order. -/
def sortL (l : List Int) : List Int := ((List.range 6).map fun (n : Nat) => List.replicate (l.count (n : Int)) (n : Int)).flatten
def nextRef (o : List Int) (k l : Nat) : List Int := o.take k ++ [o.getD l 0] ++ sortL (((o.drop k).set (l - k) (o.getD k 0)).drop 1)
end Go.Proofs.Ytjijjncddjkdlaa

/- Shore: the reference's Next. -/
namespace Go.Proofs.Ytjijjncddjkdlaa
open Go.RowKit
set_option linter.unusedVariables false
set_option linter.unusedSimpArgs false
/-- The place of the least greater number among the i behind place k, or -1. -/
def lsF (o : List Int) (k : Nat) : Nat → Int
  | 0 => -1
  | i + 1 => if o.getD k 0 < o.getD (k + 1 + i) 0 ∧ (lsF o k i < 0 ∨ o.getD (k + 1 + i) 0 < o.getD (lsF o k i).toNat 0) then ((k + 1 + i : Nat) : Int) else lsF o k i
end Go.Proofs.Ytjijjncddjkdlaa

/- Shore: the reference's Next where a next order is. -/
namespace Go.Proofs.Ytjijjncddjkdlaa
open Go.RowKit
set_option linter.unusedVariables false
set_option linter.unusedSimpArgs false
/-- What stays behind the place, before it is put in order. -/
def leftF (o : List Int) (k l : Nat) : List Int := (o.drop k).set (l - k) (o.getD k 0)
def rnextF (o : List Int) (k l : Nat) : List Int := o.take k ++ [o.getD l 0] ++ srtV (leftF o k l) 1 (o.length - k - 1) 6
/-- The cells of the part behind a place, copied. -/
def LC (o : List Int) (a : Nat) : List C := repC 0 [C.i 0] ++ ((((o.map C.i).drop (((a : Nat) : Int).toNat * (0 + 1))).take ((o.length - ((a : Nat) : Int).toNat) * (0 + 1))).take ((o.length - ((a : Nat) : Int).toNat) * 1))
end Go.Proofs.Ytjijjncddjkdlaa

/- The order that comes next: both answers are the same. Plain law. -/
namespace Go.Proofs.Ytjijjncddjkdlaa
open Go.RowKit
set_option linter.unusedVariables false
set_option linter.unusedSimpArgs false
end Go.Proofs.Ytjijjncddjkdlaa

/- Shore: the reference's First. -/
namespace Go.Proofs.Ytjijjncddjkdlaa
open Go.RowKit
set_option linter.unusedVariables false
set_option linter.unusedSimpArgs false
/-- The first order: beach by beach. -/
def firstL (j : Coast) : Nat → List Int
  | 0 => []
  | b + 1 => firstL j b ++ List.replicate (j.getD b []).length (b : Int)
end Go.Proofs.Ytjijjncddjkdlaa

/- Shore, plain: the orders come to one after the other. -/
namespace Go.Proofs.Ytjijjncddjkdlaa
open Go.RowKit
set_option linter.unusedVariables false
set_option linter.unusedSimpArgs false
theorem smN_many {j : Coast} : ∀ {b : Nat}, b ≤ j.length → smN (fun c => (j.getD c []).length) b = manyN j b
  | 0, _ => by simp [smN, manyN]
  | b + 1, h => by simp only [smN]; rw [smN_many (by omega), manyN_succ (by omega)]
end Go.Proofs.Ytjijjncddjkdlaa

/- Shore: the most harm that an order of what is left can do, and the program's memory of it. Plain law. -/
namespace Go.Proofs.Ytjijjncddjkdlaa
open Go.RowKit
set_option linter.unusedVariables false
set_option linter.unusedSimpArgs false
/-- Counts of what is done: in bounds. -/
def DOk (j : Coast) (d : Nat → Nat) : Prop := (∀ b, b < j.length → d b ≤ (j.getD b []).length) ∧ ∀ b, j.length ≤ b → d b = 0
theorem DOk.up {j : Coast} {d : Nat → Nat} (h : DOk j d) {b : Nat} (hb : b < j.length) (hlt : d b < (j.getD b []).length) : DOk j (upd d b 1) := by
  refine ⟨fun c hc => ?_, fun c hc => ?_⟩
  · by_cases e : c = b
    · subst e; rw [upd_same]; omega
    · rw [upd_ne e]; exact h.1 c hc
  · rw [upd_ne (by omega)]; exact h.2 c hc
def jobD (j : Coast) (d : Nat → Nat) (b : Nat) : Job := (j.getD b []).getD (d b) (0, 0)
def hourD (j : Coast) (d : Nat → Nat) : Int := sumZ j.length fun b => hS ((j.getD b []).take (d b))
def remD (j : Coast) (d : Nat → Nat) : Nat := smN (fun b => (j.getD b []).length - d b) j.length
def stepD (j : Coast) (d : Nat → Nat) (b : Nat) : Int := (jobD j d b).2 * (hourD j d + (jobD j d b).1)
theorem smN_upd {F G : Nat → Nat} {c : Nat} : ∀ {n : Nat}, c < n → F c = G c + 1 → (∀ i, i < n → i ≠ c → F i = G i) → smN F n = smN G n + 1
  | n + 1, hc, h1, h2 => by
    simp only [smN]
    by_cases he : c = n
    · subst he
      rw [smN_congr (n := c) (fun i hi => h2 i (by omega) (by omega)), h1]; omega
    · rw [smN_upd (n := n) (by omega) h1 (fun i hi => h2 i (by omega)), h2 n (by omega) (fun e => he e.symm)]; omega
theorem rem_up {j : Coast} {d : Nat → Nat} {b : Nat} (hb : b < j.length) (hlt : d b < (j.getD b []).length) : remD j d = remD j (upd d b 1) + 1 :=
  smN_upd hb (by rw [upd_same]; omega) fun i _ hi => by rw [upd_ne hi]
theorem hour_up {j : Coast} {d : Nat → Nat} {b : Nat} (hb : b < j.length) (hlt : d b < (j.getD b []).length) : hourD j (upd d b 1) = hourD j d + (jobD j d b).1 :=
  sumZ_upd hb (by
    rw [upd_same, take_succ_getD (d := (0, 0)) hlt, hS_app, hS_cons, hS_nil]
    unfold jobD; omega) fun i _ hi => by rw [upd_ne hi]
theorem hour_zero (j : Coast) : hourD j (fun _ => 0) = 0 := by
  unfold hourD
  rw [sumZ_congr (G := fun _ => 0) fun i _ => by simp [hS]]; exact sumZ_zero
theorem jobD_bd {j : Coast} (hj : CoastOk j) {d : Nat → Nat} {b : Nat} (hb : b < j.length) (hlt : d b < (j.getD b []).length) : 1 ≤ (jobD j d b).1 ∧ (jobD j d b).1 ≤ 100 ∧ 0 ≤ (jobD j d b).2 ∧ (jobD j d b).2 ≤ 100 :=
  (hj.jobs b hb).1 _ hlt
theorem hS_take_bd {l : List Job} (hl : JobsOk l) : ∀ n, n ≤ l.length → 0 ≤ hS (l.take n) ∧ hS (l.take n) ≤ 100 * n
  | 0, _ => by simp [hS]
  | n + 1, h => by
    have h1 := hS_take_bd hl n (by omega)
    have h2 := hl n (by omega)
    rw [take_succ_getD (d := (0, 0)) (by omega), hS_app, hS_cons, hS_nil]; omega
theorem hour_bd {j : Coast} (hj : CoastOk j) {d : Nat → Nat} (hd : DOk j d) : 0 ≤ hourD j d ∧ hourD j d ≤ 100 * (manyN j j.length : Int) := by
  rw [← smN_many (Nat.le_refl _)]
  have : ∀ n, n ≤ j.length → 0 ≤ sumZ n (fun b => hS ((j.getD b []).take (d b))) ∧ sumZ n (fun b => hS ((j.getD b []).take (d b))) ≤ 100 * (smN (fun c => (j.getD c []).length) n : Int) := by
    intro n
    induction n with
    | zero => intro _; exact ⟨Int.le_refl _, Int.le_refl _⟩
    | succ n ih =>
      intro hn
      have h1 := ih (by omega)
      have h2 := hS_take_bd (hj.jobs n (by omega)).1 (d n) (hd.1 n (by omega))
      have h3 := hd.1 n (by omega)
      simp only [sumZ, smN]; omega
  exact this _ (Nat.le_refl _)
/-- The most of the steps that can be taken. -/
def mostG (j : Coast) (d : Nat → Nat) (g : Nat → Int) : Nat → Int
  | 0 => 0
  | k + 1 => if d k < (j.getD k []).length then max (mostG j d g k) (g k) else mostG j d g k
def worstN (j : Coast) : Nat → (Nat → Nat) → Int
  | 0, _ => 0
  | r + 1, d => mostG j d (fun b => stepD j d b + worstN j r (upd d b 1)) j.length
def worstD (j : Coast) (d : Nat → Nat) : Int := worstN j (remD j d) d
def worstG (j : Coast) (d : Nat → Nat) (b : Nat) : Int := stepD j d b + worstD j (upd d b 1)
theorem mostG_congr {j : Coast} {d d' : Nat → Nat} {g g' : Nat → Int} : ∀ {n : Nat}, (∀ b, b < n → d b = d' b) → (∀ b, b < n → d b < (j.getD b []).length → g b = g' b) → mostG j d g n = mostG j d' g' n
  | 0, _, _ => rfl
  | n + 1, h1, h2 => by
    simp only [mostG]
    rw [mostG_congr (n := n) (fun b hb => h1 b (by omega)) (fun b hb => h2 b (by omega)), ← h1 n (by omega)]
    split
    · next h => rw [h2 n (by omega) h]
    · rfl
theorem mostG_none {j : Coast} {d : Nat → Nat} {g : Nat → Int} : ∀ {n : Nat}, (∀ b, b < n → ¬ d b < (j.getD b []).length) → mostG j d g n = 0
  | 0, _ => rfl
  | n + 1, h => by simp only [mostG]; rw [if_neg (h n (by omega))]; exact mostG_none fun b hb => h b (by omega)
theorem worst_eq (j : Coast) (d : Nat → Nat) : worstD j d = mostG j d (worstG j d) j.length := by
  unfold worstD
  cases hr : remD j d with
  | zero =>
    refine (mostG_none fun b hb hlt => ?_).symm
    have := rem_up hb hlt; omega
  | succ r =>
    refine mostG_congr (fun _ _ => rfl) fun b hb hlt => ?_
    have := rem_up hb hlt
    unfold worstG worstD
    rw [show remD j (upd d b 1) = r by omega]
theorem step_bd {j : Coast} (hj : CoastOk j) {d : Nat → Nat} (hd : DOk j d) {b : Nat} (hb : b < j.length) (hlt : d b < (j.getD b []).length) : 0 ≤ stepD j d b ∧ stepD j d b ≤ 10000 * (manyN j j.length : Int) + 10000 := by
  obtain ⟨h1, h2⟩ := hour_bd hj hd
  obtain ⟨h3, h4, h5, h6⟩ := jobD_bd hj hb hlt
  unfold stepD
  have h7 := Int.mul_nonneg h5 (show 0 ≤ hourD j d + (jobD j d b).1 by omega)
  have h8 := Int.mul_le_mul h6 (show hourD j d + (jobD j d b).1 ≤ 100 * (manyN j j.length : Int) + 100 by omega) (by omega) (by omega)
  exact ⟨h7, by omega⟩
theorem mostG_bd {j : Coast} {d : Nat → Nat} {g : Nat → Int} {M : Int} (hM : 0 ≤ M) : ∀ {n : Nat}, (∀ b, b < n → d b < (j.getD b []).length → g b ≤ M) → 0 ≤ mostG j d g n ∧ mostG j d g n ≤ M
  | 0, _ => ⟨Int.le_refl _, hM⟩
  | n + 1, h => by
    have h1 := mostG_bd hM (n := n) fun b hb => h b (by omega)
    simp only [mostG]
    split
    · next hlt => have := h n (by omega) hlt; omega
    · exact h1
theorem mostG_ge {j : Coast} {d : Nat → Nat} {g : Nat → Int} : ∀ {n : Nat} {b : Nat}, b < n → d b < (j.getD b []).length → g b ≤ mostG j d g n
  | n + 1, b, hb, hlt => by
    simp only [mostG]
    by_cases e : b = n
    · subst e; rw [if_pos hlt]; omega
    · have := mostG_ge (n := n) (g := g) (show b < n by omega) hlt
      split <;> omega
theorem mostG_at {j : Coast} {d : Nat → Nat} {g : Nat → Int} : ∀ {n : Nat}, (∃ b, b < n ∧ d b < (j.getD b []).length ∧ mostG j d g n = g b) ∨ mostG j d g n = 0
  | 0 => .inr rfl
  | n + 1 => by
    simp only [mostG]
    split
    · next hlt =>
      rcases mostG_at (j := j) (d := d) (g := g) (n := n) with ⟨b, hb, h1, h2⟩ | h
      · by_cases hm : mostG j d g n ≤ g n
        · exact .inl ⟨n, by omega, hlt, by omega⟩
        · exact .inl ⟨b, by omega, h1, by omega⟩
      · by_cases hm : mostG j d g n ≤ g n
        · exact .inl ⟨n, by omega, hlt, by omega⟩
        · exact .inr (by omega)
    · rcases mostG_at (j := j) (d := d) (g := g) (n := n) with ⟨b, hb, h1, h2⟩ | h
      · exact .inl ⟨b, by omega, h1, h2⟩
      · exact .inr h
theorem worst_bd {j : Coast} (hj : CoastOk j) : ∀ (r : Nat) {d : Nat → Nat}, DOk j d → remD j d ≤ r → 0 ≤ worstD j d ∧ worstD j d ≤ (10000 * (manyN j j.length : Int) + 10000) * r
  | r, d, hd, hr => by
    have hM : 0 ≤ (10000 * (manyN j j.length : Int) + 10000) := by omega
    rw [worst_eq]
    refine mostG_bd (Int.mul_nonneg hM (by omega)) fun b hb hlt => ?_
    have h1 := rem_up hb hlt
    obtain ⟨r, rfl⟩ : ∃ k, r = k + 1 := ⟨r - 1, by omega⟩
    have h2 := worst_bd hj r (hd.up hb hlt) (by omega)
    have h3 := step_bd hj hd hb hlt
    unfold worstG
    rw [show ((r + 1 : Nat) : Int) = (r : Int) + 1 by omega, Int.mul_add, Int.mul_one]; omega
/-- No order of what is left costs more. -/
theorem worst_ge {j : Coast} : ∀ {o : List Nat} {d : Nat → Nat}, OrdF j d o → costS (hourD j d) (jobsF j d o) ≤ worstD j d
  | [], d, h => by
    rw [worst_eq, mostG_none fun b hb => by have := h.cnt b hb; rw [List.count_nil] at this; omega]
    exact Int.le_refl _
  | b :: o, d, h => by
    have hb := h.lt b (by simp)
    have hlt : d b < (j.getD b []).length := by have := h.cnt b hb; rw [List.count_cons, beq_self_eq_true, if_pos rfl] at this; omega
    have ih := worst_ge h.tail
    rw [hour_up hb hlt] at ih
    have h1 := mostG_ge (j := j) (d := d) (g := worstG j d) hb hlt
    rw [← worst_eq] at h1
    simp only [jobsF, costS]
    unfold worstG stepD jobD at h1
    unfold jobD at ih
    omega
/-- And one costs as much. -/
theorem worst_at {j : Coast} (hj : CoastOk j) : ∀ (r : Nat) {d : Nat → Nat}, DOk j d → remD j d ≤ r → ∃ o, OrdF j d o ∧ costS (hourD j d) (jobsF j d o) = worstD j d
  | r, d, hd, hr => by
    have hdone : (∀ b, b < j.length → ¬ d b < (j.getD b []).length) → ∃ o, OrdF j d o ∧ costS (hourD j d) (jobsF j d o) = worstD j d := fun h =>
      ⟨[], ⟨fun x hx => by simp at hx, fun b hb => by have := h b hb; have := hd.1 b hb; rw [List.count_nil]; omega⟩, by rw [worst_eq, mostG_none h]; rfl⟩
    have hstep : ∀ b, b < j.length → d b < (j.getD b []).length → ∃ o, OrdF j d o ∧ costS (hourD j d) (jobsF j d o) = worstG j d b := fun b hb hlt => by
      have h1 := rem_up hb hlt
      obtain ⟨r, rfl⟩ : ∃ k, r = k + 1 := ⟨r - 1, by omega⟩
      obtain ⟨o, ho, hc⟩ := worst_at hj r (hd.up hb hlt) (by omega)
      refine ⟨b :: o, ⟨fun x hx => ?_, fun c hc' => ?_⟩, ?_⟩
      · rcases List.mem_cons.1 hx with rfl | hx
        · exact hb
        · exact ho.lt x hx
      · have := ho.cnt c hc'
        rw [List.count_cons]
        by_cases e : c = b
        · subst e; rw [upd_same] at this; rw [beq_self_eq_true, if_pos rfl]; omega
        · rw [upd_ne e] at this
          have h2 : (b == c) = false := by simpa using fun e' => e e'.symm
          rw [h2]; simpa using this
      · rw [hour_up hb hlt] at hc
        simp only [jobsF, costS]
        unfold worstG stepD
        unfold jobD at hc ⊢
        omega
    by_cases hb : ∃ b, b < j.length ∧ d b < (j.getD b []).length
    · rcases mostG_at (j := j) (d := d) (g := worstG j d) (n := j.length) with ⟨b, hb, hlt, he⟩ | h0
      · obtain ⟨o, h1, h2⟩ := hstep b hb hlt
        exact ⟨o, h1, by rw [h2, worst_eq, he]⟩
      · obtain ⟨b, hb, hlt⟩ := hb
        obtain ⟨o, h1, h2⟩ := hstep b hb hlt
        refine ⟨o, h1, ?_⟩
        have h3 := worst_ge h1
        have h4 := mostG_ge (j := j) (d := d) (g := worstG j d) hb hlt
        have h5 := step_bd hj hd hb hlt
        have h6 := (worst_bd hj _ (hd.up hb hlt) (Nat.le_refl _)).1
        rw [worst_eq] at h3 ⊢
        have h7 : 0 ≤ worstG j d b := by unfold worstG; omega
        omega
    · exact hdone fun b hb' hlt => hb ⟨b, hb', hlt⟩
/-- Counts as the program keeps them. -/
def encL (d : Nat → Nat) : List Int := (List.range 6).map fun b => (d b : Int)
theorem encL_len (d : Nat → Nat) : (encL d).length = 6 := rfl
theorem encL_get {d : Nat → Nat} {b : Nat} (hb : b < 6) : (encL d).getD b 0 = (d b : Int) := by
  simp [encL, List.getD_eq_getElem?_getD, hb]
theorem encL_inj {d d' : Nat → Nat} (h : encL d = encL d') {b : Nat} (hb : b < 6) : d b = d' b := by
  have := congrArg (fun l => l.getD b 0) h
  simp only [encL_get hb] at this
  omega
theorem encL_set {d : Nat → Nat} {b : Nat} (hb : b < 6) : (encL d).set b ((d b : Int) + 1) = encL (upd d b 1) := by
  apply List.ext_getElem
  · simp [encL]
  · intro k h1 h2
    rw [List.getElem_set]
    simp only [encL, List.getElem_map, List.getElem_range]
    by_cases e : b = k
    · subst e; rw [if_pos rfl, upd_same]; omega
    · rw [if_neg e, upd_ne (fun h => e h.symm)]
theorem DOk.eq {j : Coast} (h6 : j.length ≤ 6) {d d' : Nat → Nat} (h : DOk j d) (h' : DOk j d') (he : encL d = encL d') : d = d' := by
  funext b
  by_cases hb : b < 6
  · exact encL_inj he hb
  · rw [h.2 b (by omega), h'.2 b (by omega)]
/-- What the program comes to know. -/
def lpF (j : Coast) (d : Nat → Nat) (step : Nat → MF → MF) (f : MF) : Nat → MF
  | 0 => f
  | k + 1 => if d k < (j.getD k []).length then step k (lpF j d step f k) else lpF j d step f k
def memF (j : Coast) : Nat → MF → (Nat → Nat) → MF
  | 0, f, _ => f
  | r + 1, f, d => if (f (encL d)).isSome = true then f else updF (lpF j d (fun k f => memF j r f (upd d k 1)) f j.length) (encL d) (.i (worstD j d))
def GoodF (j : Coast) (f : MF) : Prop := ∀ d v, DOk j d → f (encL d) = some v → v = .i (worstD j d)
theorem lpF_good {j : Coast} {d : Nat → Nat} {step : Nat → MF → MF} {f : MF} (hf : GoodF j f) : ∀ {n : Nat}, (∀ k f, k < n → d k < (j.getD k []).length → GoodF j f → GoodF j (step k f)) → GoodF j (lpF j d step f n)
  | 0, _ => hf
  | n + 1, h => by
    have ih := lpF_good hf (n := n) fun k f hk => h k f (by omega)
    simp only [lpF]
    split
    · next hlt => exact h n _ (by omega) hlt ih
    · exact ih
theorem memF_good {j : Coast} (h6 : j.length ≤ 6) : ∀ (r : Nat) {f : MF} {d : Nat → Nat}, GoodF j f → DOk j d → GoodF j (memF j r f d)
  | 0, _, _, hf, _ => hf
  | r + 1, f, d, hf, hd => by
    simp only [memF]
    split
    · exact hf
    · have h1 := lpF_good (d := d) (step := fun k f => memF j r f (upd d k 1)) hf (n := j.length) fun k f hk hlt hf => memF_good h6 r hf (hd.up hk hlt)
      intro d' v hd' hv
      simp only [updF] at hv
      split at hv
      · next he =>
        have := hd'.eq h6 hd he
        subst this
        cases hv; rfl
      · exact h1 d' v hd' hv
theorem encL_bd {j : Coast} (hj : CoastOk j) {d : Nat → Nat} (hd : DOk j d) : inL (encL d) := inL_iff.2 fun x hx => by
  obtain ⟨b, _, rfl⟩ := List.mem_map.1 hx
  have : d b ≤ 100 := by
    by_cases hb : b < j.length
    · have := hd.1 b hb; have := (hj.jobs b hb).2; omega
    · rw [hd.2 b (by omega)]; omega
  omega
end Go.Proofs.Ytjijjncddjkdlaa

/- Shore: the least and the most harm by what is done last. Plain law. -/
namespace Go.Proofs.Ytjijjncddjkdlaa
open Go.RowKit
set_option linter.unusedVariables false
set_option linter.unusedSimpArgs false
/-- One job less. -/
def dnF (d : Nat → Nat) (b : Nat) : Nat → Nat := fun c => if c = b then d c - 1 else d c
theorem up_dn {d : Nat → Nat} {b : Nat} (h : 0 < d b) : upd (dnF d b) b 1 = d := by
  funext c; simp only [upd, dnF]; by_cases e : c = b
  · subst e; simp; omega
  · rw [if_neg e, if_neg e]
theorem dn_same {d : Nat → Nat} {b : Nat} : dnF d b b = d b - 1 := by simp [dnF]
theorem dn_ne {d : Nat → Nat} {b c : Nat} (h : c ≠ b) : dnF d b c = d c := by simp [dnF, h]
theorem DOk.dn {j : Coast} {d : Nat → Nat} (h : DOk j d) (b : Nat) : DOk j (dnF d b) := by
  refine ⟨fun c hc => ?_, fun c hc => ?_⟩
  · have := h.1 c hc; unfold dnF; split <;> omega
  · have := h.2 c hc; unfold dnF; split <;> omega
def sumD (j : Coast) (d : Nat → Nat) : Nat := smN d j.length
theorem sum_dn {j : Coast} {d : Nat → Nat} {b : Nat} (hb : b < j.length) (h : 0 < d b) : sumD j d = sumD j (dnF d b) + 1 :=
  smN_upd hb (by rw [dn_same]; omega) fun i _ hi => (dn_ne hi).symm
theorem sumD_le {j : Coast} {d : Nat → Nat} (h : DOk j d) : sumD j d ≤ manyN j j.length := by
  rw [← smN_many (Nat.le_refl _)]
  have : ∀ n, n ≤ j.length → smN d n ≤ smN (fun c => (j.getD c []).length) n := by
    intro n
    induction n with
    | zero => intro _; exact Nat.le_refl _
    | succ n ih => intro hn; have := ih (by omega); have := h.1 n (by omega); simp only [smN]; omega
  exact this _ (Nat.le_refl _)
def noneB (d : Nat → Nat) (k : Nat) : Bool := (List.range k).all fun b => decide (d b = 0)
theorem noneB_succ (d : Nat → Nat) (k : Nat) : noneB d (k + 1) = (noneB d k && decide (d k = 0)) := by simp [noneB, List.range_succ, List.all_append]
/-- The least of the values of beaches with something done; 0 for none. -/
def lowG (d : Nat → Nat) (g : Nat → Int) : Nat → Int
  | 0 => 0
  | k + 1 => if 0 < d k then (if noneB d k = true ∨ g k < lowG d g k then g k else lowG d g k) else lowG d g k
def highG (d : Nat → Nat) (g : Nat → Int) : Nat → Int
  | 0 => 0
  | k + 1 => if 0 < d k then (if noneB d k = true ∨ g k > highG d g k then g k else highG d g k) else highG d g k
theorem noneB_not {d : Nat → Nat} {n b : Nat} (hb : b < n) (h : 0 < d b) : noneB d n = false := by
  refine Bool.eq_false_iff.2 fun h2 => ?_
  have := of_decide_eq_true (List.all_eq_true.1 h2 b (List.mem_range.2 hb)); omega
theorem ends_congr {d : Nat → Nat} {g g' : Nat → Int} : ∀ {n : Nat}, (∀ b, b < n → 0 < d b → g b = g' b) → lowG d g n = lowG d g' n ∧ highG d g n = highG d g' n
  | 0, _ => ⟨rfl, rfl⟩
  | n + 1, h => by
    obtain ⟨h1, h2⟩ := ends_congr (n := n) fun b hb => h b (by omega)
    simp only [lowG, highG]
    by_cases hd : 0 < d n
    · rw [if_pos hd, if_pos hd, if_pos hd, if_pos hd, h1, h2, h n (by omega) hd]; exact ⟨rfl, rfl⟩
    · rw [if_neg hd, if_neg hd, if_neg hd, if_neg hd]; exact ⟨h1, h2⟩
theorem ends_none {d : Nat → Nat} {g : Nat → Int} : ∀ {n : Nat}, (∀ b, b < n → d b = 0) → lowG d g n = 0 ∧ highG d g n = 0
  | 0, _ => ⟨rfl, rfl⟩
  | n + 1, h => by
    simp only [lowG, highG]
    rw [if_neg (by have := h n (by omega); omega), if_neg (by have := h n (by omega); omega)]
    exact ends_none fun b hb => h b (by omega)
theorem ends_le {d : Nat → Nat} {g : Nat → Int} : ∀ {n b : Nat}, b < n → 0 < d b → lowG d g n ≤ g b ∧ g b ≤ highG d g n
  | n + 1, b, hb, hd => by
    simp only [lowG, highG]
    by_cases e : b = n
    · subst e
      rw [if_pos hd, if_pos hd]
      refine ⟨?_, ?_⟩ <;> split <;> (first | exact Int.le_refl _ | (rename_i h; simp only [not_or] at h; omega))
    · obtain ⟨h1, h2⟩ := ends_le (g := g) (show b < n by omega) hd
      have hn := noneB_not (show b < n by omega) hd
      rw [hn]
      refine ⟨?_, ?_⟩ <;> split <;> (try split) <;> (try (rename_i h; simp only [Bool.false_eq_true, false_or] at h)) <;> omega
theorem ends_at {d : Nat → Nat} {g : Nat → Int} : ∀ {n : Nat}, (∃ b, b < n ∧ 0 < d b) → (∃ b, b < n ∧ 0 < d b ∧ lowG d g n = g b) ∧ ∃ b, b < n ∧ 0 < d b ∧ highG d g n = g b
  | 0, h => by obtain ⟨b, hb, _⟩ := h; omega
  | n + 1, h => by
    simp only [lowG, highG]
    by_cases hd : 0 < d n
    · rw [if_pos hd, if_pos hd]
      cases hn : noneB d n with
      | true => rw [if_pos (.inl rfl), if_pos (.inl rfl)]; exact ⟨⟨n, by omega, hd, rfl⟩, n, by omega, hd, rfl⟩
      | false =>
        have hex : ∃ b, b < n ∧ 0 < d b := by
          obtain ⟨b, hb, h2⟩ := List.all_eq_false.1 hn
          exact ⟨b, List.mem_range.1 hb, by simp at h2; omega⟩
        obtain ⟨⟨b, hb, h1, h2⟩, c, hc, h3, h4⟩ := ends_at (g := g) hex
        refine ⟨?_, ?_⟩ <;> split
        · exact ⟨n, by omega, hd, rfl⟩
        · exact ⟨b, by omega, h1, h2⟩
        · exact ⟨n, by omega, hd, rfl⟩
        · exact ⟨c, by omega, h3, h4⟩
    · rw [if_neg hd, if_neg hd]
      have hex : ∃ b, b < n ∧ 0 < d b := by
        obtain ⟨b, hb, h1⟩ := h
        exact ⟨b, by rcases Nat.lt_or_ge b n with h | h; exact h; exact absurd (by rwa [show b = n by omega] at h1) hd, h1⟩
      obtain ⟨⟨b, hb, h1, h2⟩, c, hc, h3, h4⟩ := ends_at (g := g) hex
      exact ⟨⟨b, by omega, h1, h2⟩, c, by omega, h3, h4⟩
/-- What the job done last of a beach adds. -/
def lastD (j : Coast) (d : Nat → Nat) (b : Nat) : Int := hourD j d * ((j.getD b []).getD (d b - 1) (0, 0)).2
def lowN (j : Coast) : Nat → (Nat → Nat) → Int
  | 0, _ => 0
  | r + 1, d => lowG d (fun b => lowN j r (dnF d b) + lastD j d b) j.length
def highN (j : Coast) : Nat → (Nat → Nat) → Int
  | 0, _ => 0
  | r + 1, d => highG d (fun b => highN j r (dnF d b) + lastD j d b) j.length
def lowD (j : Coast) (d : Nat → Nat) : Int := lowN j (sumD j d) d
def highD (j : Coast) (d : Nat → Nat) : Int := highN j (sumD j d) d
theorem sumD_zero {j : Coast} {d : Nat → Nat} (h : sumD j d = 0) : ∀ b, b < j.length → d b = 0 := fun b hb => by
  rcases Nat.eq_zero_or_pos (d b) with h1 | h1
  · exact h1
  · have := sum_dn hb h1; omega
theorem lowD_eq (j : Coast) (d : Nat → Nat) : lowD j d = lowG d (fun b => lowD j (dnF d b) + lastD j d b) j.length := by
  unfold lowD
  cases hr : sumD j d with
  | zero => exact (ends_none (sumD_zero hr)).1.symm
  | succ r => exact (ends_congr fun b hb h => by have := sum_dn hb h; rw [show sumD j (dnF d b) = r by omega]).1
theorem highD_eq (j : Coast) (d : Nat → Nat) : highD j d = highG d (fun b => highD j (dnF d b) + lastD j d b) j.length := by
  unfold highD
  cases hr : sumD j d with
  | zero => exact (ends_none (sumD_zero hr)).2.symm
  | succ r => exact (ends_congr fun b hb h => by have := sum_dn hb h; rw [show sumD j (dnF d b) = r by omega]).2
theorem lastD_bd {j : Coast} (hj : CoastOk j) {d : Nat → Nat} (hd : DOk j d) {b : Nat} (hb : b < j.length) (h : 0 < d b) : 0 ≤ lastD j d b ∧ lastD j d b ≤ 10000 * (manyN j j.length : Int) := by
  obtain ⟨h1, h2⟩ := hour_bd hj hd
  have h3 := (hj.jobs b hb).1 (d b - 1) (by have := hd.1 b hb; omega)
  have h4 := mul_bd (a := hourD j d) (b := ((j.getD b []).getD (d b - 1) (0, 0)).2) (A := 100 * (manyN j j.length : Int)) (B := 100) h1 h2 h3.2.2.1 h3.2.2.2
  unfold lastD; exact ⟨h4.1, by omega⟩
theorem ends_bd {j : Coast} (hj : CoastOk j) : ∀ (r : Nat) {d : Nat → Nat}, DOk j d → sumD j d ≤ r → (0 ≤ lowD j d ∧ lowD j d ≤ 10000 * (manyN j j.length : Int) * r) ∧ 0 ≤ highD j d ∧ highD j d ≤ 10000 * (manyN j j.length : Int) * r
  | r, d, hd, hr => by
    have hM : 0 ≤ 10000 * (manyN j j.length : Int) * (r : Int) := Int.mul_nonneg (by omega) (by omega)
    rw [lowD_eq, highD_eq]
    by_cases hex : ∃ b, b < j.length ∧ 0 < d b
    · have key : ∀ b, b < j.length → 0 < d b → (0 ≤ lowD j (dnF d b) + lastD j d b ∧ lowD j (dnF d b) + lastD j d b ≤ 10000 * (manyN j j.length : Int) * r) ∧ 0 ≤ highD j (dnF d b) + lastD j d b ∧ highD j (dnF d b) + lastD j d b ≤ 10000 * (manyN j j.length : Int) * r := fun b hb h => by
        have h1 := sum_dn hb h
        obtain ⟨r, rfl⟩ : ∃ k, r = k + 1 := ⟨r - 1, by omega⟩
        obtain ⟨h2, h3⟩ := ends_bd hj r (hd.dn b) (by omega)
        have h4 := lastD_bd hj hd hb h
        rw [show ((r + 1 : Nat) : Int) = (r : Int) + 1 by omega, Int.mul_add, Int.mul_one]; omega
      obtain ⟨⟨b, hb, h1, h2⟩, _⟩ := ends_at (g := fun b => lowD j (dnF d b) + lastD j d b) hex
      obtain ⟨_, c, hc, h3, h4⟩ := ends_at (g := fun b => highD j (dnF d b) + lastD j d b) hex
      rw [h2, h4]
      exact ⟨(key b hb h1).1, (key c hc h3).2⟩
    · have hn : ∀ b, b < j.length → d b = 0 := fun b hb => by
        rcases Nat.eq_zero_or_pos (d b) with h | h
        · exact h
        · exact absurd ⟨b, hb, h⟩ hex
      rw [(ends_none hn).1, (ends_none hn).2]
      exact ⟨⟨Int.le_refl _, hM⟩, Int.le_refl _, hM⟩
/-- An order of what is done. -/
structure PreF (j : Coast) (d : Nat → Nat) (o : List Nat) : Prop where
  lt : ∀ x ∈ o, x < j.length
  cnt : ∀ b, b < j.length → o.count b = d b
theorem pre_snoc {j : Coast} {d : Nat → Nat} {o : List Nat} {b : Nat} (hb : b < j.length) (h : 0 < d b) (ho : PreF j (dnF d b) o) : PreF j d (o ++ [b]) := by
  refine ⟨fun x hx => ?_, fun c hc => ?_⟩
  · rcases List.mem_append.1 hx with hx | hx
    · exact ho.lt x hx
    · rw [List.mem_singleton.1 hx]; exact hb
  · have := ho.cnt c hc
    rw [List.count_append, this]
    by_cases e : c = b
    · subst e; rw [dn_same, List.count_singleton_self]; omega
    · rw [dn_ne e, List.count_singleton]
      have : (b == c) = false := by simpa using fun e' => e e'.symm
      simp [this]
theorem pre_init {j : Coast} {d : Nat → Nat} {o : List Nat} {b : Nat} (h : PreF j d (o ++ [b])) : b < j.length ∧ 0 < d b ∧ PreF j (dnF d b) o := by
  have hb := h.lt b (by simp)
  have hc := h.cnt b hb
  rw [List.count_append, List.count_singleton_self] at hc
  refine ⟨hb, by omega, fun x hx => h.lt x (by simp [hx]), fun c hc' => ?_⟩
  have h2 := h.cnt c hc'
  rw [List.count_append] at h2
  by_cases e : c = b
  · subst e; rw [dn_same]; omega
  · rw [dn_ne e, ← h2, List.count_singleton]
    have : (b == c) = false := by simpa using fun e' => e e'.symm
    simp [this]
theorem pre_cost {j : Coast} {d : Nat → Nat} {o : List Nat} {b : Nat} (hd : DOk j d) (hb : b < j.length) (h : 0 < d b) (ho : PreF j (dnF d b) o) (hh : hS (jobsF j (fun _ => 0) o) = hourD j (dnF d b)) :
    hS (jobsF j (fun _ => 0) (o ++ [b])) = hourD j d ∧ costS 0 (jobsF j (fun _ => 0) (o ++ [b])) = costS 0 (jobsF j (fun _ => 0) o) + lastD j d b := by
  have h1 : 0 + o.count b = dnF d b b := by rw [ho.cnt b hb]; omega
  have h2 := hour_up (j := j) (d := dnF d b) hb (by rw [dn_same]; have := hd.1 b hb; omega)
  rw [up_dn h] at h2
  have h3 : jobD j (dnF d b) b = (j.getD b []).getD (d b - 1) (0, 0) := by unfold jobD; rw [dn_same]
  rw [jobsF_app, h1]
  show hS (_ ++ [jobD j (dnF d b) b]) = _ ∧ costS 0 (_ ++ [jobD j (dnF d b) b]) = _
  have e : hS (jobsF j (fun _ => 0) o ++ [jobD j (dnF d b) b]) = hourD j d := by rw [hS_app, hS_cons, hS_nil, hh, h2]; omega
  refine ⟨e, ?_⟩
  rw [costS_app]
  simp only [costS]
  rw [hS_app, hS_cons, hS_nil] at e
  unfold lastD
  rw [← h3, ← e, Int.mul_comm]
  simp only [Int.zero_add, Int.add_zero]
theorem pre_hour {j : Coast} : ∀ (n : Nat) {d : Nat → Nat} {o : List Nat}, o.length = n → DOk j d → PreF j d o → hS (jobsF j (fun _ => 0) o) = hourD j d
  | 0, d, o, hn, hd, ho => by
    rw [List.length_eq_zero_iff] at hn
    subst hn
    have hz : ∀ b, b < j.length → d b = 0 := fun b hb => by have := ho.cnt b hb; rw [List.count_nil] at this; exact this.symm
    have : hourD j d = sumZ j.length (fun _ => 0) := sumZ_congr fun b hb => by rw [hz b hb]; simp [hS]
    rw [this, sumZ_zero]; rfl
  | n + 1, d, o, hn, hd, ho => by
    rcases List.eq_nil_or_concat o with rfl | ⟨o', b, rfl⟩
    · simp at hn
    · rw [List.concat_eq_append] at ho hn ⊢
      obtain ⟨hb, h, hp⟩ := pre_init ho
      exact (pre_cost hd hb h hp (pre_hour n (by simpa using hn) (hd.dn b) hp)).1
theorem ends_all {j : Coast} : ∀ (n : Nat) {d : Nat → Nat} {o : List Nat}, o.length = n → DOk j d → PreF j d o → lowD j d ≤ costS 0 (jobsF j (fun _ => 0) o) ∧ costS 0 (jobsF j (fun _ => 0) o) ≤ highD j d
  | 0, d, o, hn, hd, ho => by
    rw [List.length_eq_zero_iff] at hn
    subst hn
    have hz : ∀ b, b < j.length → d b = 0 := fun b hb => by have := ho.cnt b hb; rw [List.count_nil] at this; exact this.symm
    rw [lowD_eq, highD_eq, (ends_none hz).1, (ends_none hz).2]; exact ⟨Int.le_refl _, Int.le_refl _⟩
  | n + 1, d, o, hn, hd, ho => by
    rcases List.eq_nil_or_concat o with rfl | ⟨o', b, rfl⟩
    · simp at hn
    · rw [List.concat_eq_append] at ho hn ⊢
      obtain ⟨hb, h, hp⟩ := pre_init ho
      have hn' : o'.length = n := by simpa using hn
      obtain ⟨i1, i2⟩ := ends_all n hn' (hd.dn b) hp
      rw [(pre_cost hd hb h hp (pre_hour n hn' (hd.dn b) hp)).2]
      have e1 := (ends_le (g := fun b => lowD j (dnF d b) + lastD j d b) hb h).1
      have e2 := (ends_le (g := fun b => highD j (dnF d b) + lastD j d b) hb h).2
      rw [← lowD_eq] at e1
      rw [← highD_eq] at e2

      omega
theorem ends_some {j : Coast} : ∀ (r : Nat) {d : Nat → Nat}, DOk j d → sumD j d ≤ r → (∃ o, PreF j d o ∧ costS 0 (jobsF j (fun _ => 0) o) = lowD j d) ∧ ∃ o, PreF j d o ∧ costS 0 (jobsF j (fun _ => 0) o) = highD j d
  | r, d, hd, hr => by
    by_cases hex : ∃ b, b < j.length ∧ 0 < d b
    · obtain ⟨⟨b, hb, h1, h2⟩, _⟩ := ends_at (g := fun b => lowD j (dnF d b) + lastD j d b) hex
      obtain ⟨_, c, hc, h3, h4⟩ := ends_at (g := fun b => highD j (dnF d b) + lastD j d b) hex
      rw [← lowD_eq] at h2
      rw [← highD_eq] at h4
      have hs1 := sum_dn hb h1
      have hs2 := sum_dn hc h3
      obtain ⟨r, rfl⟩ : ∃ k, r = k + 1 := ⟨r - 1, by omega⟩
      obtain ⟨⟨o, ho, e1⟩, _⟩ := ends_some r (hd.dn b) (by omega)
      obtain ⟨_, o2, ho2, e2⟩ := ends_some r (hd.dn c) (by omega)
      refine ⟨⟨o ++ [b], pre_snoc hb h1 ho, ?_⟩, o2 ++ [c], pre_snoc hc h3 ho2, ?_⟩
      · rw [(pre_cost hd hb h1 ho (pre_hour _ rfl (hd.dn b) ho)).2, e1, h2]
      · rw [(pre_cost hd hc h3 ho2 (pre_hour _ rfl (hd.dn c) ho2)).2, e2, h4]
    · have hn : ∀ b, b < j.length → d b = 0 := fun b hb => by
        rcases Nat.eq_zero_or_pos (d b) with h | h
        · exact h
        · exact absurd ⟨b, hb, h⟩ hex
      have hp : PreF j d [] := ⟨fun x hx => by simp at hx, fun b hb => by rw [hn b hb]; rfl⟩
      rw [lowD_eq, highD_eq, (ends_none hn).1, (ends_none hn).2]
      exact ⟨⟨[], hp, rfl⟩, [], hp, rfl⟩
/-- All jobs. -/
def fullD (j : Coast) : Nat → Nat := fun b => (j.getD b []).length
theorem full_ok (j : Coast) : DOk j (fullD j) := ⟨fun b _ => Nat.le_refl _, fun b hb => by unfold fullD; rw [List.getD_eq_getElem?_getD, List.getElem?_eq_none hb]; rfl⟩
theorem full_ord {j : Coast} {o : List Nat} : PreF j (fullD j) o ↔ OrdF j (fun _ => 0) o :=
  ⟨fun h => ⟨h.lt, fun b hb => by have := h.cnt b hb; unfold fullD at this; omega⟩, fun h => ⟨h.lt, fun b hb => by have := h.cnt b hb; unfold fullD; omega⟩⟩
theorem low_full {j : Coast} (hj : CoastOk j) : lowD j (fullD j) = leastO j := by
  have hb := bestO_ord hj
  have h1 := (ends_all _ rfl (full_ok j) (full_ord.2 hb)).1
  obtain ⟨⟨o, ho, e⟩, _⟩ := ends_some (sumD j (fullD j)) (full_ok j) (Nat.le_refl _)
  have h2 := bestO_least hj (full_ord.1 ho)
  have h3 : leastO j = costS 0 (jobsF j (fun _ => 0) (bestO j)) := harm_costS
  omega
theorem high_full {j : Coast} (hj : CoastOk j) : highD j (fullD j) = worstD j fun _ => 0 := by
  obtain ⟨_, o, ho, e⟩ := ends_some (sumD j (fullD j)) (full_ok j) (Nat.le_refl _)
  obtain ⟨o2, ho2, e2⟩ := worst_at hj (remD j fun _ => 0) ⟨fun _ _ => Nat.zero_le _, fun _ _ => rfl⟩ (Nat.le_refl _)
  have h1 := worst_ge (full_ord.1 ho)
  have h2 := (ends_all _ rfl (full_ok j) (full_ord.2 ho2)).2
  rw [hour_zero] at h1 e2
  omega
end Go.Proofs.Ytjijjncddjkdlaa

/- Shore: counts of what is done as one number. Plain law. -/
namespace Go.Proofs.Ytjijjncddjkdlaa
open Go.RowKit
set_option linter.unusedVariables false
set_option linter.unusedSimpArgs false
/-- What one job of a beach counts. -/
def pwN (j : Coast) : Nat → Nat
  | 0 => 1
  | b + 1 => pwN j b * ((j.getD b []).length + 1)
theorem pwN_pos (j : Coast) : ∀ b, 0 < pwN j b
  | 0 => Nat.one_pos
  | b + 1 => Nat.mul_pos (pwN_pos j b) (Nat.succ_pos _)
theorem pwN_bd {j : Coast} : ∀ {b : Nat}, b ≤ j.length → pwN j b ≤ 2 ^ manyN j b
  | 0, _ => by simp [pwN, manyN]
  | b + 1, hb => by
    rw [manyN_succ (by omega), Nat.pow_add]
    exact Nat.mul_le_mul (pwN_bd (by omega)) (by
      have : ∀ n, n + 1 ≤ 2 ^ n := fun n => by
        induction n with
        | zero => simp
        | succ n ih => rw [Nat.pow_succ]; omega
      exact this _)
theorem pwN_dvd {j : Coast} {a : Nat} : ∀ {b : Nat}, a ≤ b → ∃ m, pwN j b = pwN j a * m
  | 0, h => ⟨1, by rw [show a = 0 by omega]; simp⟩
  | b + 1, h => by
    rcases Nat.lt_or_ge b a with h1 | h1
    · exact ⟨1, by rw [show a = b + 1 by omega]; simp⟩
    · obtain ⟨m, hm⟩ := pwN_dvd (j := j) h1
      exact ⟨m * ((j.getD b []).length + 1), by rw [pwN, hm, Nat.mul_assoc]⟩
def dgN (j : Coast) (n : Nat) : Nat → Nat := fun b => if b < j.length then (n / pwN j b) % ((j.getD b []).length + 1) else 0
theorem dgN_ok (j : Coast) (n : Nat) : DOk j (dgN j n) := by
  refine ⟨fun b hb => ?_, fun b hb => ?_⟩
  · unfold dgN; rw [if_pos hb]; have : n / pwN j b % ((j.getD b []).length + 1) < (j.getD b []).length + 1 := Nat.mod_lt _ (by omega); omega
  · unfold dgN; rw [if_neg (by omega)]
theorem dgN_zero (j : Coast) : dgN j 0 = fun _ => 0 := by
  funext b; unfold dgN; split <;> simp
theorem div_up {j : Coast} {n b : Nat} : n / pwN j b / ((j.getD b []).length + 1) = n / pwN j (b + 1) := by
  rw [Nat.div_div_eq_div_mul]; rfl
theorem dgN_le {j : Coast} {n b : Nat} (hb : b < j.length) (h : 0 < dgN j n b) : pwN j b ≤ n := by
  unfold dgN at h
  rw [if_pos hb] at h
  refine Nat.le_of_not_lt fun h2 => ?_
  rw [Nat.div_eq_of_lt h2] at h; simp at h
theorem dgN_sub {j : Coast} {n b : Nat} (hb : b < j.length) (h : 0 < dgN j n b) : dgN j (n - pwN j b) = dnF (dgN j n) b := by
  have hle := dgN_le hb h
  unfold dgN at h
  rw [if_pos hb] at h
  have hp := pwN_pos j b
  have hq : (n - pwN j b) / pwN j b = n / pwN j b - 1 := by
    have e := Nat.sub_mul_div n (pwN j b) 1
    rwa [Nat.mul_one] at e
  have hq1 : 0 < n / pwN j b := Nat.div_pos hle hp
  funext c
  unfold dnF
  by_cases hc : c < j.length
  · unfold dgN
    rw [if_pos hc, if_pos hc]
    rcases Nat.lt_trichotomy c b with h1 | h1 | h1
    · rw [if_neg (by omega)]
      obtain ⟨m, hm⟩ := pwN_dvd (j := j) (show c + 1 ≤ b by omega)
      have e : pwN j b = pwN j c * (((j.getD c []).length + 1) * m) := by rw [hm, pwN, Nat.mul_assoc]
      have hpc := pwN_pos j c
      have e2 : (n - pwN j b) / pwN j c = n / pwN j c - ((j.getD c []).length + 1) * m := by
        rw [e]; exact Nat.sub_mul_div _ _ _
      have h3 : ((j.getD c []).length + 1) * m ≤ n / pwN j c := by
        rw [Nat.le_div_iff_mul_le hpc, Nat.mul_comm, ← e]; exact hle
      rw [e2]
      obtain ⟨x, hx⟩ : ∃ x, n / pwN j c = x + ((j.getD c []).length + 1) * m := ⟨n / pwN j c - ((j.getD c []).length + 1) * m, by omega⟩
      rw [hx, Nat.add_sub_cancel, Nat.add_mul_mod_self_left]
    · subst h1
      rw [if_pos rfl, hq]
      obtain ⟨x, hx⟩ : ∃ x, n / pwN j c = x + 1 := ⟨n / pwN j c - 1, by omega⟩
      rw [hx] at h ⊢
      rw [Nat.add_sub_cancel]
      have hL : 0 < (j.getD c []).length + 1 := Nat.succ_pos _
      have h4 := Nat.div_add_mod (x + 1) ((j.getD c []).length + 1)
      have h5 := Nat.mod_lt (x + 1) hL
      have h6 : x = (x + 1) % ((j.getD c []).length + 1) - 1 + ((j.getD c []).length + 1) * ((x + 1) / ((j.getD c []).length + 1)) := by omega
      have h7 : x % ((j.getD c []).length + 1) = ((x + 1) % ((j.getD c []).length + 1) - 1) % ((j.getD c []).length + 1) := by
        conv => lhs; rw [h6, Nat.add_mul_mod_self_left]
      rw [h7, Nat.mod_eq_of_lt (by omega)]
    · rw [if_neg (by omega)]
      obtain ⟨m, hm⟩ := pwN_dvd (j := j) (show b + 1 ≤ c by omega)
      have e : ∀ y, y / pwN j c = y / pwN j b / ((j.getD b []).length + 1) / m := fun y => by
        rw [div_up, Nat.div_div_eq_div_mul, ← hm]
      rw [e n, e (n - pwN j b), hq]
      obtain ⟨x, hx⟩ : ∃ x, n / pwN j b = x + 1 := ⟨n / pwN j b - 1, by omega⟩
      rw [hx] at h ⊢
      rw [Nat.add_sub_cancel]
      have hL : 0 < (j.getD b []).length + 1 := Nat.succ_pos _
      have h4 := Nat.div_add_mod (x + 1) ((j.getD b []).length + 1)
      have h5 := Nat.mod_lt (x + 1) hL
      have h8 : x / ((j.getD b []).length + 1) = (x + 1) / ((j.getD b []).length + 1) := by
        have h6 : x = (x + 1) % ((j.getD b []).length + 1) - 1 + ((j.getD b []).length + 1) * ((x + 1) / ((j.getD b []).length + 1)) := by omega
        conv => lhs; rw [h6, Nat.add_mul_div_left _ _ hL, Nat.div_eq_of_lt (by omega), Nat.zero_add]
      rw [h8]
  · have hcb : c ≠ b := by omega
    unfold dgN
    rw [if_neg hc, if_neg hc, if_neg hcb]
theorem dgN_full (j : Coast) : dgN j (pwN j j.length - 1) = fullD j := by
  funext b
  by_cases hb : b < j.length
  · unfold dgN fullD
    rw [if_pos hb]
    obtain ⟨m, hm⟩ := pwN_dvd (j := j) (show b + 1 ≤ j.length by omega)
    have hp := pwN_pos j b
    have hpl := pwN_pos j j.length
    have hm0 : 0 < m := by
      rcases Nat.eq_zero_or_pos m with h | h
      · rw [h] at hm; omega
      · exact h
    have e : pwN j j.length = pwN j b * (((j.getD b []).length + 1) * m) := by rw [hm, pwN, Nat.mul_assoc]
    obtain ⟨y, hy⟩ : ∃ y, m = y + 1 := ⟨m - 1, by omega⟩
    have hX : ((j.getD b []).length + 1) * m = (j.getD b []).length + ((j.getD b []).length + 1) * y + 1 := by rw [hy, Nat.mul_add]; omega
    have e3 : pwN j j.length - 1 = (pwN j b - 1) + pwN j b * ((j.getD b []).length + ((j.getD b []).length + 1) * y) := by
      rw [e, hX, Nat.mul_add, Nat.mul_one]; omega
    rw [e3, Nat.add_mul_div_left _ _ hp, Nat.div_eq_of_lt (by omega), Nat.zero_add, Nat.add_mul_mod_self_left, Nat.mod_eq_of_lt (by omega)]
  · rw [(dgN_ok j _).2 b (by omega), (full_ok j).2 b (by omega)]
/-- The rows. -/
def rwN (f : Nat → Int) (n : Nat) : List Int := (List.range n).map f
theorem rwN_len (f : Nat → Int) (n : Nat) : (rwN f n).length = n := by simp [rwN]
theorem rwN_get {f : Nat → Int} {n k : Nat} (h : k < n) : (rwN f n).getD k 0 = f k := by
  simp [rwN, List.getD_eq_getElem?_getD, h]
theorem rwN_set {f : Nat → Int} {n k : Nat} {x : Int} : (rwN f n).set k x = rwN (fun m => if m = k then x else f m) n := by
  apply List.ext_getElem
  · simp [rwN]
  · intro m h1 h2
    rw [List.getElem_set]
    simp only [rwN, List.getElem_map, List.getElem_range]
    by_cases h : k = m
    · rw [if_pos h, if_pos h.symm]
    · rw [if_neg h, if_neg fun e => h e.symm]
theorem rwN_congr {f g : Nat → Int} {n : Nat} (h : ∀ m, m < n → f m = g m) : rwN f n = rwN g n := List.map_congr_left fun m hm => h m (List.mem_range.1 hm)
/-- A row of numbers below n known, number n being found, 0 behind. -/
def rowD (g : Nat → Int) (n : Nat) (x : Int) : Nat → Int := fun m => if m < n then g m else if m = n then x else 0
theorem rowD_next {g : Nat → Int} {n : Nat} : rowD g n (g n) = rowD g (n + 1) 0 := by
  funext m; unfold rowD
  by_cases h : m < n
  · rw [if_pos h, if_pos (by omega)]
  · by_cases h2 : m = n
    · subst h2; simp
    · rw [if_neg h, if_neg h2, if_neg (by omega)]; simp
end Go.Proofs.Ytjijjncddjkdlaa

/- Shore: the reference's ends. -/
namespace Go.Proofs.Ytjijjncddjkdlaa
open Go.RowKit
set_option linter.unusedVariables false
set_option linter.unusedSimpArgs false
theorem jobL1z {l : List Job} {k : Nat} {z : Int} (hz : z = k) (h : k < l.length) : (jobC l)[addO (mulS z.toNat 2) 1]? = some (C.i (l.getD k (0, 0)).2) := by subst hz; exact jobL1 h
theorem rwL {f : Nat → Int} {n k : Nat} {z x : Int} (hz : z = k) (h : k < n) (hx : f k = x) : ((rwN f n).map C.i)[mulS z.toNat 1]? = some (C.i x) := by
  rw [intLz hz (by rw [rwN_len]; exact h), rwN_get h, hx]
theorem rwS {f g : Nat → Int} {n k : Nat} {z x : Int} (hz : z = k) (h : ∀ m, m < n → g m = if m = k then x else f m) : setL ((rwN f n).map C.i) (mulS z.toNat 1) [C.i x] = (rwN g n).map C.i := by
  subst hz
  rw [mulS_eq, Int.toNat_natCast, Nat.mul_one, rwN_congr h, ← rwN_set, List.map_set]; rfl
theorem rwZ {f : Nat → Int} {n : Nat} (h : ∀ m, m < n → f m = 0) : repC n [C.i 0] = (rwN f n).map C.i := by
  rw [nats_zero, rwN_congr h]
  congr 1
  apply List.ext_getElem
  · simp [natsC, rwN]
  · intro m h1 h2
    simp [natsC, rwN]
theorem chk_rep (p : Nat → Bool) (l : Nat) (k : Kd) (n : Nat) : ([⟨l, k, repC n [C.i 0]⟩] : List E).all (fun e => e.cs.all (C.chk p)) = true := by
  rw [nats_zero]
  simp only [List.all_cons, List.all_nil, Bool.and_true]
  exact chk_ints _ _
theorem rowD_one {g : Nat → Int} {n : Nat} {x y : Int} (m : Nat) : rowD g n y m = if m = n then y else rowD g n x m := by
  unfold rowD
  by_cases h : m = n
  · subst h; simp
  · simp [h]
def rwD (j : Coast) (n k : Nat) : List Int := rwN (fun b => if b < k then ((dgN j n b : Nat) : Int) else 0) j.length
def lowR (j : Coast) : Nat → Int := fun m => lowD j (dgN j m)
def highR (j : Coast) : Nat → Int := fun m => highD j (dgN j m)
def lowB (j : Coast) (n : Nat) : Nat → Int := fun b => lowD j (dnF (dgN j n) b) + lastD j (dgN j n) b
def highB (j : Coast) (n : Nat) : Nat → Int := fun b => highD j (dnF (dgN j n) b) + lastD j (dgN j n) b
def hourB (j : Coast) (n : Nat) : Nat → Int := fun b => hS ((j.getD b []).take (dgN j n b))
set_option maxHeartbeats 4000000 in
set_option maxRecDepth 100000 in
theorem ends70_spec (j : Coast) (hj : Sized j) (hv : validL j = true) : Spec Try.prog 70 [V.c (.sl 0 j.length)] (⟨0, .ro 1, slsC 1 j⟩ :: entC 1 j) 32 (Is (.tup [.c (.i (leastO j)), .c (.i (worstD j fun _ => 0))])) := by
  have hj20 := hj.len
  have hlen := slsC_len (b := 1) (j := j)
  have hc := validL_coast hj hv
  have hm := validL_many hv
  have h6 := (validL_len hv).2
  have h12 : ∀ b, b < j.length → (j.getD b []).length ≤ 12 := fun b hb => by have := beach_many hb; omega
  have hpw : ∀ b, b ≤ j.length → pwN j b ≤ 4096 := fun b hb => Nat.le_trans (pwN_bd hb) (Nat.le_trans (Nat.pow_le_pow_right (by omega) (show manyN j b ≤ 12 by have := manyN_mono j (a := b) (b := j.length) hb (Nat.le_refl _); omega)) (by decide))
  have hpm : ∀ b, ((pwN j b : Nat) : Int) * (((j.getD b []).length : Nat) + 1) = ((pwN j (b + 1) : Nat) : Int) := fun b => by rw [pwN]; push_cast; rfl
  have hS1 := pwN_pos j j.length
  have hSl := hpw j.length (Nat.le_refl _)
  refine Spec.of tok Try.func70 rfl rfl rfl fun n0 cx => vc_ok tok ?_
  repeat ((conv => whnf); first | refine fun (K' : K3) hK' => ?_ | (refine hK' _ _ _ ?_; clear hK' K'))
  refine Tri.loop (γ := Nat) (fun b => b ≤ j.length) (fun b => [(0, V.c (.sl 0 j.length)), (4, V.i (pwN j b : Nat)), (5, V.i (b : Nat))])
    (fun b => ⟨0, .ro 1, slsC 1 j⟩ :: entC 1 j) 32 (fun b => j.length - b) 0 (R0 := []) ?_ ?_ ?_
  · omega
  · skip
    refine ⟨?_, ?_, injB_ent (p := [_]) (by omega) rfl rfl, rfl, by exact Nat.le_of_ble_eq_true rfl⟩
    · repeat (first | exact trivial | (refine And.intro (covS_syn (by rfl) rfl (by first | exact trivial | exact Nat.le_of_ble_eq_true rfl)) ?_))
    · repeat (first | (exact covL_ent (by omega) (fun k hk => by (try simp only [flatN, List.cons_append, List.nil_append]); (repeat (first | rw [find_skip (by omega)] | rw [find_hi (by omega) (by rfl)])))) | refine And.intro (covE_id (Nat.le_of_ble_eq_true rfl) (by first | exact wf_sls _ _ _ (by omega) | exact wf_jobs _ _) rfl (by rfl)) ?_)
  · intro b hb
    refine vc_ok tok ?_
    by_cases hbl : b < j.length
    · have h1 := hpm b
      have h2 := hpw (b + 1) (by omega)
      have h3 := h12 b hbl
      repeat ((conv => whnf); first | (refine And.intro (by first | omega | (dsimp only [inK]; omega)) ?_) | with_reducible refine ld (slL hbl) ?_ | refine br_t (by omega) ?_ | refine fun (K' : K3) hK' => ?_ | (refine hK' _ _ _ ?_; clear hK' K'))
      refine ⟨b + 1, [], by omega, by omega, ?_⟩
      refine ⟨?_, ?_, injB_ent (p := [_]) (by omega) rfl rfl, rfl, by exact Nat.le_of_ble_eq_true rfl⟩
      · repeat (first | exact trivial | (refine And.intro (covS_syn (by rfl) rfl (by first | exact trivial | exact Nat.le_of_ble_eq_true rfl)) ?_))
      · repeat (first | (exact covL_ent (by omega) (fun k hk => by (try simp only [flatN, List.cons_append, List.nil_append]); (repeat (first | rw [find_skip (by omega)] | rw [find_hi (by omega) (by rfl)])))) | refine And.intro (covE_id (Nat.le_of_ble_eq_true rfl) (by first | exact wf_sls _ _ _ (by omega) | exact wf_jobs _ _) rfl (by rfl)) ?_)
    · obtain rfl : b = j.length := by omega
      obtain ⟨S, hSz⟩ : ∃ S, S = pwN j j.length := ⟨_, rfl⟩
      rw [← hSz] at hS1 hSl ⊢
      repeat ((conv => whnf); first | (refine And.intro (by first | omega | (dsimp only [inK]; omega)) ?_) | refine br_f (by omega) ?_ | refine fun (K' : K3) hK' => ?_ | (refine hK' _ _ _ ?_; clear hK' K') | refine draw_auto tok mixed (by kernel_rfl) ?_ | refine And.intro (And.intro rfl (chk_rep _ _ _ _)) ?_ | refine And.intro (And.intro rfl rfl) ?_)
      have hz0 : ∀ m, m = 0 → dgN j m = fun _ => 0 := fun m h => by rw [h, dgN_zero]
      have hzl : sumD j (fun _ => 0) = 0 := smN_zero
      have hz1 : ∀ m, m < S → rowD (highR j) 1 0 m = 0 := fun m _ => by
        unfold rowD; split
        · unfold highR; rw [hz0 m (by omega)]; unfold highD; rw [hzl]; rfl
        · split <;> rfl
      have hz2 : ∀ m, m < S → rowD (lowR j) 1 0 m = 0 := fun m _ => by
        unfold rowD; split
        · unfold lowR; rw [hz0 m (by omega)]; unfold lowD; rw [hzl]; rfl
        · split <;> rfl
      refine Tri.loop (γ := Nat) (fun n => 1 ≤ n ∧ n ≤ S) (fun n => [(0, V.c (.sl 0 j.length)), (4, V.i (S : Nat)), (6, V.c (.sl 32 S)), (7, V.c (.sl 33 S)), (8, V.i (n : Nat))])
        (fun n => ⟨33, .vec 3 1, (rwN (rowD (highR j) n 0) S).map C.i⟩ :: ⟨32, .vec 3 1, (rwN (rowD (lowR j) n 0) S).map C.i⟩ :: ⟨0, .ro 1, slsC 1 j⟩ :: entC 1 j) 34 (fun n => S - n) 1 (R0 := []) ?_ ?_ ?_
      · omega
      · skip
        refine ⟨?_, ?_, injB_ent (p := [_, _, _]) (by omega) rfl rfl, rfl, by exact Nat.le_of_ble_eq_true rfl⟩
        · repeat (first | exact trivial | (refine And.intro (covS_syn (by rfl) rfl (by first | exact trivial | exact Nat.le_of_ble_eq_true rfl)) ?_))
        · repeat (first | (exact covL_ent (by omega) (fun k hk => by (try simp only [flatN, List.cons_append, List.nil_append]); (repeat (first | rw [find_skip (by omega)] | rw [find_hi (by omega) (by rfl)])))) | (refine And.intro (covE_id (Nat.le_of_ble_eq_true rfl) (by first | exact wf_ints _ _ | first | exact wf_sls _ _ _ (by omega) | exact wf_jobs _ _) rfl (by first | rfl | exact rwZ hz1 | exact rwZ hz2)) ?_))
      · rintro n ⟨hn1, hn⟩
        refine vc_ok tok ?_
        have hbL : ∀ m, (0 ≤ lowD j (dgN j m) ∧ lowD j (dgN j m) ≤ 2000000) ∧ 0 ≤ highD j (dgN j m) ∧ highD j (dgN j m) ≤ 2000000 := fun m => by
          have := ends_bd hc 12 (dgN_ok j m) (by have := sumD_le (dgN_ok j m); omega)
          omega
        by_cases hnS : n < S
        · have hdg := dgN_ok j n
          obtain ⟨D, hD⟩ : ∃ D, D = dgN j n := ⟨_, rfl⟩
          have hHb := hour_bd hc hdg
          repeat ((conv => whnf); first | (refine And.intro (by first | omega | (dsimp only [inK]; omega)) ?_) | refine br_t (by omega) ?_ | refine fun (K' : K3) hK' => ?_ | (refine hK' _ _ _ ?_; clear hK' K'))
          refine Tri.loop (γ := Nat) (fun b => b ≤ j.length) (fun b => [(0, V.c (.sl 0 j.length)), (4, V.i (S : Nat)), (6, V.c (.sl 32 S)), (7, V.c (.sl 33 S)), (8, V.i (n : Nat)), (9, V.c (.sl 34 j.length)), (10, V.i (n / pwN j b : Nat)), (11, V.i (sumZ b (hourB j n))), (12, V.i (b : Nat))])
            (fun b => ⟨34, .vec 3 1, (rwD j n b).map C.i⟩ :: ⟨33, .vec 3 1, (rwN (rowD (highR j) n 0) S).map C.i⟩ :: ⟨32, .vec 3 1, (rwN (rowD (lowR j) n 0) S).map C.i⟩ :: ⟨0, .ro 1, slsC 1 j⟩ :: entC 1 j) 35 (fun b => j.length - b) 0 (R0 := []) ?_ ?_ ?_
          · omega
          · skip
            refine ⟨?_, ?_, injB_ent (p := [_, _, _, _]) (by omega) rfl rfl, rfl, by exact Nat.le_of_ble_eq_true rfl⟩
            · repeat (first | exact trivial | (refine And.intro (covS_syn (by first | rfl | (refine congrArg some (congrArg V.i ?_); (rw [pwN, Nat.div_one]))) rfl (by first | exact trivial | exact Nat.le_of_ble_eq_true rfl)) ?_))
            · repeat (first | (exact covL_ent (by omega) (fun k hk => by (try simp only [flatN, List.cons_append, List.nil_append]); (repeat (first | rw [find_skip (by omega)] | rw [find_hi (by omega) (by rfl)])))) | (refine And.intro (covE_id (Nat.le_of_ble_eq_true rfl) (by first | exact wf_ints _ _ | first | exact wf_sls _ _ _ (by omega) | exact wf_jobs _ _) rfl (by first | rfl | exact rwZ (fun m _ => if_neg (by omega)))) ?_))
          · intro b hb
            refine vc_ok tok ?_
            have hrl : ((rwD j n b).map C.i).length = j.length := by rw [List.length_map]; exact rwN_len _ _
            have hsb := sumZ_bd (n := b) (F := hourB j n) (M := 1200) (fun c hcb => by
              have := hS_take_bd (hc.jobs c (by omega)).1 (dgN j n c) (hdg.1 c (by omega))
              have := h12 c (by omega); have := hdg.1 c (by omega)
              unfold hourB; omega)
            have hsb' := small_mul (n := b) (N := 6) (M := 1200) (by omega) (by omega)
            by_cases hbl : b < j.length
            · have hb12 := h12 b hbl
              have hDb := hdg.1 b hbl
              have hjl := jobC_len (j.getD b [])
              have hjb := (hc.jobs b hbl).1
              have hrem : ((n / pwN j b : Nat) : Int) % (((j.getD b []).length : Nat) + 1) = ((dgN j n b : Nat) : Int) := by unfold dgN; rw [if_pos hbl]; push_cast; rfl
              have hquo : ((n / pwN j b : Nat) : Int) / (((j.getD b []).length : Nat) + 1) = ((n / pwN j (b + 1) : Nat) : Int) := by rw [← div_up]; push_cast; rfl
              have hq0 : 0 ≤ ((n / pwN j b : Nat) : Int) ∧ ((n / pwN j b : Nat) : Int) ≤ 4096 :=
                ⟨Int.natCast_nonneg _, by have h := Nat.le_trans (Nat.div_le_self n (pwN j b)) (show n ≤ 4096 by omega); exact_mod_cast h⟩
              obtain ⟨q, hq⟩ : ∃ q : Int, q = ((n / pwN j b : Nat) : Int) := ⟨_, rfl⟩
              obtain ⟨q1, hq1⟩ : ∃ q1 : Int, q1 = ((n / pwN j (b + 1) : Nat) : Int) := ⟨_, rfl⟩
              have hq2 : 0 ≤ q1 ∧ q1 ≤ 4096 := by
                rw [hq1]
                exact ⟨Int.natCast_nonneg _, by have h := Nat.le_trans (Nat.div_le_self n (pwN j (b + 1))) (show n ≤ 4096 by omega); exact_mod_cast h⟩
              rw [← hq] at hrem hquo hq0 ⊢
              rw [← hq1] at hquo
              have hst1 : ∀ m, m < j.length → (if m < b + 1 then ((dgN j n m : Nat) : Int) else 0) = if m = b then ((dgN j n b : Nat) : Int) else (if m < b then ((dgN j n m : Nat) : Int) else 0) := fun m _ => by
                by_cases e : m = b
                · subst e; rw [if_pos (by omega), if_pos rfl]
                · rw [if_neg e]
                  by_cases e2 : m < b
                  · rw [if_pos (by omega), if_pos e2]
                  · rw [if_neg (by omega), if_neg e2]
              repeat ((conv => whnf); first | (refine And.intro (by first | omega | (dsimp only [inK]; omega) | (simp only [mulS_eq]; omega)) ?_) | with_reducible refine ld (slL hbl) ?_ | refine br_t (by omega) ?_ | refine fun (K' : K3) hK' => ?_ | (refine hK' _ _ _ ?_; clear hK' K') | rw [hrem] | rw [hquo] | with_reducible refine updK_ent (by omega) ?_)
              refine Tri.loop (γ := Nat) (fun i => i ≤ dgN j n b) (fun i => [(0, V.c (.sl 0 j.length)), (4, V.i (S : Nat)), (6, V.c (.sl 32 S)), (7, V.c (.sl 33 S)), (8, V.i (n : Nat)), (9, V.c (.sl 34 j.length)), (10, V.i q1), (11, V.i (sumZ b (hourB j n) + hS ((j.getD b []).take i))), (12, V.i (b : Nat)), (13, V.i (i : Nat))])
                (fun i => ⟨34, .vec 3 1, (rwD j n (b + 1)).map C.i⟩ :: ⟨33, .vec 3 1, (rwN (rowD (highR j) n 0) S).map C.i⟩ :: ⟨32, .vec 3 1, (rwN (rowD (lowR j) n 0) S).map C.i⟩ :: ⟨0, .ro 1, slsC 1 j⟩ :: entC 1 j) 35 (fun i => dgN j n b - i) 0 (R0 := []) ?_ ?_ ?_
              · omega
              · skip
                refine ⟨?_, ?_, injB_ent (p := [_, _, _, _]) (by omega) rfl rfl, rfl, by exact Nat.le_of_ble_eq_true rfl⟩
                · repeat (first | exact trivial | (refine And.intro (covS_syn (by first | rfl | (refine congrArg some (congrArg V.i ?_); exact (Int.add_zero _).symm)) rfl (by first | exact trivial | exact Nat.le_of_ble_eq_true rfl)) ?_))
                · repeat (first | (exact covL_ent (by omega) (fun k hk => by (try simp only [flatN, List.cons_append, List.nil_append]); (repeat (first | rw [find_skip (by omega)] | rw [find_hi (by omega) (by rfl)])))) | (refine And.intro (covE_id (Nat.le_of_ble_eq_true rfl) (by first | exact wf_ints _ _ | first | exact wf_sls _ _ _ (by omega) | exact wf_jobs _ _) rfl (by first | rfl | exact rwS rfl hst1)) ?_))
              · intro i hi
                refine vc_ok tok ?_
                have hrl : ((rwD j n (b + 1)).map C.i).length = j.length := by rw [List.length_map]; exact rwN_len _ _
                have hld : ((rwD j n (b + 1)).map C.i)[mulS ((b : Nat) : Int).toNat 1]? = some (C.i ((dgN j n b : Nat) : Int)) := rwL (f := fun c => if c < b + 1 then ((dgN j n c : Nat) : Int) else 0) (n := j.length) (k := b) (z := (b : Nat)) rfl hbl (if_pos (by omega))
                have hti := hS_take_bd hjb i (by omega)
                by_cases hil : i < dgN j n b
                · have hib := hjb i (by omega)
                  have hnx : hS ((j.getD b []).take (i + 1)) = hS ((j.getD b []).take i) + ((j.getD b []).getD i (0, 0)).1 := by
                    rw [take_succ_getD (d := (0, 0)) (by omega), hS_app, hS_cons, hS_nil]; omega
                  repeat ((conv => whnf); first | (refine And.intro (by first | omega | (dsimp only [inK]; omega)) ?_) | with_reducible refine ld (hld) ?_ | with_reducible refine ld (slL hbl) ?_ | with_reducible refine ld (jobL0 (show i < (j.getD b []).length by omega)) ?_ | refine br_t (by omega) ?_ | refine fun (K' : K3) hK' => ?_ | (refine hK' _ _ _ ?_; clear hK' K') | refine onV_ld (c := ⟨1 + b, .ro 2, jobC (j.getD b [])⟩) (by ((try (conv => lhs; arg 1; whnf)); (repeat (first | rw [find_skip (by omega)] | rw [find_hi (by omega) (by rfl)])); exact entC_find hbl)) ?_)
                  refine ⟨i + 1, [], by omega, by omega, ?_⟩
                  refine ⟨?_, ?_, injB_ent (p := [_, _, _, _]) (by omega) rfl rfl, rfl, by exact Nat.le_of_ble_eq_true rfl⟩
                  · repeat (first | exact trivial | (refine And.intro (covS_syn (by first | rfl | (refine congrArg some (congrArg V.i ?_); (rw [hnx]; omega))) rfl (by first | exact trivial | exact Nat.le_of_ble_eq_true rfl)) ?_))
                  · repeat (first | (exact covL_ent (by omega) (fun k hk => by (try simp only [flatN, List.cons_append, List.nil_append]); (repeat (first | rw [find_skip (by omega)] | rw [find_hi (by omega) (by rfl)])))) | (refine And.intro (covE_id (Nat.le_of_ble_eq_true rfl) (by first | exact wf_ints _ _ | first | exact wf_sls _ _ _ (by omega) | exact wf_jobs _ _) rfl (by rfl)) ?_))
                · obtain rfl : i = dgN j n b := by omega
                  repeat ((conv => whnf); first | (refine And.intro (by first | omega | (dsimp only [inK]; omega)) ?_) | with_reducible refine ld (hld) ?_ | refine br_f (by omega) ?_ | refine fun (K' : K3) hK' => ?_ | (refine hK' _ _ _ ?_; clear hK' K'))
                  refine ⟨b + 1, [], by omega, by omega, ?_⟩
                  refine ⟨?_, ?_, injB_ent (p := [_, _, _, _]) (by omega) rfl rfl, rfl, by exact Nat.le_of_ble_eq_true rfl⟩
                  · repeat (first | exact trivial | (refine And.intro (covS_syn (by first | rfl | (refine congrArg some (congrArg V.i ?_); exact hq1)) rfl (by first | exact trivial | exact Nat.le_of_ble_eq_true rfl)) ?_))
                  · repeat (first | (exact covL_ent (by omega) (fun k hk => by (try simp only [flatN, List.cons_append, List.nil_append]); (repeat (first | rw [find_skip (by omega)] | rw [find_hi (by omega) (by rfl)])))) | (refine And.intro (covE_id (Nat.le_of_ble_eq_true rfl) (by first | exact wf_ints _ _ | first | exact wf_sls _ _ _ (by omega) | exact wf_jobs _ _) rfl (by rfl)) ?_))
            · obtain rfl : b = j.length := by omega
              have hrl : ((rwD j n j.length).map C.i).length = j.length := by rw [List.length_map]; exact rwN_len _ _
              have hpS : ∀ b, b < j.length → ∀ k, k = pwN j b → k ≤ 4096 := fun b hb k hk => by rw [hk]; exact hpw b (by omega)
              repeat ((conv => whnf); first | refine br_f (by omega) ?_ | refine fun (K' : K3) hK' => ?_ | (refine hK' _ _ _ ?_; clear hK' K'))
              refine Tri.loop (γ := Nat) (fun k => k ≤ j.length) (fun k => [(0, V.c (.sl 0 j.length)), (4, V.i (S : Nat)), (6, V.c (.sl 32 S)), (7, V.c (.sl 33 S)), (8, V.i (n : Nat)), (9, V.c (.sl 34 j.length)), (11, V.i (hourD j (dgN j n))), (14, V.c (.bool (noneB (dgN j n) k))), (15, V.i (pwN j k : Nat)), (16, V.i (k : Nat))])
                (fun k => ⟨34, .vec 3 1, (rwD j n j.length).map C.i⟩ :: ⟨33, .vec 3 1, (rwN (rowD (highR j) n (highG (dgN j n) (highB j n) k)) S).map C.i⟩ :: ⟨32, .vec 3 1, (rwN (rowD (lowR j) n (lowG (dgN j n) (lowB j n) k)) S).map C.i⟩ :: ⟨0, .ro 1, slsC 1 j⟩ :: entC 1 j) 35 (fun k => j.length - k) 0 (R0 := []) ?_ ?_ ?_
              · omega
              · skip
                refine ⟨?_, ?_, injB_ent (p := [_, _, _, _]) (by omega) rfl rfl, rfl, by exact Nat.le_of_ble_eq_true rfl⟩
                · repeat (first | exact trivial | (refine And.intro (covS_syn (by rfl) rfl (by first | exact trivial | exact Nat.le_of_ble_eq_true rfl)) ?_) | refine And.intro (covS_bool rfl rfl (by rfl)) ?_)
                · repeat (first | (exact covL_ent (by omega) (fun k hk => by (try simp only [flatN, List.cons_append, List.nil_append]); (repeat (first | rw [find_skip (by omega)] | rw [find_hi (by omega) (by rfl)])))) | (refine And.intro (covE_id (Nat.le_of_ble_eq_true rfl) (by first | exact wf_ints _ _ | first | exact wf_sls _ _ _ (by omega) | exact wf_jobs _ _) rfl (by rfl)) ?_))
              · intro k hk
                refine vc_ok tok ?_
                have hnl : ∀ f : Nat → Int, ((rwN f S).map C.i).length = S := fun f => by rw [List.length_map, rwN_len]
                have hnl1 := hnl (rowD (highR j) n (highG (dgN j n) (highB j n) k))
                have hnl2 := hnl (rowD (lowR j) n (lowG (dgN j n) (lowB j n) k))
                by_cases hkl : k < j.length
                · have hk12 := h12 k hkl
                  have hDk := hdg.1 k hkl
                  have hjl := jobC_len (j.getD k [])
                  have hdk : ((rwD j n j.length).map C.i)[mulS ((k : Nat) : Int).toNat 1]? = some (C.i ((dgN j n k : Nat) : Int)) := rwL (f := fun c => if c < j.length then ((dgN j n c : Nat) : Int) else 0) (n := j.length) (k := k) (z := (k : Nat)) rfl hkl (if_pos hkl)
                  have hnb := noneB_succ (dgN j n) k
                  have hpk := hpm k
                  have hpk1 := hpw (k + 1) (by omega)
                  by_cases hd0 : dgN j n k = 0
                  · have hdn : ¬ ((dgN j n k : Nat) : Int) > 0 := by omega
                    have e1 : lowG (dgN j n) (lowB j n) (k + 1) = lowG (dgN j n) (lowB j n) k := by simp only [lowG]; rw [if_neg (by omega)]
                    have e2 : highG (dgN j n) (highB j n) (k + 1) = highG (dgN j n) (highB j n) k := by simp only [highG]; rw [if_neg (by omega)]
                    have e3 : noneB (dgN j n) k = noneB (dgN j n) (k + 1) := by rw [hnb, decide_eq_true hd0, Bool.and_true]
                    repeat ((conv => whnf); first | (refine And.intro (by first | omega | (dsimp only [inK]; omega)) ?_) | with_reducible refine ld (hdk) ?_ | with_reducible refine ld (slL hkl) ?_ | refine br_t (by omega) ?_ | refine br_f (by omega) ?_ | refine fun (K' : K3) hK' => ?_ | (refine hK' _ _ _ ?_; clear hK' K'))
                    refine ⟨k + 1, [], by omega, by omega, ?_⟩
                    rw [e1, e2]
                    refine ⟨?_, ?_, injB_ent (p := [_, _, _, _]) (by omega) rfl rfl, rfl, by exact Nat.le_of_ble_eq_true rfl⟩
                    · repeat (first | exact trivial | (refine And.intro (covS_syn (by rfl) rfl (by first | exact trivial | exact Nat.le_of_ble_eq_true rfl)) ?_) | refine And.intro (covS_bool rfl rfl (by exact e3)) ?_)
                    · repeat (first | (exact covL_ent (by omega) (fun k hk => by (try simp only [flatN, List.cons_append, List.nil_append]); (repeat (first | rw [find_skip (by omega)] | rw [find_hi (by omega) (by rfl)])))) | (refine And.intro (covE_id (Nat.le_of_ble_eq_true rfl) (by first | exact wf_ints _ _ | first | exact wf_sls _ _ _ (by omega) | exact wf_jobs _ _) rfl (by rfl)) ?_))
                  · have hdp : ((dgN j n k : Nat) : Int) > 0 := by omega
                    have hpos : 0 < dgN j n k := by omega
                    have hle := dgN_le hkl hpos
                    have hsub := dgN_sub hkl hpos
                    have hzk : ((dgN j n k : Nat) : Int) - 1 = ((dgN j n k - 1 : Nat) : Int) := by omega
                    have hkd : dgN j n k - 1 < (j.getD k []).length := by omega
                    have hzn : (n : Int) - (pwN j k : Nat) = ((n - pwN j k : Nat) : Int) := by omega
                    have hpk0 := pwN_pos j k
                    have hlb := lastD_bd hc hdg hkl hpos
                    have hbs := hbL (n - pwN j k)
                    rw [hsub] at hbs
                    have hlb' : 0 ≤ hourD j (dgN j n) * ((j.getD k []).getD (dgN j n k - 1) (0, 0)).2 ∧ hourD j (dgN j n) * ((j.getD k []).getD (dgN j n k - 1) (0, 0)).2 ≤ 10000 * (manyN j j.length : Int) := hlb
                    have hlo := rwL (f := rowD (lowR j) n (lowG (dgN j n) (lowB j n) k)) (n := S) (k := n - pwN j k) (x := lowD j (dnF (dgN j n) k)) hzn (by omega) (by unfold rowD; rw [if_pos (by omega)]; unfold lowR; rw [hsub])
                    have hhi := rwL (f := rowD (highR j) n (highG (dgN j n) (highB j n) k)) (n := S) (k := n - pwN j k) (x := highD j (dnF (dgN j n) k)) hzn (by omega) (by unfold rowD; rw [if_pos (by omega)]; unfold highR; rw [hsub])
                    have hln := rwL (f := rowD (lowR j) n (lowG (dgN j n) (lowB j n) k)) (n := S) (k := n) (z := (n : Nat)) (x := lowG (dgN j n) (lowB j n) k) rfl hnS (by unfold rowD; rw [if_neg (by omega), if_pos rfl])
                    have hhn := rwL (f := rowD (highR j) n (highG (dgN j n) (highB j n) k)) (n := S) (k := n) (z := (n : Nat)) (x := highG (dgN j n) (highB j n) k) rfl hnS (by unfold rowD; rw [if_neg (by omega), if_pos rfl])
                    have e3 : noneB (dgN j n) (k + 1) = false := by rw [hnb, decide_eq_false hd0, Bool.and_false]
                    have gl : lowD j (dnF (dgN j n) k) + hourD j (dgN j n) * ((j.getD k []).getD (dgN j n k - 1) (0, 0)).2 = lowB j n k := rfl
                    have gh : highD j (dnF (dgN j n) k) + hourD j (dgN j n) * ((j.getD k []).getD (dgN j n k - 1) (0, 0)).2 = highB j n k := rfl
                    have hsl : setL ((rwN (rowD (lowR j) n (lowG (dgN j n) (lowB j n) k)) S).map C.i) (mulS ((n : Nat) : Int).toNat 1) [C.i (lowB j n k)] = (rwN (rowD (lowR j) n (lowB j n k)) S).map C.i := rwS rfl fun m _ => rowD_one m
                    have hsh : setL ((rwN (rowD (highR j) n (highG (dgN j n) (highB j n) k)) S).map C.i) (mulS ((n : Nat) : Int).toNat 1) [C.i (highB j n k)] = (rwN (rowD (highR j) n (highB j n k)) S).map C.i := rwS rfl fun m _ => rowD_one m
                    cases hnn : noneB (dgN j n) k with
                    | true =>
                      have e1 : lowG (dgN j n) (lowB j n) (k + 1) = lowB j n k := by simp only [lowG]; rw [if_pos hpos, if_pos (.inl hnn)]
                      have e2 : highG (dgN j n) (highB j n) (k + 1) = highB j n k := by simp only [highG]; rw [if_pos hpos, if_pos (.inl hnn)]
                      repeat ((conv => whnf); first | (refine And.intro (by first | omega | (dsimp only [inK]; omega) | (simp only [mulS_eq]; omega)) ?_) | with_reducible refine ld (hdk) ?_ | with_reducible refine ld (slL hkl) ?_ | with_reducible refine ld ((jobL1z hzk hkd)) ?_ | with_reducible refine ld (hlo) ?_ | with_reducible refine ld (hhi) ?_ | refine br_t (by omega) ?_ | refine fun (K' : K3) hK' => ?_ | (refine hK' _ _ _ ?_; clear hK' K') | refine draw_auto tok mixed (by kernel_rfl) ?_ | refine onV_ld (c := ⟨1 + k, .ro 2, jobC (j.getD k [])⟩) (by ((try (conv => lhs; arg 1; whnf)); (repeat (first | rw [find_skip (by omega)] | rw [find_hi (by omega) (by rfl)])); exact entC_find hkl)) ?_ | with_reducible refine updK_ent (by omega) ?_ | refine bs_bt (Eq.refl true) ?_)
                      refine ⟨k + 1, [], by omega, by omega, ?_⟩
                      rw [e1, e2]
                      refine ⟨?_, ?_, injB_ent (p := [_, _, _, _]) (by omega) rfl rfl, rfl, by exact Nat.le_of_ble_eq_true rfl⟩
                      · repeat (first | exact trivial | (refine And.intro (covS_syn (by rfl) rfl (by first | exact trivial | exact Nat.le_of_ble_eq_true rfl)) ?_) | refine And.intro (covS_bool rfl rfl (by exact e3.symm)) ?_)
                      · repeat (first | (exact covL_ent (by omega) (fun k hk => by (try simp only [flatN, List.cons_append, List.nil_append]); (repeat (first | rw [find_skip (by omega)] | rw [find_hi (by omega) (by rfl)])))) | (refine And.intro (covE_id (Nat.le_of_ble_eq_true rfl) (by first | exact wf_ints _ _ | first | exact wf_sls _ _ _ (by omega) | exact wf_jobs _ _) rfl (by first | rfl | exact hsl | exact hsh)) ?_))
                    | false =>
                      by_cases hx : lowD j (dnF (dgN j n) k) + hourD j (dgN j n) * ((j.getD k []).getD (dgN j n k - 1) (0, 0)).2 < lowG (dgN j n) (lowB j n) k
                      · have e1 : lowG (dgN j n) (lowB j n) (k + 1) = lowB j n k := by simp only [lowG]; rw [if_pos hpos, if_pos (.inr hx)]
                        by_cases hy : highD j (dnF (dgN j n) k) + hourD j (dgN j n) * ((j.getD k []).getD (dgN j n k - 1) (0, 0)).2 > highG (dgN j n) (highB j n) k
                        · have e2 : highG (dgN j n) (highB j n) (k + 1) = highB j n k := by simp only [highG]; rw [if_pos hpos, if_pos (.inr hy)]
                          repeat ((conv => whnf); first | (refine And.intro (by first | omega | (dsimp only [inK]; omega) | (simp only [mulS_eq]; omega)) ?_) | with_reducible refine ld (hdk) ?_ | with_reducible refine ld (slL hkl) ?_ | with_reducible refine ld ((jobL1z hzk hkd)) ?_ | with_reducible refine ld (hlo) ?_ | with_reducible refine ld (hhi) ?_ | with_reducible refine ld (hln) ?_ | with_reducible refine ld (hhn) ?_ | refine br_t (by omega) ?_ | refine fun (K' : K3) hK' => ?_ | (refine hK' _ _ _ ?_; clear hK' K') | refine draw_auto tok mixed (by kernel_rfl) ?_ | refine onV_ld (c := ⟨1 + k, .ro 2, jobC (j.getD k [])⟩) (by ((try (conv => lhs; arg 1; whnf)); (repeat (first | rw [find_skip (by omega)] | rw [find_hi (by omega) (by rfl)])); exact entC_find hkl)) ?_ | with_reducible refine updK_ent (by omega) ?_ | refine bs_bf (Eq.refl false) ?_)
                          refine ⟨k + 1, [], by omega, by omega, ?_⟩
                          rw [e1, e2]
                          refine ⟨?_, ?_, injB_ent (p := [_, _, _, _]) (by omega) rfl rfl, rfl, by exact Nat.le_of_ble_eq_true rfl⟩
                          · repeat (first | exact trivial | (refine And.intro (covS_syn (by rfl) rfl (by first | exact trivial | exact Nat.le_of_ble_eq_true rfl)) ?_) | refine And.intro (covS_bool rfl rfl (by exact e3.symm)) ?_)
                          · repeat (first | (exact covL_ent (by omega) (fun k hk => by (try simp only [flatN, List.cons_append, List.nil_append]); (repeat (first | rw [find_skip (by omega)] | rw [find_hi (by omega) (by rfl)])))) | (refine And.intro (covE_id (Nat.le_of_ble_eq_true rfl) (by first | exact wf_ints _ _ | first | exact wf_sls _ _ _ (by omega) | exact wf_jobs _ _) rfl (by first | rfl | exact hsl | exact hsh)) ?_))
                        · have e2 : highG (dgN j n) (highB j n) (k + 1) = highG (dgN j n) (highB j n) k := by simp only [highG]; rw [if_pos hpos, if_neg (fun h => h.elim (fun e => by rw [hnn] at e; cases e) hy)]
                          repeat ((conv => whnf); first | (refine And.intro (by first | omega | (dsimp only [inK]; omega) | (simp only [mulS_eq]; omega)) ?_) | with_reducible refine ld (hdk) ?_ | with_reducible refine ld (slL hkl) ?_ | with_reducible refine ld ((jobL1z hzk hkd)) ?_ | with_reducible refine ld (hlo) ?_ | with_reducible refine ld (hhi) ?_ | with_reducible refine ld (hln) ?_ | with_reducible refine ld (hhn) ?_ | refine br_t (by omega) ?_ | refine br_f (by omega) ?_ | refine fun (K' : K3) hK' => ?_ | (refine hK' _ _ _ ?_; clear hK' K') | refine draw_auto tok mixed (by kernel_rfl) ?_ | refine onV_ld (c := ⟨1 + k, .ro 2, jobC (j.getD k [])⟩) (by ((try (conv => lhs; arg 1; whnf)); (repeat (first | rw [find_skip (by omega)] | rw [find_hi (by omega) (by rfl)])); exact entC_find hkl)) ?_ | with_reducible refine updK_ent (by omega) ?_ | refine bs_bf (Eq.refl false) ?_)
                          refine ⟨k + 1, [], by omega, by omega, ?_⟩
                          rw [e1, e2]
                          refine ⟨?_, ?_, injB_ent (p := [_, _, _, _]) (by omega) rfl rfl, rfl, by exact Nat.le_of_ble_eq_true rfl⟩
                          · repeat (first | exact trivial | (refine And.intro (covS_syn (by rfl) rfl (by first | exact trivial | exact Nat.le_of_ble_eq_true rfl)) ?_) | refine And.intro (covS_bool rfl rfl (by exact e3.symm)) ?_)
                          · repeat (first | (exact covL_ent (by omega) (fun k hk => by (try simp only [flatN, List.cons_append, List.nil_append]); (repeat (first | rw [find_skip (by omega)] | rw [find_hi (by omega) (by rfl)])))) | (refine And.intro (covE_id (Nat.le_of_ble_eq_true rfl) (by first | exact wf_ints _ _ | first | exact wf_sls _ _ _ (by omega) | exact wf_jobs _ _) rfl (by first | rfl | exact hsl)) ?_))
                      · have e1 : lowG (dgN j n) (lowB j n) (k + 1) = lowG (dgN j n) (lowB j n) k := by simp only [lowG]; rw [if_pos hpos, if_neg (fun h => h.elim (fun e => by rw [hnn] at e; cases e) hx)]
                        by_cases hy : highD j (dnF (dgN j n) k) + hourD j (dgN j n) * ((j.getD k []).getD (dgN j n k - 1) (0, 0)).2 > highG (dgN j n) (highB j n) k
                        · have e2 : highG (dgN j n) (highB j n) (k + 1) = highB j n k := by simp only [highG]; rw [if_pos hpos, if_pos (.inr hy)]
                          repeat ((conv => whnf); first | (refine And.intro (by first | omega | (dsimp only [inK]; omega) | (simp only [mulS_eq]; omega)) ?_) | with_reducible refine ld (hdk) ?_ | with_reducible refine ld (slL hkl) ?_ | with_reducible refine ld ((jobL1z hzk hkd)) ?_ | with_reducible refine ld (hlo) ?_ | with_reducible refine ld (hhi) ?_ | with_reducible refine ld (hln) ?_ | with_reducible refine ld (hhn) ?_ | refine br_t (by omega) ?_ | refine br_f (by omega) ?_ | refine fun (K' : K3) hK' => ?_ | (refine hK' _ _ _ ?_; clear hK' K') | refine draw_auto tok mixed (by kernel_rfl) ?_ | refine onV_ld (c := ⟨1 + k, .ro 2, jobC (j.getD k [])⟩) (by ((try (conv => lhs; arg 1; whnf)); (repeat (first | rw [find_skip (by omega)] | rw [find_hi (by omega) (by rfl)])); exact entC_find hkl)) ?_ | with_reducible refine updK_ent (by omega) ?_ | refine bs_bf (Eq.refl false) ?_)
                          refine ⟨k + 1, [], by omega, by omega, ?_⟩
                          rw [e1, e2]
                          refine ⟨?_, ?_, injB_ent (p := [_, _, _, _]) (by omega) rfl rfl, rfl, by exact Nat.le_of_ble_eq_true rfl⟩
                          · repeat (first | exact trivial | (refine And.intro (covS_syn (by rfl) rfl (by first | exact trivial | exact Nat.le_of_ble_eq_true rfl)) ?_) | refine And.intro (covS_bool rfl rfl (by exact e3.symm)) ?_)
                          · repeat (first | (exact covL_ent (by omega) (fun k hk => by (try simp only [flatN, List.cons_append, List.nil_append]); (repeat (first | rw [find_skip (by omega)] | rw [find_hi (by omega) (by rfl)])))) | (refine And.intro (covE_id (Nat.le_of_ble_eq_true rfl) (by first | exact wf_ints _ _ | first | exact wf_sls _ _ _ (by omega) | exact wf_jobs _ _) rfl (by first | rfl | exact hsh)) ?_))
                        · have e2 : highG (dgN j n) (highB j n) (k + 1) = highG (dgN j n) (highB j n) k := by simp only [highG]; rw [if_pos hpos, if_neg (fun h => h.elim (fun e => by rw [hnn] at e; cases e) hy)]
                          repeat ((conv => whnf); first | (refine And.intro (by first | omega | (dsimp only [inK]; omega)) ?_) | with_reducible refine ld (hdk) ?_ | with_reducible refine ld (slL hkl) ?_ | with_reducible refine ld ((jobL1z hzk hkd)) ?_ | with_reducible refine ld (hlo) ?_ | with_reducible refine ld (hhi) ?_ | with_reducible refine ld (hln) ?_ | with_reducible refine ld (hhn) ?_ | refine br_t (by omega) ?_ | refine br_f (by omega) ?_ | refine fun (K' : K3) hK' => ?_ | (refine hK' _ _ _ ?_; clear hK' K') | refine draw_auto tok mixed (by kernel_rfl) ?_ | refine onV_ld (c := ⟨1 + k, .ro 2, jobC (j.getD k [])⟩) (by ((try (conv => lhs; arg 1; whnf)); (repeat (first | rw [find_skip (by omega)] | rw [find_hi (by omega) (by rfl)])); exact entC_find hkl)) ?_ | refine bs_bf (Eq.refl false) ?_)
                          refine ⟨k + 1, [], by omega, by omega, ?_⟩
                          rw [e1, e2]
                          refine ⟨?_, ?_, injB_ent (p := [_, _, _, _]) (by omega) rfl rfl, rfl, by exact Nat.le_of_ble_eq_true rfl⟩
                          · repeat (first | exact trivial | (refine And.intro (covS_syn (by rfl) rfl (by first | exact trivial | exact Nat.le_of_ble_eq_true rfl)) ?_) | refine And.intro (covS_bool rfl rfl (by exact e3.symm)) ?_)
                          · repeat (first | (exact covL_ent (by omega) (fun k hk => by (try simp only [flatN, List.cons_append, List.nil_append]); (repeat (first | rw [find_skip (by omega)] | rw [find_hi (by omega) (by rfl)])))) | (refine And.intro (covE_id (Nat.le_of_ble_eq_true rfl) (by first | exact wf_ints _ _ | first | exact wf_sls _ _ _ (by omega) | exact wf_jobs _ _) rfl (by rfl)) ?_))
                · obtain rfl : k = j.length := by omega
                  have f1 : lowG (dgN j n) (lowB j n) j.length = lowR j n := (lowD_eq j (dgN j n)).symm
                  have f2 : highG (dgN j n) (highB j n) j.length = highR j n := (highD_eq j (dgN j n)).symm
                  rw [f1, f2, rowD_next, rowD_next]
                  repeat ((conv => whnf); first | (refine And.intro (by first | omega | (dsimp only [inK]; omega)) ?_) | refine br_f (by omega) ?_ | refine fun (K' : K3) hK' => ?_ | (refine hK' _ _ _ ?_; clear hK' K'))
                  refine ⟨n + 1, [], by omega, by omega, ?_⟩
                  refine ⟨?_, ?_, injB_ent (p := [_, _, _]) (by omega) rfl rfl, rfl, by exact Nat.le_of_ble_eq_true rfl⟩
                  · repeat (first | exact trivial | (refine And.intro (covS_syn (by rfl) rfl (by first | exact trivial | exact Nat.le_of_ble_eq_true rfl)) ?_))
                  · repeat (first | (exact covL_ent (by omega) (fun k hk => by (try simp only [flatN, List.cons_append, List.nil_append]); (repeat (first | rw [find_skip (by omega)] | rw [find_hi (by omega) (by rfl)])))) | (refine And.intro (covE_id (Nat.le_of_ble_eq_true rfl) (by first | exact wf_ints _ _ | first | exact wf_sls _ _ _ (by omega) | exact wf_jobs _ _) rfl (by rfl)) ?_))
        · obtain rfl : n = S := by omega
          have hzs : (n : Int) - 1 = ((n - 1 : Nat) : Int) := by omega
          have hnl : ∀ f : Nat → Int, ((rwN f n).map C.i).length = n := fun f => by rw [List.length_map, rwN_len]
          have hnl1 := hnl (rowD (highR j) n 0)
          have hnl2 := hnl (rowD (lowR j) n 0)
          have hlo := rwL (f := rowD (lowR j) n 0) (n := n) (k := n - 1) (x := leastO j) hzs (by omega) (by unfold rowD; rw [if_pos (by omega)]; unfold lowR; rw [hSz, dgN_full]; exact low_full hc)
          have hhi := rwL (f := rowD (highR j) n 0) (n := n) (k := n - 1) (x := worstD j fun _ => 0) hzs (by omega) (by unfold rowD; rw [if_pos (by omega)]; unfold highR; rw [hSz, dgN_full]; exact high_full hc)
          repeat ((conv => whnf); first | (refine And.intro (by first | omega | (dsimp only [inK]; omega)) ?_) | with_reducible refine ld (hlo) ?_ | with_reducible refine ld (hhi) ?_ | refine br_f (by omega) ?_ | refine fun (K' : K3) hK' => ?_ | (refine hK' _ _ _ ?_; clear hK' K') | refine draw_auto tok mixed (by kernel_rfl) ?_)
          intro ρ; rfl
end Go.Proofs.Ytjijjncddjkdlaa

/- Shore: a callee that turns what comes in, told of it under names of its own; memory that stays behind a callee as it was. -/
namespace Go.Proofs.Ytjijjncddjkdlaa
open Go.RowKit
set_option linter.unusedVariables false
set_option linter.unusedSimpArgs false
theorem C.den_chk {p : Nat → Bool} {ρ ρ' : Env} (h : ∀ l, p l = true → ρ' l = ρ l) {c : C} (hc : c.chk p = true) : c.den ρ' = c.den ρ := by
  cases c <;> simp only [C.den, ptrD, C.chk] at *
  case ptr l o => rw [h l hc]
  case sl l n => rw [h l hc]
  case mp l => rw [h l hc]
  case sub l o n k => rw [h l hc]
  case fn f caps =>
    have : caps.map (fun p => (Value.pointer ((ρ' p.1).1.map (·.add p.2)))) = caps.map (fun p => (Value.pointer ((ρ p.1).1.map (·.add p.2)))) := List.map_congr_left fun q hq => by
      rw [h q.1 (List.all_eq_true.1 hc q hq)]
    show Value.func _ _ (caps.map (ptrD ρ')).toArray = Value.func _ _ (caps.map (ptrD ρ)).toArray
    exact congrArg (fun l => Value.func (.func f) #[] (List.toArray l)) this
theorem A.den_chk {p : Nat → Bool} {ρ ρ' : Env} (h : ∀ l, p l = true → ρ' l = ρ l) {c : A} (hc : c.chk p = true) : c.den ρ' = c.den ρ := by
  cases c with
  | c x => exact C.den_chk h hc
  | agg l =>
    show Value.agg (l.map (C.den ρ')).toArray = Value.agg (l.map (C.den ρ)).toArray
    rw [List.map_congr_left fun c hm => C.den_chk h (List.all_eq_true.1 hc c hm)]
theorem V.den_chk {p : Nat → Bool} {ρ ρ' : Env} (h : ∀ l, p l = true → ρ' l = ρ l) {c : V} (hc : c.chk p = true) : c.den ρ' = c.den ρ := by
  cases c with
  | a x => exact A.den_chk h hc
  | tup l => simp only [V.den]; rw [List.map_congr_left fun c hm => A.den_chk h (List.all_eq_true.1 hc c hm)]
/-- The same memory, where the names that are used stand for the same. -/
theorem Hp.envU {n0 nx : Nat} {ρ ρ' : Env} {w : World} {L : List E} (h : Hp n0 ρ w L nx) (ha : ∀ e ∈ L, ρ' e.lab = ρ e.lab ∧ ∀ c ∈ e.cs, c.den ρ' = c.den ρ) : Hp n0 ρ' w L nx := by
  have hb : ∀ e ∈ L, blk ρ' e.lab = blk ρ e.lab := fun e he => by simp only [blk, (ha e he).1]
  refine ⟨h.base, fun e he => ?_, h.wf, h.fn, fun e he e' he' h1 h2 h3 b h4 h5 => h.apart e he e' he' h1 h2 h3 b (by rw [← hb e he]; exact h4) (by rw [← hb e' he']; exact h5)⟩
  have h2 := h.ok e he
  obtain ⟨h3, h5⟩ := ha e he
  have h4 : e.cs.map (C.den ρ') = e.cs.map (C.den ρ) := List.map_congr_left h5
  obtain ⟨lab, kd, c0⟩ := e
  simp only at h3 h4
  cases kd <;> simp only [EOK] at h2 ⊢ <;> (first | rw [h3, h4] | rw [h3]) <;> exact h2
/-- A name of the caller's that the callee knows, and that stands for what it did. -/
def usedOk (R R2 : Rn) (nac nx l : Nat) : Bool := !(Nat.blt l nx) || (match renL R2 l with | some c => Nat.blt c nac && (match renL R c with | some l' => Nat.beq l' l | none => false) | none => false)
theorem CallM.at {P : Program} {n0 : Nat} {f : FuncId} {vs vsc : List V} {L Lc : List E} {nx nac : Nat} {R : Rn} {Q K : V → List E → Nat → Prop} (hok : callB P f = true) (spec : SpecM P f vsc Lc nac Q)
    (hv : renVs R vsc = some vs) (hvw : ∀ v ∈ vsc, v.wf nac) (hL : covL R nac L Lc) (hin : injB R Lc = true)
    (h : ∀ v L' nx', v.wf nx' → Q v L' nx' → ∃ R2 v1 L1 nx1, nx ≤ nx1 ∧ v1.ren R2 = some v ∧ v1.wf nx1 ∧ covL R2 nx1 L' L1 ∧ injB R2 L1 = true ∧
      (L1.all (fun e => usedOk R R2 nac nx e.lab && e.cs.all (C.chk (usedOk R R2 nac nx))) && v1.chk (usedOk R R2 nac nx)) = true ∧ K v1 L1 nx1) : CallM P n0 f vs L nx K := by
  refine ⟨hok, fun ρ w hp hvv => ?_⟩
  obtain ⟨_, p2, _⟩ := Enter.state (N := 0) (na := 0) (s := []) (s' := []) (a := { tmps := #[], defers := [] }) (ρ := ρ) (w := w) (n0 := n0) ⟨trivial, hL, hin, by simp [fixB], Nat.zero_le _⟩ ⟨rfl, fun t v hv => (by cases hv)⟩ hp
  have hargs : (vs.map (V.den ρ)).toArray = (vsc.map (V.den (renE R ρ))).toArray := by
    congr 1
    have : ∀ {l m : List V}, seqO (l.map (V.ren R)) = some m → m.map (V.den ρ) = l.map (V.den (renE R ρ)) := by
      intro l
      induction l with
      | nil => intro m hm; cases hm; rfl
      | cons x r ih =>
        intro m hm
        simp only [List.map_cons] at hm
        cases hx : V.ren R x with
        | none => rw [hx] at hm; cases hm
        | some y =>
          rw [hx] at hm
          simp only [seqO] at hm
          cases hr : seqO (r.map (V.ren R)) with
          | none => rw [hr] at hm; cases hm
          | some z =>
            rw [hr] at hm; cases hm
            rw [List.map_cons, List.map_cons, ih hr, V.ren_den hx]
    exact this hv
  rw [hargs]
  refine (spec n0 _ w p2 hvw).mono ?_
  rintro e w' ⟨v, ρ', L', nx', rfl, h1, h2, h3, h4, h5, h6⟩
  obtain ⟨R2, v1, L1, nx1, g1, g2, g3, g4, g5, g6, g7⟩ := h v L' nx' h2 h6
  obtain ⟨_, q2, _⟩ := Enter.state (N := 0) (na := 0) (s := []) (s' := []) (a := { tmps := #[], defers := [] }) (ρ := ρ') (w := w') (n0 := n0) ⟨trivial, g4, g5, by simp [fixB], Nat.zero_le _⟩ ⟨rfl, fun t v hv => (by cases hv)⟩ h5
  simp only [Bool.and_eq_true, List.all_eq_true] at g6
  obtain ⟨g8, g9⟩ := g6
  -- the caller's names
  have key : ∀ l, (usedOk R R2 nac nx l && Nat.blt l nx1) = true → (fun l => if nx ≤ l ∧ l < nx1 then renE R2 ρ' l else ρ l) l = renE R2 ρ' l := by
    intro l hl
    simp only [Bool.and_eq_true] at hl
    obtain ⟨hl, hl1⟩ := hl
    have hl1 : l < nx1 := Nat.le_of_ble_eq_true hl1
    simp only
    split
    · rfl
    · rename_i hn
      have hlt : l < nx := by omega
      unfold usedOk at hl
      have : Nat.blt l nx = true := by rw [Nat.blt_eq]; exact hlt
      rw [this] at hl
      simp only [Bool.not_true, Bool.false_or] at hl
      cases hr : renL R2 l with
      | none => rw [hr] at hl; cases hl
      | some c =>
        rw [hr] at hl
        simp only [Bool.and_eq_true] at hl
        obtain ⟨hc, hl⟩ := hl
        have hc : c < nac := Nat.le_of_ble_eq_true hc
        cases hr2 : renL R c with
        | none => rw [hr2] at hl; cases hl
        | some l' =>
          rw [hr2] at hl
          have hll := Nat.eq_of_beq_eq_true hl
          subst hll
          have e1 : renE R2 ρ' l' = ρ' c := by simp only [renE, hr]
          have e2 : renE R ρ c = ρ l' := by simp only [renE, hr2]
          rw [e1, h3 c hc, e2]
  have chkw : ∀ {c : C}, c.chk (usedOk R R2 nac nx) = true → c.wf nx1 → c.chk (fun l => usedOk R R2 nac nx l && Nat.blt l nx1) = true := by
    intro c h1 h2
    cases c <;> simp only [C.chk, C.wf, Bool.and_eq_true, Nat.blt_eq, List.all_eq_true] at *
    case ptr l o => exact ⟨h1, h2⟩
    case sl l n => exact ⟨h1, h2⟩
    case mp l => exact ⟨h1, h2⟩
    case sub l o n k => exact ⟨h1, h2⟩
    case fn f caps => exact fun q hq => ⟨h1 q hq, h2 q hq⟩
  have chka : ∀ {c : A}, c.chk (usedOk R R2 nac nx) = true → c.wf nx1 → c.chk (fun l => usedOk R R2 nac nx l && Nat.blt l nx1) = true := by
    intro c h1 h2
    cases c with
    | c x => exact chkw h1 h2
    | agg l => exact List.all_eq_true.2 fun c hc => chkw (List.all_eq_true.1 h1 c hc) (h2 c hc)
  have hvc : v1.chk (fun l => usedOk R R2 nac nx l && Nat.blt l nx1) = true := by
    cases v1 with
    | a x => exact chka g9 g3
    | tup l => exact List.all_eq_true.2 fun c hc => chka (List.all_eq_true.1 g9 c hc) (g3 c hc)
  refine ⟨v1, L1, nx1, fun l => if nx ≤ l ∧ l < nx1 then renE R2 ρ' l else ρ l, ?_, g1, g3, fun l hl => if_neg hl, h4, q2.envU fun e he => ?_, g7⟩
  · rw [V.den_chk key hvc, V.ren_den g2]
  · have h7 := g8 e he
    obtain ⟨h8, h9⟩ := q2.wf e he
    exact ⟨key _ (by rw [h7.1]; simpa using h8), fun c hc => C.den_chk key (chkw (h7.2 c hc) (h9 c hc))⟩
theorem SpecM.ren {P : Program} {f : FuncId} {vs : List V} {L : List E} {na : Nat} {Q Q' : V → List E → Nat → Prop} (spec : SpecM P f vs L na Q)
    (h : ∀ v L' nx', v.wf nx' → Q v L' nx' → ∃ R v1 L1 nx1, na ≤ nx1 ∧ v1.ren R = some v ∧ v1.wf nx1 ∧ covL R nx1 L' L1 ∧ injB R L1 = true ∧ fixB R na = true ∧ Q' v1 L1 nx1) : SpecM P f vs L na Q' := by
  intro n1 ρ w hp hv
  refine (spec n1 ρ w hp hv).mono ?_
  rintro e w' ⟨v, ρ', L', nx', rfl, h1, h2, h3, h4, h5, h6⟩
  obtain ⟨R, v1, L1, nx1, g1, g2, g3, g4, g5, g6, g7⟩ := h v L' nx' h2 h6
  obtain ⟨_, q2, q3⟩ := Enter.state (N := 0) (na := na) (s := []) (s' := []) (a := { tmps := #[], defers := [] }) (ρ := ρ') (w := w') (n0 := n1) ⟨trivial, g4, g5, g6, g1⟩ ⟨rfl, fun t v hv => (by cases hv)⟩ h5
  exact ⟨v1, renE R ρ', L1, nx1, by rw [V.ren_den g2], g1, g3, fun l hl => (q3 l hl).trans (h3 l hl), h4, q2, g7⟩
theorem find_nd : ∀ {L : List E}, (L.map E.lab).Nodup → ∀ e ∈ L, find L e.lab = some e
  | ⟨lab, kd, cs⟩ :: r, h, e, he => by
    simp only [List.map_cons, List.nodup_cons] at h
    rcases List.mem_cons.1 he with rfl | he
    · simp [find]
    · have hne : lab ≠ e.lab := fun q => h.1 (by rw [q]; exact List.mem_map.2 ⟨e, he, rfl⟩)
      rw [find_skip hne]; exact find_nd h.2 e he
/-- The beaches, and boxes under labels from lo on. -/
structure Tw (lo : Nat) (j : Coast) (X : List E) : Prop where
  lab : ∀ e ∈ X, (1 ≤ e.lab ∧ e.lab ≤ 20) ∨ (lo ≤ e.lab ∧ 21 ≤ e.lab ∧ e.lab < 600)
  pl : ∀ e ∈ X, (∀ n, ∀ c ∈ e.cs, c.wf n) ∧ (∀ R, seqO (e.cs.map (C.ren R)) = some e.cs) ∧ ∀ p, e.cs.all (C.chk p) = true
  nd : (X.map E.lab).Nodup
  be : ∀ k, k < j.length → find X (1 + k) = some ⟨1 + k, .ro 2, jobC (j.getD k [])⟩
def boxW (l t : Nat) (ls : List Int) : E := ⟨l, .own t, ls.map C.i⟩
section
variable {lo : Nat} {j : Coast} {X : List E}
theorem Tw.ne (h : Tw lo j X) {l : Nat} (hl : l = 0 ∨ (21 ≤ l ∧ l < lo) ∨ 600 ≤ l) : ∀ e ∈ X, e.lab ≠ l := fun e he heq => by
  have := h.lab e he; rw [heq] at this; omega
theorem Tw.mono (h : Tw lo j X) {lo' : Nat} (hl : lo' ≤ lo) : Tw lo' j X :=
  ⟨fun e he => by have := h.lab e he; omega, h.pl, h.nd, h.be⟩
theorem Tw.cons (h : Tw lo j X) (hj : j.length ≤ 20) {l t : Nat} (ls : List Int) (h1 : 21 ≤ l) (hl : l < lo) (hlo : lo ≤ 600) : Tw l j (boxW l t ls :: X) := by
  refine ⟨fun e he => ?_, fun e he => ?_, ?_, fun k hk => ?_⟩
  · rcases List.mem_cons.1 he with rfl | he
    · exact .inr ⟨Nat.le_refl _, h1, by simp only [boxW]; omega⟩
    · have := h.lab e he; omega
  · rcases List.mem_cons.1 he with rfl | he
    · exact ⟨fun n => wf_ints _ _, fun R => ren_ints _ _, fun p => chk_ints _ _⟩
    · exact h.pl e he
  · simp only [List.map_cons, List.nodup_cons]
    refine ⟨fun hm => ?_, h.nd⟩
    obtain ⟨e, he, heq⟩ := List.mem_map.1 hm
    exact h.ne (l := l) (.inr (.inl ⟨h1, hl⟩)) e he heq
  · unfold boxW
    rw [find_skip (by omega)]; exact h.be k hk
theorem updK_tw (h : Tw lo j X) {l o : Nat} {vs : List C} {K : List E → Prop} (hl : l = 0 ∨ (21 ≤ l ∧ l < lo) ∨ 600 ≤ l) (hK : K X) : updK l o vs X K := by
  rw [updK_eq, updL_none (h.ne hl)]; exact hK
theorem covL_al {R : Rn} {nx : Nat} {L : List E} : ∀ {q : List E}, (∀ e ∈ q, covE R nx L e) → covL R nx L q
  | [], _ => trivial
  | e :: q, h => ⟨h e (by simp), covL_al fun x hx => h x (by simp [hx])⟩
theorem Tw.cov (h : Tw lo j X) {R : Rn} {nx : Nat} {L : List E} (hR : ∀ l, (1 ≤ l ∧ l ≤ 20) ∨ (lo ≤ l ∧ 21 ≤ l ∧ l < 600) → renL R l = some l) (hnx : 600 ≤ nx) (hf : ∀ e ∈ X, find L e.lab = some e) : covL R nx L X := by
  refine covL_al fun e he => ?_
  have h1 := h.lab e he
  obtain ⟨h2, h3, _⟩ := h.pl e he
  exact covE_some (hR _ h1) (by omega) (h2 nx) (hf e he) (h3 R)
theorem ren3 {a x l : Nat} : renL [(a, some x), (a + 1, some (x + 1)), (a + 2, some (x + 2))] l = some (if l = a then x else if l = a + 1 then x + 1 else if l = a + 2 then x + 2 else l) := by
  simp only [renL]
  by_cases h1 : l = a
  · subst h1; simp
  · by_cases h2 : l = a + 1
    · subst h2; simp [beq_ne (show a ≠ a + 1 by omega)]
    · by_cases h3 : l = a + 2
      · subst h3; simp [beq_ne (show a ≠ a + 2 by omega), beq_ne (show a + 1 ≠ a + 2 by omega)]
      · simp only [beq_ne (show a ≠ l by omega), beq_ne (show a + 1 ≠ l by omega), beq_ne (show a + 2 ≠ l by omega), cond_false]
        rw [if_neg h1, if_neg h2, if_neg h3]
theorem used3 {c l : Nat} (hc : c + 2 < 600) (h : l = 600 ∨ l = 601 ∨ l = 602 ∨ (l < 600 ∧ l ≠ c ∧ l ≠ c + 1 ∧ l ≠ c + 2)) :
    usedOk [(c, some 600), (c + 1, some (600 + 1)), (c + 2, some (600 + 2))] [(600, some c), (600 + 1, some (c + 1)), (600 + 2, some (c + 2))] 600 603 l = true := by
  unfold usedOk
  rw [ren3]
  simp only
  rw [ren3]
  simp only [Bool.or_eq_true, Bool.and_eq_true, Nat.blt_eq]
  refine .inr ?_
  rcases h with rfl | rfl | rfl | ⟨h1, h2, h3, h4⟩
  · simp; omega
  · simp; omega
  · simp; omega
  · rw [if_neg (show ¬ l = 600 by omega), if_neg (show ¬ l = 600 + 1 by omega), if_neg (show ¬ l = 600 + 2 by omega), if_neg h2, if_neg h3, if_neg h4]
    exact ⟨h1, Nat.beq_refl l⟩
/-- The memory of worst. -/
def wL (j : Coast) (f : MF) (X : List E) : List E := ⟨21, .mp true (.arr 6) f, []⟩ :: ⟨0, .ro 1, slsC 1 j⟩ :: X
def wX (c : Nat) (d x d' : List Int) (X : List E) : List E := boxW c 85 d :: boxW (c + 1) 47 x :: boxW (c + 2) 85 d' :: X
theorem Tw.three (h : Tw lo j X) (hj : j.length ≤ 20) {c : Nat} (d x d' : List Int) (h1 : 21 ≤ c) (hl : c + 2 < lo) (hlo : lo ≤ 600) : Tw c j (wX c d x d' X) :=
  (((h.cons hj d' (show 21 ≤ c + 2 by omega) hl hlo).cons hj x (show 21 ≤ c + 1 by omega) (by omega) (by omega)).cons hj d h1 (by omega) (by omega))
theorem wL_findX (h : Tw lo j X) (hlo : 22 ≤ lo) (f : MF) : ∀ e ∈ X, find (wL j f X) e.lab = some e := fun e he => by
  have := h.lab e he
  unfold wL
  rw [find_skip (by omega), find_skip (by omega)]; exact find_nd h.nd e he
theorem wL_nd (h : Tw lo j X) (hlo : 22 ≤ lo) (f : MF) : ((wL j f X).map E.lab).Nodup := by
  unfold wL
  simp only [List.map_cons, List.nodup_cons, List.mem_cons, List.mem_map, not_or]
  refine ⟨⟨by omega, fun ⟨e, he, q⟩ => ?_⟩, fun ⟨e, he, q⟩ => ?_, h.nd⟩ <;> (have := h.lab e he; omega)
theorem injB_nil {L : List E} (h : (L.map E.lab).Nodup) : injB [] L = true :=
  injB_of h fun e he e' he' hne a h1 h2 => by simp only [renL, Option.some.injEq] at h1 h2; exact hne (h1.trans h2.symm)
end
/-- The call within itself. -/
theorem w_call {j : Coast} {f f' : MF} {X L : List E} {c lo n0 : Nat} {d x d' e : List Int} {hr z : Int} (hj : j.length ≤ 20) (hT : Tw lo j X) (hc : 22 ≤ c) (hlo : c + 2 < lo) (hlo6 : lo ≤ 600)
    (ih : SpecM Try.prog 71 [V.c (.sl 0 j.length), V.c (.mp 21), V.agg (e.map C.i), V.i hr] (wL j f (wX c d x d' X)) 600 (fun v L' nx' => v = V.i z ∧ L' = wL j f' (wX c d x d' X) ∧ nx' = 600))
    (h0 : find L 0 = some ⟨0, .ro 1, slsC 1 j⟩) (h21 : find L 21 = some ⟨21, .mp true (.arr 6) f, []⟩) (h600 : find L 600 = some (boxW 600 85 d)) (h601 : find L 601 = some (boxW 601 47 x)) (h602 : find L 602 = some (boxW 602 85 d')) (hX : ∀ e ∈ X, find L e.lab = some e) :
    CallM Try.prog n0 71 [V.c (.sl 0 j.length), V.c (.mp 21), V.agg (e.map C.i), V.i hr] L 603 (fun v L' _ => v = V.i z ∧ L' = ⟨21, .mp true (.arr 6) f', []⟩ :: boxW 602 85 d' :: boxW 601 47 x :: boxW 600 85 d :: ⟨0, .ro 1, slsC 1 j⟩ :: X) := by
  have hT3 := hT.three hj d x d' (by omega) hlo hlo6
  have key : ∀ {a y l : Nat}, l ≠ a → l ≠ a + 1 → l ≠ a + 2 → renL [(a, some y), (a + 1, some (y + 1)), (a + 2, some (y + 2))] l = some l := fun h1 h2 h3 => by rw [ren3, if_neg h1, if_neg h2, if_neg h3]
  refine CallM.at (R := [(c, some 600), (c + 1, some (600 + 1)), (c + 2, some (600 + 2))]) (by kernel_rfl) ih ?_ ?_ ⟨covE_mp (key (by omega) (by omega) (by omega)) (by omega) h21 rfl, covE_some (key (by simp only; omega) (by simp only; omega) (by simp only; omega)) (by simp only; omega) (wf_sls _ _ _ (by omega)) h0 (ren_sls_of (fun l hl => key (by omega) (by omega) (by omega)) (by omega)),
    covE_some (by simp only [boxW]; rw [ren3, if_pos rfl]) (by simp only [boxW]; omega) (wf_ints _ _) h600 (ren_ints _ _), covE_some (by simp only [boxW]; rw [ren3, if_neg (by omega), if_pos rfl]) (by simp only [boxW]; omega) (wf_ints _ _) h601 (ren_ints _ _),
    covE_some (by simp only [boxW]; rw [ren3, if_neg (by omega), if_neg (by omega), if_pos rfl]) (by simp only [boxW]; omega) (wf_ints _ _) h602 (ren_ints _ _), hT.cov (fun l hl => key (by omega) (by omega) (by omega)) (by omega) hX⟩ ?_ ?_
  · have e1 : ∀ l : List Int, seqO ((l.map C.i).map (C.ren [(c, some 600), (c + 1, some (600 + 1)), (c + 2, some (600 + 2))])) = some (l.map C.i) := fun l => ren_ints _ _
    simp only [renVs, List.map_cons, List.map_nil, V.ren, A.ren, C.ren, key (show 0 ≠ c by omega) (show 0 ≠ c + 1 by omega) (show 0 ≠ c + 2 by omega), key (show 21 ≠ c by omega) (show 21 ≠ c + 1 by omega) (show 21 ≠ c + 2 by omega), e1, seqO, V.i, C.i]
  · intro v hv
    simp only [List.mem_cons, List.not_mem_nil, or_false] at hv
    rcases hv with rfl | rfl | rfl | rfl
    · show 0 < 600; omega
    · show 21 < 600; omega
    · exact wf_ints _ _
    · trivial
  · refine injB_of (wL_nd hT3 (by omega) f) fun e he e' he' hne a g1 g2 => ?_
    rw [ren3, Option.some.injEq] at g1 g2
    have l1 := hT3.lab
    have hl : ∀ e ∈ wL j f (wX c d x d' X), e.lab = 21 ∨ e.lab = 0 ∨ (1 ≤ e.lab ∧ e.lab ≤ 20) ∨ (c ≤ e.lab ∧ 21 ≤ e.lab ∧ e.lab < 600) := fun e he => by
      unfold wL at he
      rcases List.mem_cons.1 he with rfl | he
      · exact .inl rfl
      · rcases List.mem_cons.1 he with rfl | he
        · exact .inr (.inl rfl)
        · exact .inr (.inr (l1 e he))
    have l2 := hl e he
    have l3 := hl e' he'
    clear hl l1
    split at g1 <;> split at g2 <;> (try split at g1) <;> (try split at g2) <;> (try split at g1) <;> (try split at g2) <;> omega
  · rintro v L' nx' _ ⟨rfl, rfl, rfl⟩
    have hn : ∀ k t1 t2 t3 : Nat, True := fun _ _ _ _ => trivial
    have fX : ∀ e ∈ X, find (wL j f' (wX c d x d' X)) e.lab = some e := fun e he => wL_findX hT3 hc f' e (by unfold wX; simp [he])
    have fc : ∀ b ∈ [boxW c 85 d, boxW (c + 1) 47 x, boxW (c + 2) 85 d'], find (wL j f' (wX c d x d' X)) b.lab = some b := fun b hb => wL_findX hT3 hc f' b (by
      unfold wX
      simp only [List.mem_cons, List.not_mem_nil, or_false] at hb ⊢
      rcases hb with h | h | h <;> simp [h])
    have hl : ∀ e ∈ X, e.lab < 600 ∧ e.lab ≠ c ∧ e.lab ≠ c + 1 ∧ e.lab ≠ c + 2 := fun e he => by have := hT.lab e he; omega
    refine ⟨[(600, some c), (600 + 1, some (c + 1)), (600 + 2, some (c + 2))], V.i z, ⟨21, .mp true (.arr 6) f', []⟩ :: boxW 602 85 d' :: boxW 601 47 x :: boxW 600 85 d :: ⟨0, .ro 1, slsC 1 j⟩ :: X, 603, Nat.le_refl _, rfl, trivial, ⟨covE_mp (key (by omega) (by omega) (by omega)) (by omega) rfl rfl,
      covE_some (by simp only [boxW]; rw [ren3, if_neg (by omega), if_neg (by omega), if_pos rfl]) (by simp only [boxW]; omega) (wf_ints _ _) (fc (boxW (c + 2) 85 d') (by simp)) (ren_ints _ _), covE_some (by simp only [boxW]; rw [ren3, if_neg (by omega), if_pos rfl]) (by simp only [boxW]; omega) (wf_ints _ _) (fc (boxW (c + 1) 47 x) (by simp)) (ren_ints _ _),
      covE_some (by simp only [boxW]; rw [ren3, if_pos rfl]) (by simp only [boxW]; omega) (wf_ints _ _) (fc (boxW c 85 d) (by simp)) (ren_ints _ _), covE_some (key (by simp only; omega) (by simp only; omega) (by simp only; omega)) (by simp only; omega) (wf_sls _ _ _ (by omega)) rfl (ren_sls_of (fun l hl => key (by omega) (by omega) (by omega)) (by omega)),
      hT.cov (fun l hl => key (by omega) (by omega) (by omega)) (by omega) fX⟩, ?_, ?_, rfl, rfl⟩
    · refine injB_of ?_ fun e he e' he' hne a g1 g2 => ?_
      · simp only [List.map_cons, List.nodup_cons, List.mem_cons, List.mem_map, not_or, boxW]
        refine ⟨⟨by omega, by omega, by omega, by omega, fun ⟨e, he, q⟩ => ?_⟩, ⟨by omega, by omega, by omega, fun ⟨e, he, q⟩ => ?_⟩, ⟨by omega, by omega, fun ⟨e, he, q⟩ => ?_⟩, ⟨by omega, fun ⟨e, he, q⟩ => ?_⟩, fun ⟨e, he, q⟩ => ?_, hT.nd⟩ <;> (have := hT.lab e he; omega)
      · rw [ren3, Option.some.injEq] at g1 g2
        have hl : ∀ e ∈ (⟨21, .mp true (.arr 6) f', []⟩ :: boxW 602 85 d' :: boxW 601 47 x :: boxW 600 85 d :: ⟨0, .ro 1, slsC 1 j⟩ :: X : List E), e.lab = 21 ∨ e.lab = 602 ∨ e.lab = 601 ∨ e.lab = 600 ∨ e.lab = 0 ∨ (e.lab < 600 ∧ e.lab ≠ c ∧ e.lab ≠ c + 1 ∧ e.lab ≠ c + 2) := fun e he => by
          simp only [List.mem_cons] at he
          rcases he with rfl | rfl | rfl | rfl | rfl | he
          · exact .inl rfl
          · exact .inr (.inl rfl)
          · exact .inr (.inr (.inl rfl))
          · exact .inr (.inr (.inr (.inl rfl)))
          · exact .inr (.inr (.inr (.inr (.inl rfl))))
          · exact .inr (.inr (.inr (.inr (.inr (hl e he)))))
        have l2 := hl e he
        have l3 := hl e' he'
        clear hl
        split at g1 <;> split at g2 <;> (try split at g1) <;> (try split at g2) <;> (try split at g1) <;> (try split at g2) <;> omega
    · have u : ∀ l, (l = 600 ∨ l = 601 ∨ l = 602 ∨ (l < 600 ∧ l ≠ c ∧ l ≠ c + 1 ∧ l ≠ c + 2)) → usedOk [(c, some 600), (c + 1, some (600 + 1)), (c + 2, some (600 + 2))] [(600, some c), (600 + 1, some (c + 1)), (600 + 2, some (c + 2))] 600 603 l = true := fun l h => used3 (by omega) h
      refine Bool.and_eq_true_iff.2 ⟨List.all_eq_true.2 fun e he => Bool.and_eq_true_iff.2 ?_, rfl⟩
      simp only [List.mem_cons] at he
      rcases he with rfl | rfl | rfl | rfl | rfl | he
      · exact ⟨u _ (by simp only; omega), rfl⟩
      · exact ⟨u _ (by simp [boxW]), chk_ints _ _⟩
      · exact ⟨u _ (by simp [boxW]), chk_ints _ _⟩
      · exact ⟨u _ (by simp [boxW]), chk_ints _ _⟩
      · refine ⟨u _ (by simp only; omega), List.all_eq_true.2 fun y hy => ?_⟩
        have hs : ∀ {b : Nat} {j : Coast}, b + j.length ≤ 21 → ∀ y ∈ slsC b j, ∃ l n, y = C.sl l n ∧ l ≤ 20 := by
          intro b j
          induction j generalizing b with
          | nil => intro _ y hy; cases hy
          | cons a r ih =>
            intro hb y hy
            simp only [List.length_cons] at hb
            rcases List.mem_cons.1 hy with rfl | hy
            · exact ⟨_, _, rfl, by omega⟩
            · exact ih (by omega) y hy
        obtain ⟨l, n, rfl, hl'⟩ := hs (by omega) y hy
        exact u _ (by omega)
      · have h1 := hl e he
        exact ⟨u _ (.inr (.inr (.inr h1))), (hT.pl e he).2.2 _⟩
end Go.Proofs.Ytjijjncddjkdlaa

/- Shore: worst: the most harm. -/
namespace Go.Proofs.Ytjijjncddjkdlaa
open Go.RowKit
set_option linter.unusedVariables false
set_option linter.unusedSimpArgs false
theorem updK_to {l o : Nat} {vs : List C} {L L2 : List E} {K : List E → Prop} (h : updL L l o vs = L2) (hK : K L2) : updK l o vs L K := by
  rw [updK_eq, h]; exact hK
theorem wN_upd {lo : Nat} {j : Coast} {X : List E} (hT : Tw lo j X) {d : Nat → Nat} {k : Nat} (hk : k < 6) {f : MF} {x : List C} :
    updL (⟨602, .own 85, (encL d).map C.i⟩ :: ⟨601, .own 47, x⟩ :: ⟨21, .mp true (.arr 6) f, []⟩ :: ⟨600, .own 85, (encL d).map C.i⟩ :: ⟨0, .ro 1, slsC 1 j⟩ :: X) 602 (addO 0 (mulS ((k : Nat) : Int).toNat 1)) [C.i ((d k : Int) + 1)] =
    ⟨602, .own 85, (encL (upd d k 1)).map C.i⟩ :: ⟨601, .own 47, x⟩ :: ⟨21, .mp true (.arr 6) f, []⟩ :: ⟨600, .own 85, (encL d).map C.i⟩ :: ⟨0, .ro 1, slsC 1 j⟩ :: X := by
  have h1 : setL ((encL d).map C.i) (addO 0 (mulS ((k : Nat) : Int).toNat 1)) [C.i ((d k : Int) + 1)] = (encL (upd d k 1)).map C.i := by
    rw [addO_eq, mulS_eq, Int.toNat_natCast, Nat.zero_add, Nat.mul_one, ← encL_set hk, List.map_set]; rfl
  show (⟨602, .own 85, setL ((encL d).map C.i) (addO 0 (mulS ((k : Nat) : Int).toNat 1)) [C.i ((d k : Int) + 1)]⟩ :: ⟨601, .own 47, x⟩ :: ⟨21, .mp true (.arr 6) f, []⟩ :: ⟨600, .own 85, (encL d).map C.i⟩ :: ⟨0, .ro 1, slsC 1 j⟩ :: updL X 602 _ _ : List E) = _
  rw [h1, updL_none (hT.ne (.inr (.inr (by omega))))]
theorem drawT_mk {P : Program} {T : List (Nat × TD)} {n0 N g0 lm nx : Nat} {ops : List Oper} {K : K3} {s : S} {L Lv : List E} (h : rmL L lm = Lv) (hb : Nat.blt lm nx = true) (hK : drT P T n0 N g0 lm L Lv nx ops (fun s' L1 => K s' L1 nx) s none) : drawT P T n0 N g0 lm ops K s L nx := by
  unfold drawT; rw [rmK_eq, h]; exact ⟨hb, hK⟩
theorem wN_rm {lo : Nat} {j : Coast} {X : List E} (hT : Tw lo j X) (hlo : 22 ≤ lo) {c1 c2 c3 : List C} {f : MF} : rmL (⟨602, .own 85, c1⟩ :: ⟨601, .own 47, c2⟩ :: ⟨21, .mp true (.arr 6) f, []⟩ :: ⟨600, .own 85, c3⟩ :: ⟨0, .ro 1, slsC 1 j⟩ :: X) 21 = ⟨602, .own 85, c1⟩ :: ⟨601, .own 47, c2⟩ :: ⟨600, .own 85, c3⟩ :: ⟨0, .ro 1, slsC 1 j⟩ :: X := by
  show (⟨602, .own 85, c1⟩ :: ⟨601, .own 47, c2⟩ :: ⟨600, .own 85, c3⟩ :: ⟨0, .ro 1, slsC 1 j⟩ :: rmL X 21 : List E) = _
  rw [rmL_none (hT.ne (.inr (.inl (by omega))))]
attribute [local irreducible] drawT
theorem updM_to {l : Nat} {kd : Kd} {L L2 : List E} {K : List E → Prop} (h : updML l kd L = L2) (hK : K L2) : updM l kd L K := by
  rw [updM_eq, h]; exact hK
theorem updML_none {l : Nat} {kd : Kd} : ∀ {L : List E}, (∀ e ∈ L, e.lab ≠ l) → updML l kd L = L
  | [], _ => rfl
  | ⟨lab, k, cs⟩ :: r, h => by
    have : Nat.beq lab l = false := beq_ne (h ⟨lab, k, cs⟩ (by simp))
    rw [updML, this, cond_false, updML_none (fun x hx => h x (by simp [hx]))]
theorem wN_map {lo : Nat} {j : Coast} {X : List E} (hT : Tw lo j X) (hlo : 22 ≤ lo) {c : List C} {f f' : MF} : updML 21 (.mp true (.arr 6) f') (⟨21, .mp true (.arr 6) f, []⟩ :: ⟨600, .own 85, c⟩ :: ⟨0, .ro 1, slsC 1 j⟩ :: X) = ⟨21, .mp true (.arr 6) f', []⟩ :: ⟨600, .own 85, c⟩ :: ⟨0, .ro 1, slsC 1 j⟩ :: X := by
  show (⟨21, .mp true (.arr 6) f', []⟩ :: ⟨600, .own 85, c⟩ :: ⟨0, .ro 1, slsC 1 j⟩ :: updML 21 _ X : List E) = _
  rw [updML_none (hT.ne (.inr (.inl (by omega))))]
def WorstR (j : Coast) (r : Nat) : Prop := ∀ (d : Nat → Nat) (f : MF) (X : List E), DOk j d → remD j d < r → GoodF j f → Tw (100 + 3 * remD j d) j X →
    SpecM Try.prog 71 [V.c (.sl 0 j.length), V.c (.mp 21), V.agg ((encL d).map C.i), V.i (hourD j d)] (wL j f X) 600 (fun v L' nx' => v = V.i (worstD j d) ∧ L' = wL j (memF j r f d) X ∧ nx' = 600)
theorem smN_le {F G : Nat → Nat} : ∀ {n : Nat}, (∀ i, i < n → F i ≤ G i) → smN F n ≤ smN G n
  | 0, _ => Nat.le_refl _
  | n + 1, h => by
    have := smN_le (n := n) fun i hi => h i (by omega)
    have := h n (by omega)
    simp only [smN]; omega
theorem remD_le (j : Coast) (d : Nat → Nat) : remD j d ≤ manyN j j.length := by
  rw [← smN_many (Nat.le_refl _)]
  exact smN_le fun i _ => Nat.sub_le _ _
set_option maxRecDepth 100000 in
theorem worst_step (j : Coast) (hj : Sized j) (hv : validL j = true) (r : Nat) (IH : WorstR j r) : WorstR j (r + 1) := by
    intro d f X hd hr hf hT
    have hm := validL_many hv
    have hc := validL_coast hj hv
    have hj20 := hj.len
    have h6 : j.length ≤ 6 := by simp only [validL, Bool.and_eq_true, decide_eq_true_eq] at hv; omega
    have hin := encL_bd hc hd
    have hr12 := remD_le j d
    have hsl := slsC_len (b := 1) (j := j)
    have hel : ((encL d).map C.i).length = 6 := rfl
    refine SpecM.ren (Q := fun v L' nx' => v = V.i (worstD j d) ∧ (L' = ⟨21, .mp true (.arr 6) (memF j (r + 1) f d), []⟩ :: ⟨600, .own 85, (encL d).map C.i⟩ :: ⟨0, .ro 1, slsC 1 j⟩ :: X ∨ L' = ⟨600, .own 85, (encL d).map C.i⟩ :: ⟨21, .mp true (.arr 6) (memF j (r + 1) f d), []⟩ :: ⟨0, .ro 1, slsC 1 j⟩ :: X) ∧ nx' = 601) ?_ ?_
    · refine SpecM.of tok Try.func71 rfl rfl rfl fun n0 cx => vc_ok tok ?_
      unfold wL
      cases hfe : f (encL d) with
      | some v0 =>
        have hv0 := hf d v0 hd hfe
        subst hv0
        have hmem : memF j (r + 1) f d = f := by simp only [memF]; rw [hfe]; rfl
        rw [hmem]
        have hfe' : f [(d 0 : Int), (d 1 : Int), (d 2 : Int), (d 3 : Int), (d 4 : Int), (d 5 : Int)] = some (.i (worstD j d)) := hfe
        repeat ((conv => whnf); first | with_reducible refine lkm (hfe') ?_ | refine Exists.intro _ (And.intro rfl ?_) | refine fun (K' : K3) hK' => ?_ | (refine hK' _ _ _ ?_; clear hK' K') | refine And.intro (And.intro rfl hin) ?_)
        exact ⟨rfl, .inr rfl, rfl⟩
      | none =>
        have hfe' : f [(d 0 : Int), (d 1 : Int), (d 2 : Int), (d 3 : Int), (d 4 : Int), (d 5 : Int)] = none := hfe
        repeat ((conv => whnf); first | with_reducible refine lkm (hfe') ?_ | refine Exists.intro _ (And.intro rfl ?_) | refine fun (K' : K3) hK' => ?_ | (refine hK' _ _ _ ?_; clear hK' K') | refine And.intro (And.intro rfl hin) ?_)
        obtain ⟨F, hF⟩ : ∃ F, F = lpF j d (fun k f => memF j r f (upd d k 1)) f := ⟨_, rfl⟩
        have hF0 : F 0 = f := by rw [hF]; rfl
        have hFs : ∀ k, F (k + 1) = if d k < (j.getD k []).length then memF j r (F k) (upd d k 1) else F k := fun k => by rw [hF]; rfl
        have hFg : ∀ k, k ≤ j.length → GoodF j (F k) := fun k hk => by
          rw [hF]; exact lpF_good hf fun k f hk' hlt hf => memF_good h6 r hf (hd.up (by omega) hlt)
        obtain ⟨M, hM⟩ : ∃ M, M = mostG j d (worstG j d) := ⟨_, rfl⟩
        have hM0 : M 0 = 0 := by rw [hM]; rfl
        have hMs : ∀ k, M (k + 1) = if d k < (j.getD k []).length then max (M k) (worstG j d k) else M k := fun k => by rw [hM]; rfl
        have hMn : M j.length = worstD j d := by rw [hM, worst_eq]
        have hFm : updF (F j.length) (encL d) (.i (worstD j d)) = memF j (r + 1) f d := by
          rw [hF]; simp only [memF]; rw [hfe]; rfl
        have hnd : ∀ f : MF, ((⟨21, .mp true (.arr 6) f, []⟩ :: ⟨600, .own 85, (encL d).map C.i⟩ :: ⟨0, .ro 1, slsC 1 j⟩ :: X : List E).map E.lab).Nodup := fun f => by
          simp only [List.map_cons, List.nodup_cons, List.mem_cons, List.mem_map, not_or]
          refine ⟨⟨by omega, by omega, fun ⟨e, he, q⟩ => ?_⟩, ⟨by omega, fun ⟨e, he, q⟩ => ?_⟩, fun ⟨e, he, q⟩ => ?_, hT.nd⟩ <;> (have := hT.lab e he; omega)
        refine Tri.loop (γ := Nat) (fun k => k ≤ j.length)
          (fun k => [(0, V.c (.sl 0 j.length)), (1, V.c (.mp 21)), (3, V.i (hourD j d)), (6, V.c (.ptr 600 0)), (11, V.i (M k)), (24, V.c (.sl 0 j.length)), (25, V.i j.length), (26, V.i (k : Nat))])
          (fun k => ⟨21, .mp true (.arr 6) (F k), []⟩ :: ⟨600, .own 85, (encL d).map C.i⟩ :: ⟨0, .ro 1, slsC 1 j⟩ :: X) 601 (fun k => j.length - k) 0 (R0 := []) ?_ ?_ ?_
        · omega
        · rw [hF0, hM0]
          refine ⟨?_, ?_, injB_nil (hnd _), rfl, by exact Nat.le_of_ble_eq_true rfl⟩
          · repeat (first | exact trivial | (refine And.intro (covS_syn (by rfl) rfl (by first | exact trivial | exact Nat.le_of_ble_eq_true rfl)) ?_))
          · repeat (first | refine And.intro (covE_mp rfl (Nat.le_of_ble_eq_true rfl) rfl rfl) ?_ | (exact hT.cov (fun _ _ => rfl) (by omega) (fun e he => by have := hT.lab e he; (repeat rw [find_skip (by omega)]); exact find_nd hT.nd e he)) | (refine And.intro (covE_id (Nat.le_of_ble_eq_true rfl) (by first | exact wf_ints _ _ | first | exact wf_sls _ _ _ (by omega) | exact wf_jobs _ _ | exact wf_ints _ _) rfl (by rfl)) ?_))
        · intro k hk
          refine vc_ok tok ?_
          by_cases hlt : k < j.length
          · have hlen := hj.be k hlt
            have hdk : ((encL d).map C.i)[addO 0 (mulS ((k : Nat) : Int).toNat 1)]? = some (C.i (d k : Int)) := by
              rw [addO_eq, Nat.zero_add, intL (by rw [encL_len]; omega), encL_get (by omega)]
            by_cases hdl : d k < (j.getD k []).length
            · have hdn : ¬ (d k : Int) = ((j.getD k []).length : Nat) := by omega
              have hjl : (jobC (j.getD k [])).length = 2 * (j.getD k []).length := jobC_len _
              repeat ((conv => whnf); first | (refine And.intro (by first | omega | exact Nat.le_of_ble_eq_true rfl | (dsimp only [inK]; omega) | exact ⟨by omega, by omega, by exact Nat.le_of_ble_eq_true rfl⟩) ?_) | with_reducible refine ld (slL hlt) ?_ | with_reducible refine ld (hdk) ?_ | with_reducible refine ld (jobT rfl hdl) ?_ | refine Exists.intro _ (And.intro rfl ?_) | refine br_t (by omega) ?_ | refine br_f (by omega) ?_ | refine fun (K' : K3) hK' => ?_ | (refine hK' _ _ _ ?_; clear hK' K') | (refine onV_ld (c := ⟨1 + k, .ro 2, jobC (j.getD k [])⟩) (by (try (conv => lhs; arg 1; whnf)); (repeat rw [find_skip (by omega)]); exact hT.be k hlt) ?_) | with_reducible refine updK_tw hT (.inr (.inr (by omega))) ?_ | refine Exists.intro (C.i (d k : Int)) (And.intro hdk ?_))
              (conv => whnf)
              refine And.intro ?_ (updK_to (wN_upd hT (k := k) (by omega)) ?_)
              · show addO 0 (mulS ((k : Nat) : Int).toNat 1) + 1 ≤ 6
                rw [addO_eq, mulS_eq]; omega
              have hup := hd.up hlt hdl
              have hrem := rem_up hlt hdl
              have hT2 : Tw (100 + 3 * remD j (upd d k 1)) j (wX (100 + 3 * remD j (upd d k 1)) (encL d) [((j.getD k []).getD (d k) (0, 0)).1, ((j.getD k []).getD (d k) (0, 0)).2] (encL (upd d k 1)) X) :=
                hT.three hj20 _ _ _ (by omega) (by omega) (by omega)
              have ih := IH (upd d k 1) (F k) _ hup (by omega) (hFg k hk) hT2
              rw [hour_up hlt hdl] at ih
              have hcall := fun n0 => w_call (n0 := n0) (L := ⟨602, .own 85, (encL (upd d k 1)).map C.i⟩ :: ⟨601, .own 47, [C.i ((j.getD k []).getD (d k) (0, 0)).1, C.i ((j.getD k []).getD (d k) (0, 0)).2]⟩ :: ⟨21, .mp true (.arr 6) (F k), []⟩ :: ⟨600, .own 85, (encL d).map C.i⟩ :: ⟨0, .ro 1, slsC 1 j⟩ :: X) hj20 hT (by omega) (by omega) (by omega) ih rfl rfl rfl rfl rfl (fun e he => by
                have := hT.lab e he
                rw [find_skip (by omega), find_skip (by omega), find_skip (by omega), find_skip (by omega), find_skip (by omega)]; exact find_nd hT.nd e he)
              have hb1 : 1 ≤ ((j.getD k []).getD (d k) (0, 0)).1 ∧ ((j.getD k []).getD (d k) (0, 0)).1 ≤ 100 ∧ 0 ≤ ((j.getD k []).getD (d k) (0, 0)).2 ∧ ((j.getD k []).getD (d k) (0, 0)).2 ≤ 100 := jobD_bd hc hlt hdl
              have hb2 := hour_bd hc hd
              have hb3 : 0 ≤ ((j.getD k []).getD (d k) (0, 0)).2 * (hourD j d + ((j.getD k []).getD (d k) (0, 0)).1) ∧ ((j.getD k []).getD (d k) (0, 0)).2 * (hourD j d + ((j.getD k []).getD (d k) (0, 0)).1) ≤ 10000 * (manyN j j.length : Int) + 10000 := step_bd hc hd hlt hdl
              have hb4 := worst_bd hc 12 hup (by omega)
              have hb5 := worst_bd hc 12 hd (by omega)
              repeat ((conv => whnf); first | (refine And.intro (by first | omega | exact Nat.le_of_ble_eq_true rfl | (dsimp only [inK]; omega) | exact Eq.refl true) ?_) | refine Exists.intro _ (And.intro rfl ?_) | refine fun (K' : K3) hK' => ?_ | (refine hK' _ _ _ ?_; clear hK' K') | refine draw_turn 71 21 tok mixed (by decide +kernel) ?_ | refine drawT_mk (wN_rm hT (by omega)) rfl ?_ | refine turn_mk (worstD j (upd d k 1)) (.arr 6) (memF j r (F k) (upd d k 1)) (hcall _) ?_)
              have hMk : (if ((j.getD k []).getD (d k) (0, 0)).2 * (hourD j d + ((j.getD k []).getD (d k) (0, 0)).1) + worstD j (upd d k 1) > M k then ((j.getD k []).getD (d k) (0, 0)).2 * (hourD j d + ((j.getD k []).getD (d k) (0, 0)).1) + worstD j (upd d k 1) else M k) = M (k + 1) := by
                rw [hMs, if_pos hdl]
                show _ = max (M k) (((j.getD k []).getD (d k) (0, 0)).2 * (hourD j d + ((j.getD k []).getD (d k) (0, 0)).1) + worstD j (upd d k 1))
                split <;> omega
              have hFk : memF j r (F k) (upd d k 1) = F (k + 1) := by rw [hFs, if_pos hdl]
              refine ⟨k + 1, [], by omega, by omega, ?_⟩
              refine ⟨?_, ?_, injB_nil (hnd _), rfl, by exact Nat.le_of_ble_eq_true rfl⟩
              · repeat (first | exact trivial | (refine And.intro (covS_syn (by first | rfl | (refine congrArg some (congrArg V.i ?_); exact hMk)) rfl (by first | exact trivial | exact Nat.le_of_ble_eq_true rfl)) ?_))
              · repeat (first | refine And.intro (covE_mp rfl (Nat.le_of_ble_eq_true rfl) rfl hFk) ?_ | (exact hT.cov (fun _ _ => rfl) (by omega) (fun e he => by have := hT.lab e he; (repeat rw [find_skip (by omega)]); exact find_nd hT.nd e he)) | (refine And.intro (covE_id (Nat.le_of_ble_eq_true rfl) (by first | exact wf_ints _ _ | first | exact wf_sls _ _ _ (by omega) | exact wf_jobs _ _ | exact wf_ints _ _) rfl (by rfl)) ?_))
            · have hde : (d k : Int) = ((j.getD k []).length : Nat) := by have := hd.1 k hlt; omega
              have hMk : M k = M (k + 1) := by rw [hMs, if_neg hdl]
              have hFk : F k = F (k + 1) := by rw [hFs, if_neg hdl]
              repeat ((conv => whnf); first | (refine And.intro (by first | omega | (dsimp only [inK]; omega)) ?_) | with_reducible refine ld (slL hlt) ?_ | with_reducible refine ld (hdk) ?_ | refine br_t (by omega) ?_ | refine fun (K' : K3) hK' => ?_ | (refine hK' _ _ _ ?_; clear hK' K'))
              refine ⟨k + 1, [], by omega, by omega, ?_⟩
              refine ⟨?_, ?_, injB_nil (hnd _), rfl, by exact Nat.le_of_ble_eq_true rfl⟩
              · repeat (first | exact trivial | (refine And.intro (covS_syn (by first | rfl | (refine congrArg some (congrArg V.i ?_); exact hMk)) rfl (by first | exact trivial | exact Nat.le_of_ble_eq_true rfl)) ?_))
              · repeat (first | refine And.intro (covE_mp rfl (Nat.le_of_ble_eq_true rfl) rfl hFk) ?_ | (exact hT.cov (fun _ _ => rfl) (by omega) (fun e he => by have := hT.lab e he; (repeat rw [find_skip (by omega)]); exact find_nd hT.nd e he)) | (refine And.intro (covE_id (Nat.le_of_ble_eq_true rfl) (by first | exact wf_ints _ _ | first | exact wf_sls _ _ _ (by omega) | exact wf_jobs _ _ | exact wf_ints _ _) rfl (by rfl)) ?_))
          · obtain rfl : k = j.length := by omega
            rw [hMn]
            repeat ((conv => whnf); first | refine Exists.intro _ (And.intro rfl ?_) | refine br_f (by omega) ?_ | refine fun (K' : K3) hK' => ?_ | (refine hK' _ _ _ ?_; clear hK' K'))
            (conv => whnf)
            refine And.intro (And.intro rfl hin) (updM_to (wN_map hT (by omega)) ?_)
            repeat ((conv => whnf); first | refine fun (K' : K3) hK' => ?_ | (refine hK' _ _ _ ?_; clear hK' K'))
            exact ⟨rfl, .inl (by rw [← hFm]; rfl), rfl⟩
    · rintro v L' nx' _ ⟨rfl, hL', rfl⟩
      refine ⟨[], V.i (worstD j d), wL j (memF j (r + 1) f d) X, 600, Nat.le_refl _, rfl, trivial, ?_, injB_nil (wL_nd hT (by omega) _), rfl, rfl, rfl, rfl⟩
      rcases hL' with rfl | rfl
      · exact ⟨covE_mp rfl (by omega) rfl rfl, covE_id (by simp only; omega) (wf_sls _ _ _ (by omega)) rfl rfl, hT.cov (fun _ _ => rfl) (by omega) fun e he => by
          have := hT.lab e he; rw [find_skip (by omega), find_skip (by omega), find_skip (by omega)]; exact find_nd hT.nd e he⟩
      · exact ⟨covE_mp rfl (by omega) rfl rfl, covE_id (by simp only; omega) (wf_sls _ _ _ (by omega)) rfl rfl, hT.cov (fun _ _ => rfl) (by omega) fun e he => by
          have := hT.lab e he; rw [find_skip (by omega), find_skip (by omega), find_skip (by omega)]; exact find_nd hT.nd e he⟩
theorem worst_all (j : Coast) (hj : Sized j) (hv : validL j = true) : ∀ r, WorstR j r
  | 0 => fun _ _ _ _ hr _ _ => absurd hr (Nat.not_lt_zero _)
  | r + 1 => worst_step j hj hv r (worst_all j hj hv r)
end Go.Proofs.Ytjijjncddjkdlaa

/- Shore: Worst. -/
namespace Go.Proofs.Ytjijjncddjkdlaa
open Go.RowKit
set_option linter.unusedVariables false
set_option linter.unusedSimpArgs false
theorem entC_lab : ∀ {b : Nat} {j : Coast}, (entC b j).map E.lab = List.range' b j.length
  | b, [] => rfl
  | b, x :: r => by simp only [entC, List.map_cons, entC_lab (b := b + 1) (j := r), List.length_cons, List.range'_succ]
theorem tw_ent {j : Coast} (hj : j.length ≤ 20) (lo : Nat) : Tw lo j (entC 1 j) := by
  refine ⟨fun e he => ?_, fun e he => ?_, ?_, fun k hk => entC_find hk⟩
  · obtain ⟨k, hk, rfl⟩ := entC_mem he
    exact .inl ⟨by simp only; omega, by simp only; omega⟩
  · obtain ⟨k, hk, rfl⟩ := entC_mem he
    exact ⟨fun n => wf_jobs _ _, fun R => ren_jobs _ _, fun p => chk_jobs _ _⟩
  · rw [entC_lab]; exact List.nodup_range'
theorem zero_ok (j : Coast) : DOk j (fun _ => 0) := ⟨fun _ _ => Nat.zero_le _, fun _ _ => rfl⟩
theorem worst_spec (j : Coast) (hj : Sized j) : Spec Try.prog 35 [V.c (.sl 0 j.length)] (⟨0, .ro 1, slsC 1 j⟩ :: entC 1 j) 32 (Is (if validL j then .tup [.c (.i (worstD j (fun _ => 0))), .c (.i 0)] else .tup [.c (.i 0), .c (.i 60)])) := by
  have hj20 := hj.len
  have hC : HasC (⟨0, .ro 1, slsC 1 j⟩ :: entC 1 j) j := ⟨rfl, fun k hk => by (repeat (first | rw [find_skip (by omega)] | rw [find_hi (by omega) (by rfl)])); exact entC_find hk⟩
  refine Spec.of tok Try.func35 rfl rfl rfl fun n0 cx => vc_ok tok ?_
  cases hv : validL j with
  | true =>
    have hT := tw_ent hj20 (100 + 3 * remD j (fun _ => 0))
    have ih := worst_all j hj hv (remD j (fun _ => 0) + 1) (fun _ => 0) (fun _ => none) (entC 1 j) (zero_ok j) (by omega) (fun d v _ h => by cases h) hT
    rw [hour_zero] at ih
    have k1 : ∀ l, l ≠ 21 → renL [(21, some 32)] l = some l := fun l hl => by simp only [renL, beq_ne (show 21 ≠ l by omega), cond_false]
    have hcv : covL [(21, some 32)] 600 (⟨32, .mp true (.arr 6) (fun _ => none), []⟩ :: ⟨0, .ro 1, slsC 1 j⟩ :: entC 1 j) (wL j (fun _ => none) (entC 1 j)) :=
      ⟨covE_mp (l' := 32) rfl (by omega) rfl rfl, covE_some (k1 _ (by simp only; omega)) (by simp only; omega) (wf_sls _ _ _ (by omega)) rfl (ren_sls_of (fun l hl => k1 l (by omega)) (by omega)), hT.cov (fun l hl => k1 l (by omega)) (by omega) fun e he => by
        obtain ⟨k, hk, rfl⟩ := entC_mem he
        simp only
        rw [find_skip (by omega), find_skip (by omega)]; exact entC_find hk⟩
    have hij : injB [(21, some 32)] (wL j (fun _ => none) (entC 1 j)) = true := injB_of (wL_nd hT (by omega) _) fun e he e' he' hne a g1 g2 => by
      have hl : ∀ e ∈ wL j (fun _ => none) (entC 1 j), e.lab = 21 ∨ (e.lab ≠ 21 ∧ e.lab ≠ 32) := fun e he => by
        unfold wL at he
        rcases List.mem_cons.1 he with rfl | he
        · exact .inl rfl
        · rcases List.mem_cons.1 he with rfl | he
          · exact .inr ⟨by simp, by simp⟩
          · have := hT.lab e he
            obtain ⟨k, hk, rfl⟩ := entC_mem he
            exact .inr ⟨by simp only; omega, by simp only; omega⟩
      have h1 := hl e he
      have h2 := hl e' he'
      rcases h1 with h1 | ⟨h1, h1'⟩ <;> rcases h2 with h2 | ⟨h2, h2'⟩
      · exact hne (h1.trans h2.symm)
      · rw [h1, show renL [(21, some 32)] 21 = some 32 from rfl, Option.some.injEq] at g1; rw [k1 _ h2, Option.some.injEq] at g2; omega
      · rw [h2, show renL [(21, some 32)] 21 = some 32 from rfl, Option.some.injEq] at g2; rw [k1 _ h1, Option.some.injEq] at g1; omega
      · rw [k1 _ h1, Option.some.injEq] at g1; rw [k1 _ h2, Option.some.injEq] at g2; omega
    repeat ((conv => whnf); first | refine br_f (by omega) ?_ | refine fun (K' : K3) hK' => ?_ | (refine hK' _ _ _ ?_; clear hK' K') | refine CallM.eq (by kernel_rfl) (open_spec j hj _ _ hC) ?_ | refine CallM.at (R := [(21, some 32)]) (by kernel_rfl) ih rfl (by simp [V.wf, A.wf, C.wf, V.i, encL]) hcv hij ?_ | rw [hv])
    rintro v L' nx' _ ⟨rfl, rfl, rfl⟩
    refine ⟨[], V.i (worstD j fun _ => 0), [], 33, by omega, rfl, trivial, trivial, rfl, rfl, ?_⟩
    repeat ((conv => whnf); refine hK' _ _ _ ?_; clear hK' K')
    intro ρ; rfl
  | false =>
    repeat ((conv => whnf); first | refine br_t (by omega) ?_ | refine fun (K' : K3) hK' => ?_ | (refine hK' _ _ _ ?_; clear hK' K') | refine CallM.eq (by kernel_rfl) (open_spec j hj _ _ hC) ?_ | rw [hv])
    intro ρ; rfl
end Go.Proofs.Ytjijjncddjkdlaa

/- Shore: the reference's Least and Worst. -/
namespace Go.Proofs.Ytjijjncddjkdlaa
open Go.RowKit
set_option linter.unusedVariables false
set_option linter.unusedSimpArgs false
theorem rleast_spec (j : Coast) (hj : Sized j) : Spec Try.prog 34 [V.c (.sl 0 j.length)] (⟨0, .ro 1, slsC 1 j⟩ :: entC 1 j) 32 (Is (if validL j then .tup [.c (.i (leastO j)), .c (.i 0)] else .tup [.c (.i 0), .c (.i 60)])) := by
  have hj20 := hj.len
  have h4 := rvalid_spec j hj
  cases hv : validL j with
  | true =>
    rw [hv] at h4
    refine Spec.of tok Try.func34 rfl rfl rfl fun n0 cx => vc_ok tok ?_
    repeat ((conv => whnf); first | refine fun (K' : K3) hK' => ?_ | (refine hK' _ _ _ ?_; clear hK' K') | refine CallK.val (R := []) h4 (by kernel_rfl) rfl (by simp [V.wf, A.wf, C.wf]) (HasC.ro ⟨rfl, fun k hk => by (repeat (first | rw [find_skip (by omega)] | rw [find_hi (by omega) (by rfl)])); exact entC_find hk⟩ hj) (injC hj) rfl trivial ?_ | refine CallK.val (R := []) (ends70_spec j hj hv) (by kernel_rfl) rfl (by simp [V.wf, A.wf, C.wf]) (HasC.ro ⟨rfl, fun k hk => by (repeat (first | rw [find_skip (by omega)] | rw [find_hi (by omega) (by rfl)])); exact entC_find hk⟩ hj) (injC hj) rfl (by simp [V.wf, A.wf, C.wf]) ?_ | refine br_bf (Eq.refl false) ?_ | refine CallK.m ?_)
    intro ρ; rfl
  | false =>
    rw [hv] at h4
    refine Spec.of tok Try.func34 rfl rfl rfl fun n0 cx => vc_ok tok ?_
    repeat ((conv => whnf); first | refine fun (K' : K3) hK' => ?_ | (refine hK' _ _ _ ?_; clear hK' K') | refine CallK.val (R := []) h4 (by kernel_rfl) rfl (by simp [V.wf, A.wf, C.wf]) (HasC.ro ⟨rfl, fun k hk => by (repeat (first | rw [find_skip (by omega)] | rw [find_hi (by omega) (by rfl)])); exact entC_find hk⟩ hj) (injC hj) rfl trivial ?_ | refine br_bt (Eq.refl true) ?_ | refine CallK.m ?_)
    intro ρ; rfl
theorem rworst_spec (j : Coast) (hj : Sized j) : Spec Try.prog 36 [V.c (.sl 0 j.length)] (⟨0, .ro 1, slsC 1 j⟩ :: entC 1 j) 32 (Is (if validL j then .tup [.c (.i (worstD j fun _ => 0)), .c (.i 0)] else .tup [.c (.i 0), .c (.i 60)])) := by
  have hj20 := hj.len
  have h4 := rvalid_spec j hj
  cases hv : validL j with
  | true =>
    rw [hv] at h4
    refine Spec.of tok Try.func36 rfl rfl rfl fun n0 cx => vc_ok tok ?_
    repeat ((conv => whnf); first | refine fun (K' : K3) hK' => ?_ | (refine hK' _ _ _ ?_; clear hK' K') | refine CallK.val (R := []) h4 (by kernel_rfl) rfl (by simp [V.wf, A.wf, C.wf]) (HasC.ro ⟨rfl, fun k hk => by (repeat (first | rw [find_skip (by omega)] | rw [find_hi (by omega) (by rfl)])); exact entC_find hk⟩ hj) (injC hj) rfl trivial ?_ | refine CallK.val (R := []) (ends70_spec j hj hv) (by kernel_rfl) rfl (by simp [V.wf, A.wf, C.wf]) (HasC.ro ⟨rfl, fun k hk => by (repeat (first | rw [find_skip (by omega)] | rw [find_hi (by omega) (by rfl)])); exact entC_find hk⟩ hj) (injC hj) rfl (by simp [V.wf, A.wf, C.wf]) ?_ | refine br_bf (Eq.refl false) ?_ | refine CallK.m ?_)
    intro ρ; rfl
  | false =>
    rw [hv] at h4
    refine Spec.of tok Try.func36 rfl rfl rfl fun n0 cx => vc_ok tok ?_
    repeat ((conv => whnf); first | refine fun (K' : K3) hK' => ?_ | (refine hK' _ _ _ ?_; clear hK' K') | refine CallK.val (R := []) h4 (by kernel_rfl) rfl (by simp [V.wf, A.wf, C.wf]) (HasC.ro ⟨rfl, fun k hk => by (repeat (first | rw [find_skip (by omega)] | rw [find_hi (by omega) (by rfl)])); exact entC_find hk⟩ hj) (injC hj) rfl trivial ?_ | refine br_bt (Eq.refl true) ?_ | refine CallK.m ?_)
    intro ρ; rfl
end Go.Proofs.Ytjijjncddjkdlaa

/- Shore: the reference's Number; Number of what is not valid. -/
namespace Go.Proofs.Ytjijjncddjkdlaa
open Go.RowKit
set_option linter.unusedVariables false
set_option linter.unusedSimpArgs false
theorem numberX_spec (j : Coast) (hj : Sized j) (hv : validL j = false) : Spec Try.prog 38 [V.c (.sl 0 j.length)] (⟨0, .ro 1, slsC 1 j⟩ :: entC 1 j) 32 (Is (.tup [.c (.i 0), .c (.i 60)])) := by
  have hj20 := hj.len
  have hC := hasC0 hj
  refine Spec.of tok Try.func38 rfl rfl rfl fun n0 cx => vc_ok tok ?_
  repeat ((conv => whnf); first | refine br_t (by omega) ?_ | refine fun (K' : K3) hK' => ?_ | (refine hK' _ _ _ ?_; clear hK' K') | refine CallM.eq (by kernel_rfl) (open_spec j hj _ _ hC) ?_ | rw [hv])
  intro ρ; rfl
set_option maxHeartbeats 1000000 in
set_option maxRecDepth 100000 in
theorem rnumber_spec (j : Coast) (hj : Sized j) : Spec Try.prog 39 [V.c (.sl 0 j.length)] (⟨0, .ro 1, slsC 1 j⟩ :: entC 1 j) 32 (Is (if validL j then .tup [.c (.i (numJ j j.length : Nat)), .c (.i 0)] else .tup [.c (.i 0), .c (.i 60)])) := by
  have hj20 := hj.len
  have hlen := slsC_len (b := 1) (j := j)
  have h4 := rvalid_spec j hj
  cases hv : validL j with
  | false =>
    rw [hv] at h4
    refine Spec.of tok Try.func39 rfl rfl rfl fun n0 cx => vc_ok tok ?_
    repeat ((conv => whnf); first | refine fun (K' : K3) hK' => ?_ | (refine hK' _ _ _ ?_; clear hK' K') | refine CallK.val (R := []) h4 (by kernel_rfl) rfl (by simp [V.wf, A.wf, C.wf]) (HasC.ro ⟨rfl, fun k hk => by (repeat (first | rw [find_skip (by omega)] | rw [find_hi (by omega) (by rfl)])); exact entC_find hk⟩ hj) (injC hj) rfl trivial ?_ | refine br_bt (Eq.refl true) ?_ | refine CallK.m ?_)
    intro ρ; rfl
  | true =>
  rw [hv] at h4
  have hc := validL_coast hj hv
  have h12 : manyN j j.length ≤ 12 := by simp only [validL, Bool.and_eq_true, decide_eq_true_eq] at hv; omega
  have hp12 : ∀ m, m ≤ 12 → 12 ^ m ≤ 8916100448256 := fun m hm => Nat.le_trans (Nat.pow_le_pow_right (by omega) hm) (by decide)
  refine Spec.of tok Try.func39 rfl rfl rfl fun n0 cx => vc_ok tok ?_
  repeat ((conv => whnf); first | refine fun (K' : K3) hK' => ?_ | (refine hK' _ _ _ ?_; clear hK' K') | refine CallK.val (R := []) h4 (by kernel_rfl) rfl (by simp [V.wf, A.wf, C.wf]) (HasC.ro ⟨rfl, fun k hk => by (repeat (first | rw [find_skip (by omega)] | rw [find_hi (by omega) (by rfl)])); exact entC_find hk⟩ hj) (injC hj) rfl trivial ?_ | refine br_bf (Eq.refl false) ?_ | refine CallK.m ?_)
  refine Tri.loop (γ := Nat) (fun b => b ≤ j.length) (fun b => [(0, V.c (.sl 0 j.length)), (4, V.i (numJ j b : Nat)), (5, V.i (manyN j b : Nat)), (6, V.i (b : Nat))])
    (fun b => ⟨0, .ro 1, slsC 1 j⟩ :: entC 1 j) 32 (fun b => j.length - b) 0 (R0 := []) ?_ ?_ ?_
  · omega
  · skip
    refine ⟨?_, ?_, injB_ent (p := [_]) (by omega) rfl rfl, rfl, by exact Nat.le_of_ble_eq_true rfl⟩
    · repeat (first | exact trivial | (refine And.intro (covS_syn (by rfl) rfl (by first | exact trivial | exact Nat.le_of_ble_eq_true rfl)) ?_))
    · repeat (first | (exact covL_ent (by omega) (fun k hk => by (try simp only [flatN, List.cons_append, List.nil_append]); (repeat (first | rw [find_skip (by omega)] | rw [find_hi (by omega) (by rfl)])))) | refine And.intro (covE_id (Nat.le_of_ble_eq_true rfl) (by first | exact wf_sls _ _ _ (by omega) | exact wf_jobs _ _) rfl (by rfl)) ?_)
  · intro b hb
    refine vc_ok tok ?_
    by_cases hlt : b < j.length
    · have hjk := hc.jobs b hlt
      have hmm := manyN_mono j (a := b + 1) (b := j.length) (by omega) (Nat.le_refl _)
      have hms := manyN_succ (j := j) (k := b) hlt
      have hns : numJ j (b + 1) = numI (numJ j b) (manyN j b) (j.getD b []).length := rfl
      have hob := numJ_bd (j := j) (b := b) (by omega) (by omega)
      obtain ⟨m, hm⟩ : ∃ m, m = manyN j b := ⟨_, rfl⟩
      obtain ⟨o, ho⟩ : ∃ o, o = numJ j b := ⟨_, rfl⟩
      rw [← hm] at hms hns hob
      rw [← ho] at hns hob
      rw [← hm, ← ho]
      repeat ((conv => whnf); first | refine br_t (by omega) ?_ | refine fun (K' : K3) hK' => ?_ | (refine hK' _ _ _ ?_; clear hK' K'))
      refine Tri.loop (γ := Nat) (fun i => i ≤ (j.getD b []).length) (fun i => [(0, V.c (.sl 0 j.length)), (4, V.i (numI o m i : Nat)), (5, V.i ((m : Nat) + (i : Nat))), (6, V.i (b : Nat)), (7, V.i ((i : Nat) + 1))])
        (fun i => ⟨0, .ro 1, slsC 1 j⟩ :: entC 1 j) 32 (fun i => (j.getD b []).length - i) 0 (R0 := []) ?_ ?_ ?_
      · omega
      · skip
        refine ⟨?_, ?_, injB_ent (p := [_]) (by omega) rfl rfl, rfl, by exact Nat.le_of_ble_eq_true rfl⟩
        · repeat (first | exact trivial | (refine And.intro (covS_syn (by rfl) rfl (by first | exact trivial | exact Nat.le_of_ble_eq_true rfl)) ?_))
        · repeat (first | (exact covL_ent (by omega) (fun k hk => by (try simp only [flatN, List.cons_append, List.nil_append]); (repeat (first | rw [find_skip (by omega)] | rw [find_hi (by omega) (by rfl)])))) | refine And.intro (covE_id (Nat.le_of_ble_eq_true rfl) (by first | exact wf_sls _ _ _ (by omega) | exact wf_jobs _ _) rfl (by rfl)) ?_)
      · intro i hi
        refine vc_ok tok ?_
        by_cases hil : i < (j.getD b []).length
        · have hs : numI o m (i + 1) = numI o m i * (m + i + 1) / (i + 1) := rfl
          have hb1 := numI_bd o m (i := i) (by omega)
          have hb2 : numI o m i ≤ 8916100448256 := by
            refine Nat.le_trans hb1 (Nat.le_trans (Nat.mul_le_mul_right _ hob) ?_)
            rw [← Nat.pow_add]; exact hp12 _ (by omega)
          obtain ⟨x, hx⟩ : ∃ x, x = numI o m i := ⟨_, rfl⟩
          rw [← hx] at hs hb2 ⊢
          have hpr : 0 ≤ ((x : Nat) : Int) * (((m : Nat) : Int) + ((i : Nat) : Int) + 1) ∧ ((x : Nat) : Int) * (((m : Nat) : Int) + ((i : Nat) : Int) + 1) ≤ 200000000000000 := by
            have h1 : x * (m + i + 1) ≤ 8916100448256 * 12 := Nat.mul_le_mul hb2 (by omega)
            have h2 : ((x * (m + i + 1) : Nat) : Int) = ((x : Nat) : Int) * (((m : Nat) : Int) + ((i : Nat) : Int) + 1) := by push_cast; rfl
            omega
          have hq : ((x : Nat) : Int) * (((m : Nat) : Int) + ((i : Nat) : Int) + 1) / (((i : Nat) : Int) + 1) = ((numI o m (i + 1) : Nat) : Int) := by
            rw [hs]; push_cast; rfl
          have hqb : 0 ≤ ((x : Nat) : Int) * (((m : Nat) : Int) + ((i : Nat) : Int) + 1) / (((i : Nat) : Int) + 1) ∧ ((x : Nat) : Int) * (((m : Nat) : Int) + ((i : Nat) : Int) + 1) / (((i : Nat) : Int) + 1) ≤ 200000000000000 := by
            have h1 := Int.ediv_nonneg hpr.1 (show (0 : Int) ≤ ((i : Nat) : Int) + 1 by omega)
            have h2 := Int.ediv_le_self (((i : Nat) : Int) + 1) hpr.1
            omega
          repeat ((conv => whnf); first | (refine And.intro (by first | omega | (dsimp only [inK]; omega)) ?_) | with_reducible refine ld (slL hlt) ?_ | refine br_t (by omega) ?_ | refine fun (K' : K3) hK' => ?_ | (refine hK' _ _ _ ?_; clear hK' K'))
          refine ⟨i + 1, [], by omega, by omega, ?_⟩
          refine ⟨?_, ?_, injB_ent (p := [_]) (by omega) rfl rfl, rfl, by exact Nat.le_of_ble_eq_true rfl⟩
          · repeat (first | exact trivial | (refine And.intro (covS_syn (by first | rfl | (refine congrArg some (congrArg V.i ?_); exact hq)) rfl (by first | exact trivial | exact Nat.le_of_ble_eq_true rfl)) ?_))
          · repeat (first | (exact covL_ent (by omega) (fun k hk => by (try simp only [flatN, List.cons_append, List.nil_append]); (repeat (first | rw [find_skip (by omega)] | rw [find_hi (by omega) (by rfl)])))) | refine And.intro (covE_id (Nat.le_of_ble_eq_true rfl) (by first | exact wf_sls _ _ _ (by omega) | exact wf_jobs _ _) rfl (by rfl)) ?_)
        · obtain rfl : i = (j.getD b []).length := by omega
          rw [← hns]
          repeat ((conv => whnf); first | (refine And.intro (by first | omega | (dsimp only [inK]; omega)) ?_) | with_reducible refine ld (slL hlt) ?_ | refine br_f (by omega) ?_ | refine fun (K' : K3) hK' => ?_ | (refine hK' _ _ _ ?_; clear hK' K'))
          refine ⟨b + 1, [], by omega, by omega, ?_⟩
          refine ⟨?_, ?_, injB_ent (p := [_]) (by omega) rfl rfl, rfl, by exact Nat.le_of_ble_eq_true rfl⟩
          · repeat (first | exact trivial | (refine And.intro (covS_syn (by first | rfl | (refine congrArg some (congrArg V.i ?_); omega)) rfl (by first | exact trivial | exact Nat.le_of_ble_eq_true rfl)) ?_))
          · repeat (first | (exact covL_ent (by omega) (fun k hk => by (try simp only [flatN, List.cons_append, List.nil_append]); (repeat (first | rw [find_skip (by omega)] | rw [find_hi (by omega) (by rfl)])))) | refine And.intro (covE_id (Nat.le_of_ble_eq_true rfl) (by first | exact wf_sls _ _ _ (by omega) | exact wf_jobs _ _) rfl (by rfl)) ?_)
    · obtain rfl : b = j.length := by omega
      repeat ((conv => whnf); first | refine br_f (by omega) ?_ | refine fun (K' : K3) hK' => ?_ | (refine hK' _ _ _ ?_; clear hK' K'))
      intro ρ; rfl
end Go.Proofs.Ytjijjncddjkdlaa

/- Shore: the reference's best. -/
namespace Go.Proofs.Ytjijjncddjkdlaa
open Go.RowKit
set_option linter.unusedVariables false
set_option linter.unusedSimpArgs false
/-- The beach chosen so far, -1 for none. -/
def chF (j : Coast) (nx : List Nat) (k : Nat) : Int := if 0 < (topS j nx k).1.1 then ((topS j nx k).2 : Nat) else -1
set_option maxHeartbeats 1000000 in
set_option maxRecDepth 100000 in
theorem rbest_spec (j : Coast) (hj : CoastOk j) (hs : Sized j) (hm12 : manyN j j.length ≤ 12) : Spec Try.prog 69 [V.c (.sl 0 j.length)] (⟨0, .ro 1, slsC 1 j⟩ :: entC 1 j) 32 (fun v L' _ => intsR (natsC (bestO j)) v L') := by
  have hj20 := hj.len
  have hsl := slsC_len (b := 1) (j := j)
  have h12 : ∀ b, b < j.length → (j.getD b []).length ≤ 12 := fun b hb => by have := beach_many hb; omega
  refine Spec.of tok Try.func69 rfl rfl rfl fun n0 cx => vc_ok tok ?_
  repeat ((conv => whnf); first | (refine And.intro (by first | omega | (dsimp only [inK]; omega)) ?_) | refine fun (K' : K3) hK' => ?_ | (refine hK' _ _ _ ?_; clear hK' K'))
  refine Tri.loop (γ := Nat) (fun _ => True) (fun i => [(0, V.c (.sl 0 j.length)), (3, V.c (.sl 33 (bestF j i).1.length)), (4, V.c (.sl 32 j.length))])
    (fun i => ⟨33, .vec 3 1, (natsC (bestF j i).1).map C.i⟩ :: ⟨32, .vec 3 1, (natsC (bestF j i).2).map C.i⟩ :: ⟨0, .ro 1, slsC 1 j⟩ :: entC 1 j) 34 (fun i => manyN j j.length - (bestF j i).1.length) 0 (R0 := [(33, none)]) ?_ ?_ ?_
  · trivial
  · skip
    refine ⟨?_, ?_, injB_entR (p := [_, _, _]) rfl (by omega) rfl rfl, rfl, by exact Nat.le_of_ble_eq_true rfl⟩
    · repeat (first | exact trivial | refine And.intro (covS_syn (by rfl) rfl (by exact Nat.le_of_ble_eq_true rfl)) ?_)
    · repeat (first | (exact covL_entR rfl (by omega) (by omega) (fun k hk => by (try simp only [flatN, List.cons_append, List.nil_append]); (repeat (first | rw [find_skip (by omega)] | rw [find_hi (by omega) (by rfl)])))) | refine And.intro (covE_some rfl (Nat.le_of_ble_eq_true rfl) (wf_sls _ _ _ (by omega)) rfl (ren_sls rfl (by omega))) ?_ | refine And.intro (covE_nil rfl (Nat.le_of_ble_eq_true rfl) rfl rfl) ?_ | (refine And.intro (covE_some rfl (Nat.le_of_ble_eq_true rfl) (by exact wf_ints _ _) rfl (by refine (ren_ints _ _).trans (congrArg some ?_); exact nats_zero.symm)) ?_))
  · rintro i -
    refine vc_ok tok ?_
    have hok := bestF_ok hj i
    have hgr := bestF_grow hj i
    have hnl := hok.nx.len
    repeat ((conv => whnf); first | refine fun (K' : K3) hK' => ?_ | (refine hK' _ _ _ ?_; clear hK' K'))
    refine Tri.loop (γ := Nat) (fun k => k ≤ j.length) (fun k => [(0, V.c (.sl 0 j.length)), (3, V.c (.sl 33 (bestF j i).1.length)), (4, V.c (.sl 32 j.length)), (5, V.i (chF j (bestF j i).2 k)), (6, V.c (.ptr 34 0)), (7, V.i (k : Nat))])
      (fun k => ⟨34, .own 65, [C.i (topS j (bestF j i).2 k).1.2.1, C.i (topS j (bestF j i).2 k).1.1, C.i (topS j (bestF j i).2 k).1.2.2]⟩ :: ⟨33, .vec 3 1, (natsC (bestF j i).1).map C.i⟩ :: ⟨32, .vec 3 1, (natsC (bestF j i).2).map C.i⟩ :: ⟨0, .ro 1, slsC 1 j⟩ :: entC 1 j) 35 (fun k => j.length - k) 0 (R0 := []) ?_ ?_ ?_
    · omega
    · skip
      refine ⟨?_, ?_, injB_ent (p := [_, _, _, _]) (by omega) rfl rfl, rfl, by exact Nat.le_of_ble_eq_true rfl⟩
      · repeat (first | exact trivial | (refine And.intro (covS_syn (by rfl) rfl (by first | exact trivial | exact Nat.le_of_ble_eq_true rfl)) ?_))
      · repeat (first | (exact covL_ent (by omega) (fun k hk => by (try simp only [flatN, List.cons_append, List.nil_append]); (repeat (first | rw [find_skip (by omega)] | rw [find_hi (by omega) (by rfl)])))) | (refine And.intro (covE_id (Nat.le_of_ble_eq_true rfl) (by first | exact wf_ints _ _ | first | exact wf_sls _ _ _ (by omega) | exact wf_jobs _ _ | simp [C.wf]) rfl (by rfl)) ?_))
    · rintro k hk
      refine vc_ok tok ?_
      have htb := topS_bd hj hok.nx hk
      have hnm : ((natsC (bestF j i).2).map C.i).length = j.length := by rw [List.length_map, natsC_len, hnl]
      by_cases hkl : k < j.length
      · have hle := hok.nx.le k hkl
        have hjk := hj.jobs k hkl
        have hlb := leadS_bd hjk.1 hle hjk.2
        by_cases hend : (bestF j i).2.getD k 0 = (j.getD k []).length
        · have hend' : (((bestF j i).2.getD k 0 : Nat) : Int) = ((j.getD k []).length : Nat) := by omega
          have hT : topS j (bestF j i).2 (k + 1) = topS j (bestF j i).2 k := topS_no1 (by rw [leadS_end (by omega)]; simp)
          have hC : chF j (bestF j i).2 (k + 1) = chF j (bestF j i).2 k := by unfold chF; rw [hT]
          repeat ((conv => whnf); first | (refine And.intro (by first | omega | (dsimp only [inK]; omega)) ?_) | with_reducible refine ld (slL hkl) ?_ | with_reducible refine ld (natsL rfl (by omega)) ?_ | refine br_t (by omega) ?_ | refine fun (K' : K3) hK' => ?_ | (refine hK' _ _ _ ?_; clear hK' K') | refine draw_auto tok mixed (by kernel_rfl) ?_)
          refine ⟨k + 1, [], by omega, by omega, ?_⟩
          rw [hT, hC]
          refine ⟨?_, ?_, injB_ent (p := [_, _, _, _]) (by omega) rfl rfl, rfl, by exact Nat.le_of_ble_eq_true rfl⟩
          · repeat (first | exact trivial | (refine And.intro (covS_syn (by rfl) rfl (by first | exact trivial | exact Nat.le_of_ble_eq_true rfl)) ?_))
          · repeat (first | (exact covL_ent (by omega) (fun k hk => by (try simp only [flatN, List.cons_append, List.nil_append]); (repeat (first | rw [find_skip (by omega)] | rw [find_hi (by omega) (by rfl)])))) | (refine And.intro (covE_id (Nat.le_of_ble_eq_true rfl) (by first | exact wf_ints _ _ | first | exact wf_sls _ _ _ (by omega) | exact wf_jobs _ _ | simp [C.wf]) rfl (by rfl)) ?_))
        · have hend' : ¬ (((bestF j i).2.getD k 0 : Nat) : Int) = ((j.getD k []).length : Nat) := by omega
          have hk12 := h12 k hkl
          have hlp := leadS_pos hjk.1 (show (bestF j i).2.getD k 0 < (j.getD k []).length by omega)
          have hm1 := mul_bd (a := (leadS (j.getD k []) ((bestF j i).2.getD k 0)).2.1) (b := (topS j (bestF j i).2 k).1.1) (A := 20000) (B := 20000) (by omega) (by omega) (by omega) (by omega)
          have hm2 := mul_bd (a := (topS j (bestF j i).2 k).1.2.1) (b := (leadS (j.getD k []) ((bestF j i).2.getD k 0)).1) (A := 20000) (B := 20000) (by omega) (by omega) (by omega) (by omega)
          by_cases ht : 0 < (topS j (bestF j i).2 k).1.1
          · have hch : chF j (bestF j i).2 k = ((topS j (bestF j i).2 k).2 : Nat) := if_pos ht
            have hc0 : ¬ (((topS j (bestF j i).2 k).2 : Nat) : Int) < 0 := by omega
            rw [hch]
            by_cases hcmp : (leadS (j.getD k []) ((bestF j i).2.getD k 0)).2.1 * (topS j (bestF j i).2 k).1.1 > (topS j (bestF j i).2 k).1.2.1 * (leadS (j.getD k []) ((bestF j i).2.getD k 0)).1
            · have hT := topS_yes (j := j) (nx := (bestF j i).2) (k := k) hlp.1 (by simp only [aboveB, Bool.or_eq_true, decide_eq_true_eq]; exact .inr hcmp)
              have hC : chF j (bestF j i).2 (k + 1) = (k : Nat) := by unfold chF; rw [hT, if_pos hlp.1]
              repeat ((conv => whnf); first | (refine And.intro (by first | omega | exact Nat.le_of_ble_eq_true rfl | (dsimp only [inK]; omega)) ?_) | with_reducible refine ld (slL hkl) ?_ | with_reducible refine ld (natsL rfl (by omega)) ?_ | refine Exists.intro _ (And.intro rfl ?_) | refine br_t (by omega) ?_ | refine br_f (by omega) ?_ | refine bs_f (by omega) ?_ | refine fun (K' : K3) hK' => ?_ | (refine hK' _ _ _ ?_; clear hK' K') | refine draw_auto tok mixed (by kernel_rfl) ?_ | refine HD_mk (fun _ h => CallK.val (R := [(0, some (1 + k))]) (rleadS_spec (j.getD k []) ((bestF j i).2.getD k 0) hk12 hle hjk.1) (by kernel_rfl) rfl (by simp [V.wf, A.wf, C.wf, V.i]) (roE_beach (by omega) (by ((try (conv => lhs; arg 1; whnf)); (repeat (first | rw [find_skip (by omega)] | rw [find_hi (by omega) (by rfl)])); exact entC_find hkl)) (.inr rfl)) rfl rfl (by simp [V.wf, A.wf, C.wf]) h) ?_ | with_reducible refine updK_ent (by omega) ?_)
              refine ⟨k + 1, [], by omega, by omega, ?_⟩
              rw [hT, hC]
              refine ⟨?_, ?_, injB_ent (p := [_, _, _, _]) (by omega) rfl rfl, rfl, by exact Nat.le_of_ble_eq_true rfl⟩
              · repeat (first | exact trivial | (refine And.intro (covS_syn (by rfl) rfl (by first | exact trivial | exact Nat.le_of_ble_eq_true rfl)) ?_))
              · repeat (first | (exact covL_ent (by omega) (fun k hk => by (try simp only [flatN, List.cons_append, List.nil_append]); (repeat (first | rw [find_skip (by omega)] | rw [find_hi (by omega) (by rfl)])))) | (refine And.intro (covE_id (Nat.le_of_ble_eq_true rfl) (by first | exact wf_ints _ _ | first | exact wf_sls _ _ _ (by omega) | exact wf_jobs _ _ | simp [C.wf]) rfl (by rfl)) ?_))
            · have hT := topS_no2 (j := j) (nx := (bestF j i).2) (k := k) (by simp only [aboveB, Bool.or_eq_false_iff, decide_eq_false_iff_not]; exact ⟨by omega, hcmp⟩)
              have hC : chF j (bestF j i).2 (k + 1) = ((topS j (bestF j i).2 k).2 : Nat) := by unfold chF; rw [hT, if_pos ht]
              repeat ((conv => whnf); first | (refine And.intro (by first | omega | exact Nat.le_of_ble_eq_true rfl | (dsimp only [inK]; omega)) ?_) | with_reducible refine ld (slL hkl) ?_ | with_reducible refine ld (natsL rfl (by omega)) ?_ | refine Exists.intro _ (And.intro rfl ?_) | refine br_t (by omega) ?_ | refine br_f (by omega) ?_ | refine bs_f (by omega) ?_ | refine fun (K' : K3) hK' => ?_ | (refine hK' _ _ _ ?_; clear hK' K') | refine draw_auto tok mixed (by kernel_rfl) ?_ | refine HD_mk (fun _ h => CallK.val (R := [(0, some (1 + k))]) (rleadS_spec (j.getD k []) ((bestF j i).2.getD k 0) hk12 hle hjk.1) (by kernel_rfl) rfl (by simp [V.wf, A.wf, C.wf, V.i]) (roE_beach (by omega) (by ((try (conv => lhs; arg 1; whnf)); (repeat (first | rw [find_skip (by omega)] | rw [find_hi (by omega) (by rfl)])); exact entC_find hkl)) (.inr rfl)) rfl rfl (by simp [V.wf, A.wf, C.wf]) h) ?_ | with_reducible refine updK_ent (by omega) ?_)
              refine ⟨k + 1, [], by omega, by omega, ?_⟩
              rw [hT, hC]
              refine ⟨?_, ?_, injB_ent (p := [_, _, _, _]) (by omega) rfl rfl, rfl, by exact Nat.le_of_ble_eq_true rfl⟩
              · repeat (first | exact trivial | (refine And.intro (covS_syn (by rfl) rfl (by first | exact trivial | exact Nat.le_of_ble_eq_true rfl)) ?_))
              · repeat (first | (exact covL_ent (by omega) (fun k hk => by (try simp only [flatN, List.cons_append, List.nil_append]); (repeat (first | rw [find_skip (by omega)] | rw [find_hi (by omega) (by rfl)])))) | (refine And.intro (covE_id (Nat.le_of_ble_eq_true rfl) (by first | exact wf_ints _ _ | first | exact wf_sls _ _ _ (by omega) | exact wf_jobs _ _ | simp [C.wf]) rfl (by rfl)) ?_))
          · have hch : chF j (bestF j i).2 k = -1 := if_neg ht
            have hc0 : (-1 : Int) < 0 := by omega
            have hT := topS_yes (j := j) (nx := (bestF j i).2) (k := k) hlp.1 (by simp only [aboveB, Bool.or_eq_true, decide_eq_true_eq]; exact .inl (by omega))
            have hC : chF j (bestF j i).2 (k + 1) = (k : Nat) := by unfold chF; rw [hT, if_pos hlp.1]
            rw [hch]
            repeat ((conv => whnf); first | (refine And.intro (by first | omega | exact Nat.le_of_ble_eq_true rfl | (dsimp only [inK]; omega)) ?_) | with_reducible refine ld (slL hkl) ?_ | with_reducible refine ld (natsL rfl (by omega)) ?_ | refine Exists.intro _ (And.intro rfl ?_) | refine br_t (by omega) ?_ | refine br_f (by omega) ?_ | refine bs_t (by omega) ?_ | refine fun (K' : K3) hK' => ?_ | (refine hK' _ _ _ ?_; clear hK' K') | refine draw_auto tok mixed (by kernel_rfl) ?_ | refine HD_mk (fun _ h => CallK.val (R := [(0, some (1 + k))]) (rleadS_spec (j.getD k []) ((bestF j i).2.getD k 0) hk12 hle hjk.1) (by kernel_rfl) rfl (by simp [V.wf, A.wf, C.wf, V.i]) (roE_beach (by omega) (by ((try (conv => lhs; arg 1; whnf)); (repeat (first | rw [find_skip (by omega)] | rw [find_hi (by omega) (by rfl)])); exact entC_find hkl)) (.inr rfl)) rfl rfl (by simp [V.wf, A.wf, C.wf]) h) ?_ | with_reducible refine updK_ent (by omega) ?_)
            refine ⟨k + 1, [], by omega, by omega, ?_⟩
            rw [hT, hC]
            refine ⟨?_, ?_, injB_ent (p := [_, _, _, _]) (by omega) rfl rfl, rfl, by exact Nat.le_of_ble_eq_true rfl⟩
            · repeat (first | exact trivial | (refine And.intro (covS_syn (by rfl) rfl (by first | exact trivial | exact Nat.le_of_ble_eq_true rfl)) ?_))
            · repeat (first | (exact covL_ent (by omega) (fun k hk => by (try simp only [flatN, List.cons_append, List.nil_append]); (repeat (first | rw [find_skip (by omega)] | rw [find_hi (by omega) (by rfl)])))) | (refine And.intro (covE_id (Nat.le_of_ble_eq_true rfl) (by first | exact wf_ints _ _ | first | exact wf_sls _ _ _ (by omega) | exact wf_jobs _ _ | simp [C.wf]) rfl (by rfl)) ?_))
      · have hkj : k = j.length := by omega
        subst hkj
        by_cases hlt : (bestF j i).1.length < manyN j j.length
        · obtain ⟨a1, a2, a3, a4⟩ := top_some hj hok hlt
          obtain ⟨t1, t2, t3⟩ := take_bd hj hok hlt
          have hch : chF j (bestF j i).2 j.length = ((topS j (bestF j i).2 j.length).2 : Nat) := if_pos a1
          rw [hch]
          repeat ((conv => whnf); first | refine br_f (by omega) ?_ | refine fun (K' : K3) hK' => ?_ | (refine hK' _ _ _ ?_; clear hK' K'))
          refine Tri.loop (γ := Nat) (fun m => m ≤ takeS j (bestF j i).2) (fun m => [(0, V.c (.sl 0 j.length)), (3, V.c (.sl 33 ((bestF j i).1.length + m))), (4, V.c (.sl 32 j.length)), (5, V.i ((topS j (bestF j i).2 j.length).2 : Nat)), (6, V.c (.ptr 34 0))])
            (fun m => ⟨34, .own 65, [C.i (topS j (bestF j i).2 j.length).1.2.1, C.i (topS j (bestF j i).2 j.length).1.1, C.i (topS j (bestF j i).2 j.length).1.2.2]⟩ :: ⟨33, .vec 3 1, (natsC (midF j i m).1).map C.i⟩ :: ⟨32, .vec 3 1, (natsC (midF j i m).2).map C.i⟩ :: ⟨0, .ro 1, slsC 1 j⟩ :: entC 1 j) 35 (fun m => takeS j (bestF j i).2 - m) 0 (R0 := []) ?_ ?_ ?_
          · omega
          · rw [midF_zero]
            refine ⟨?_, ?_, injB_ent (p := [_, _, _, _]) (by omega) rfl rfl, rfl, by exact Nat.le_of_ble_eq_true rfl⟩
            · repeat (first | exact trivial | (refine And.intro (covS_syn (by rfl) rfl (by first | exact trivial | exact Nat.le_of_ble_eq_true rfl)) ?_))
            · repeat (first | (exact covL_ent (by omega) (fun k hk => by (try simp only [flatN, List.cons_append, List.nil_append]); (repeat (first | rw [find_skip (by omega)] | rw [find_hi (by omega) (by rfl)])))) | (refine And.intro (covE_id (Nat.le_of_ble_eq_true rfl) (by first | exact wf_ints _ _ | first | exact wf_sls _ _ _ (by omega) | exact wf_jobs _ _ | simp [C.wf]) rfl (by rfl)) ?_))
          · rintro m hm
            refine vc_ok tok ?_
            obtain ⟨ml1, ml2⟩ := midF_len (j := j) (i := i) (m := m)
            have hmg := midF_get (j := j) (i := i) (m := m) (by omega)
            have hnm2 : ((natsC (midF j i m).2).map C.i).length = j.length := by rw [List.length_map, natsC_len]; omega
            have hol : ((natsC (midF j i m).1).map C.i).length = (midF j i m).1.length := by rw [List.length_map, natsC_len]
            have hld := natsL (l := (midF j i m).2) (k := (topS j (bestF j i).2 j.length).2) rfl (by omega)
            rw [hmg] at hld
            by_cases hmt : m < takeS j (bestF j i).2
            · have hbl := (hj.jobs _ a2).2
              repeat ((conv => whnf); first | (refine And.intro (by first | omega | exact Nat.le_of_ble_eq_true rfl | (dsimp only [inK]; omega) | (simp only [mulS_eq]; omega) | (exact ⟨rfl, rfl, rfl, Nat.le_of_ble_eq_true rfl, by dsimp only; omega, by exact Nat.le_of_ble_eq_true rfl, by omega, Nat.le_of_ble_eq_true rfl⟩)) ?_) | with_reducible refine ld (hld) ?_ | refine Exists.intro _ (And.intro rfl ?_) | refine br_t (by omega) ?_ | refine fun (K' : K3) hK' => ?_ | (refine hK' _ _ _ ?_; clear hK' K') | refine draw_auto tok mixed (by kernel_rfl) ?_ | with_reducible refine updK_ent (by omega) ?_ | with_reducible refine rmK_ent (by omega) ?_)
              refine ⟨m + 1, [(33, some 36)], by omega, by omega, ?_⟩
              refine ⟨?_, ?_, injB_entR (p := [_, _, _, _]) rfl (by omega) rfl rfl, rfl, by exact Nat.le_of_ble_eq_true rfl⟩
              · repeat (first | exact trivial | (refine And.intro (covS_syn (by rfl) rfl (by first | exact trivial | exact Nat.le_of_ble_eq_true rfl)) ?_))
              · repeat (first | (exact covL_entR rfl (by omega) (by omega) (fun k hk => by (try simp only [flatN, List.cons_append, List.nil_append]); (repeat (first | rw [find_skip (by omega)] | rw [find_hi (by omega) (by rfl)])))) | refine And.intro (covE_some rfl (Nat.le_of_ble_eq_true rfl) (wf_sls _ _ _ (by omega)) rfl (ren_sls rfl (by omega))) ?_ | (refine And.intro (covE_some rfl (Nat.le_of_ble_eq_true rfl) (by first | exact wf_ints _ _ | simp [C.wf]) rfl (by first | (refine (ren_ints _ _).trans (congrArg some ?_); exact midF_row) | (refine (ren_ints _ _).trans (congrArg some ?_); exact (midF_set rfl (by omega)).symm) | rfl)) ?_))
            · have hme : m = takeS j (bestF j i).2 := by omega
              subst hme
              repeat ((conv => whnf); first | (refine And.intro (by first | omega | exact Nat.le_of_ble_eq_true rfl | (dsimp only [inK]; omega)) ?_) | with_reducible refine ld (hld) ?_ | refine Exists.intro _ (And.intro rfl ?_) | refine br_f (by omega) ?_ | refine fun (K' : K3) hK' => ?_ | (refine hK' _ _ _ ?_; clear hK' K') | refine draw_auto tok mixed (by kernel_rfl) ?_)
              refine ⟨i + 1, [], trivial, ?_, ?_⟩
              · rw [← midF_last hlt, midF_len.1]; omega
              · rw [← midF_last hlt, midF_len1]
                refine ⟨?_, ?_, injB_ent (p := [_, _, _]) (by omega) rfl rfl, rfl, by exact Nat.le_of_ble_eq_true rfl⟩
                · repeat (first | exact trivial | refine And.intro (covS_syn (by rfl) rfl (by exact Nat.le_of_ble_eq_true rfl)) ?_)
                · repeat (first | (exact covL_ent (by omega) (fun k hk => by (try simp only [flatN, List.cons_append, List.nil_append]); (repeat (first | rw [find_skip (by omega)] | rw [find_hi (by omega) (by rfl)])))) | (refine And.intro (covE_id (Nat.le_of_ble_eq_true rfl) (by first | exact wf_ints _ _ | first | exact wf_sls _ _ _ (by omega) | exact wf_jobs _ _) rfl (by rfl)) ?_))
        · have hnone : ¬ 0 < (topS j (bestF j i).2 j.length).1.1 := by
            rcases topS_cases hj hok.nx j.length (Nat.le_refl _) with ⟨e, _⟩ | ⟨a1, a2, a3, a4⟩
            · rw [e]; simp
            · exfalso
              refine hlt ?_
              have h1 := sum_le_many hok.nx
              rw [hok.sum]
              rcases Nat.lt_or_ge (bestF j i).2.sum (manyN j j.length) with h | h
              · exact h
              · have := h1.2.1 (by omega) _ (by omega : (topS j (bestF j i).2 j.length).2 < j.length)
                omega
          have hch : chF j (bestF j i).2 j.length = -1 := if_neg hnone
          rw [hch]
          repeat ((conv => whnf); first | refine br_t (by omega) ?_ | refine br_f (by omega) ?_ | refine fun (K' : K3) hK' => ?_ | (refine hK' _ _ _ ?_; clear hK' K'))
          rw [← bestO_of hj hlt]
          exact .inr ⟨33, by rw [natsC_len]; rfl, rfl⟩
theorem rbestE_spec (j : Coast) (hj : Sized j) : Spec Try.prog 33 [V.c (.sl 0 j.length)] (⟨0, .ro 1, slsC 1 j⟩ :: entC 1 j) 32 (fun v L' _ => intsX (if validL j then natsC (bestO j) else []) (if validL j then 0 else 60) v L') := by
  have hj20 := hj.len
  have h4 := rvalid_spec j hj
  cases hv : validL j with
  | true =>
    rw [hv] at h4
    have hm := validL_many hv
    have hc := validL_coast hj hv
    refine Spec.of tok Try.func33 rfl rfl rfl fun n0 cx => vc_ok tok ?_
    repeat ((conv => whnf); first | refine Exists.intro _ (And.intro rfl ?_) | refine fun (K' : K3) hK' => ?_ | (refine hK' _ _ _ ?_; clear hK' K') | refine CallK.val (R := []) h4 (by kernel_rfl) rfl (by simp [V.wf, A.wf, C.wf]) (HasC.ro ⟨rfl, fun k hk => by (repeat (first | rw [find_skip (by omega)] | rw [find_hi (by omega) (by rfl)])); exact entC_find hk⟩ hj) (injC hj) rfl trivial ?_ | refine CallK.ints (R := []) (rbest_spec j hc hj (by omega)) (by kernel_rfl) rfl (by simp [V.wf, A.wf, C.wf]) (HasC.ro ⟨rfl, fun k hk => by (repeat (first | rw [find_skip (by omega)] | rw [find_hi (by omega) (by rfl)])); exact entC_find hk⟩ hj) (injC hj) ?_ | refine br_bf (Eq.refl false) ?_ | refine CallK.m ?_)
    exact .inr ⟨32, rfl, rfl⟩
  | false =>
    rw [hv] at h4
    refine Spec.of tok Try.func33 rfl rfl rfl fun n0 cx => vc_ok tok ?_
    repeat ((conv => whnf); first | refine Exists.intro _ (And.intro rfl ?_) | refine fun (K' : K3) hK' => ?_ | (refine hK' _ _ _ ?_; clear hK' K') | refine CallK.val (R := []) h4 (by kernel_rfl) rfl (by simp [V.wf, A.wf, C.wf]) (HasC.ro ⟨rfl, fun k hk => by (repeat (first | rw [find_skip (by omega)] | rw [find_hi (by omega) (by rfl)])); exact entC_find hk⟩ hj) (injC hj) rfl trivial ?_ | refine br_bt (Eq.refl true) ?_ | refine CallK.m ?_)
    exact .inl ⟨rfl, rfl⟩
end Go.Proofs.Ytjijjncddjkdlaa

/- Shore: the reference's Bound. -/
namespace Go.Proofs.Ytjijjncddjkdlaa
open Go.RowKit
set_option linter.unusedVariables false
set_option linter.unusedSimpArgs false
theorem sumZ_first {F : Nat → Int} : ∀ {n : Nat}, sumZ (n + 1) F = F 0 + sumZ n (fun k => F (k + 1))
  | 0 => by simp [sumZ]
  | n + 1 => by rw [sumZ, sumZ_first (n := n)]; simp only [sumZ]; omega
theorem minF_symm (j : Coast) (b i c k : Nat) : minF j b i c k = minF j c k b i := by
  unfold minF; split <;> split <;> omega
def rtailF (j : Coast) (b i : Nat) : Nat → Int := fun k => (jobA j b i).1 * (jobA j b (i + 1 + k)).2
def rpairF (j : Coast) (b i : Nat) : Nat → Int := fun q => pairF j b i (b + 1 + q)
def rrowF (j : Coast) (b : Nat) : Nat → Int := fun i => (jobA j b i).2 * (jobA j b i).1 + sumZ ((j.getD b []).length - (i + 1)) (rtailF j b i) + sumZ (j.length - (b + 1)) (rpairF j b i)
def rbeachF (j : Coast) : Nat → Int := fun b => sumZ (j.getD b []).length (rrowF j b)
def GF (j : Coast) (b c : Nat) : Int := sumZ (j.getD b []).length fun i => pairF j b i c
theorem GF_symm (j : Coast) (b c : Nat) : GF j b c = GF j c b := by
  unfold GF pairF
  rw [sumZ_comm]
  exact sumZ_congr fun i _ => sumZ_congr fun k _ => minF_symm j _ _ _ _
theorem tri_up {G : Nat → Nat → Int} (hG : ∀ a b, G a b = G b a) : ∀ n, sumZ n (fun b => sumZ (n - (b + 1)) (fun q => G b (b + 1 + q))) = sumZ n (fun b => sumZ b (G b))
  | 0 => rfl
  | n + 1 => by
    have ih := tri_up hG n
    have e : ∀ b, b < n → sumZ (n + 1 - (b + 1)) (fun q => G b (b + 1 + q)) = sumZ (n - (b + 1)) (fun q => G b (b + 1 + q)) + G n b := fun b hb => by
      rw [show n + 1 - (b + 1) = (n - (b + 1)) + 1 by omega, sumZ, show b + 1 + (n - (b + 1)) = n by omega, hG b n]
    simp only [sumZ]
    rw [sumZ_congr e, sumZ_add, ih, show n + 1 - (n + 1) = 0 by omega]
    simp [sumZ]
theorem rbound_eq (j : Coast) : sumZ j.length (rbeachF j) = boundO j := by
  have hrow : ∀ b i, i < (j.getD b []).length → (jobA j b i).2 * (jobA j b i).1 + sumZ ((j.getD b []).length - (i + 1)) (rtailF j b i) = sumZ ((j.getD b []).length - i) (tailF j b i) := fun b i hi => by
    obtain ⟨n, hn⟩ : ∃ n, (j.getD b []).length - i = n + 1 := ⟨(j.getD b []).length - i - 1, by omega⟩
    rw [hn, sumZ_first, show (j.getD b []).length - (i + 1) = n by omega]
    have e : sumZ n (rtailF j b i) = sumZ n (fun k => tailF j b i (k + 1)) := sumZ_congr fun k _ => by
      unfold rtailF tailF; rw [show i + 1 + k = i + (k + 1) by omega]
    rw [e, Int.mul_comm]; rfl
  have h1 : ∀ b, rbeachF j b = sumZ (j.getD b []).length (fun i => sumZ ((j.getD b []).length - i) (tailF j b i)) + sumZ (j.length - (b + 1)) (fun q => GF j b (b + 1 + q)) := fun b => by
    unfold rbeachF
    rw [sumZ_congr (G := fun i => sumZ ((j.getD b []).length - i) (tailF j b i) + sumZ (j.length - (b + 1)) (rpairF j b i)) fun i hi => by
      unfold rrowF; rw [hrow b i hi]]
    rw [sumZ_add, sumZ_comm (F := fun i q => rpairF j b i q)]
    rfl
  have h2 : ∀ b, beachF j b = sumZ (j.getD b []).length (fun i => sumZ ((j.getD b []).length - i) (tailF j b i)) + sumZ b (GF j b) := fun b => by
    unfold beachF
    rw [show rowF j b = fun i => sumZ ((j.getD b []).length - i) (tailF j b i) + sumZ b (pairF j b i) from rfl]
    rw [sumZ_add, sumZ_comm (F := fun i c => pairF j b i c)]
    rfl
  unfold boundO
  rw [sumZ_congr (fun b _ => h1 b), sumZ_congr (G := fun b => sumZ (j.getD b []).length (fun i => sumZ ((j.getD b []).length - i) (tailF j b i)) + sumZ b (GF j b)) (fun b _ => h2 b), sumZ_add, sumZ_add, tri_up (GF_symm j)]
end Go.Proofs.Ytjijjncddjkdlaa

