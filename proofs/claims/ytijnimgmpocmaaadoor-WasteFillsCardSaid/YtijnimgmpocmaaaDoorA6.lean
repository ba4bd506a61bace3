/- Texts of the proof, part 6: F4, L3, D1. -/
import Derived.Test.YtijnimgmpocmaaaDoorA5
import Derived.WalkKit
import Derived.Below
import Derived.Lib.TrailingZeros
import Derived.Laws.OwnMore
import Derived.Maps.AppendAt
import Derived.Laws.IdiomCopy
import Derived.Laws.CopyRow
import Derived.IntWalk
import Derived.StillTail
import Derived.Scope
import Derived.ChangeKeysEq
import Derived.Laws.Small
import Derived.OrdersIn
import Derived.TacticsIn
import Derived.OwnWalkIn
import Derived.RangeFuncNested
import Derived.RangeFuncLeaves
import Derived.RangeFuncRecord
import Derived.Maps.Keyed
import Derived.Maps.RangeRun
import Derived.DeepKeys4
import Derived.Test.YtijnimgmpocmaaaDoorRows
import Derived.KernelRfl
import Derived.ProofKit
import Derived.OpenShut
import Derived.Lib.SmallJoins
import Derived.Deep.Slices
import Derived.Shelf.Spec.TrailingZeros
import Derived.LaidMore
import Derived.Stop.Joined
/- Waste: Clears, and the document's Right and Clears. -/
namespace Go.Proofs.YtijnimgmpocmaaaDoor
open Go.RowKit
set_option linter.unusedVariables false
set_option linter.unusedSimpArgs false
/-- The order of loading that a filling clears. -/
def clrL (qs : List (Nat × Nat)) (l : List Int) : List Bool := qs.map fun p => decide (l.getD p.1 0 < l.getD p.2 0)
theorem clrL_len (qs : List (Nat × Nat)) (l : List Int) : (clrL qs l).length = qs.length := by simp [clrL]
theorem clrL_take {qs : List (Nat × Nat)} {l : List Int} {k : Nat} (h : k < qs.length) : (clrL (qs.take k) l).map C.bool ++ [C.bool (decide (l.getD (qs.getD k (0, 0)).1 0 < l.getD (qs.getD k (0, 0)).2 0))] = (clrL (qs.take (k + 1)) l).map C.bool := by
  have e : qs[k]?.toList = [qs.getD k (0, 0)] := by rw [List.getD_eq_getElem?_getD, List.getElem?_eq_getElem h]; rfl
  rw [List.take_add_one, e]
  simp [clrL]
section
variable (n : Nat) (qs : List (Nat × Nat)) (l : List Int) (hk : Knd n qs) (hll : l.length ≤ 300)
set_option maxRecDepth 10000 in
set_option maxHeartbeats 4000000 in
include hk hll in
theorem Clears_err (Er : Int) (he : (isF n l = false ∧ Er = 71) ∨ (isF n l = true ∧ rgtP qs l = false ∧ Er = 5)) : Spec Tryd.prog 19 [kV n (castP qs), V.c (.sl 1 l.length)] [⟨0, .ro 2, cellC (castP qs)⟩, ⟨1, .ro 0, l.map C.i⟩] 2 (Is (V.tup [A.c .nil, A.c (C.i Er)])) := by
  have hnt := newTable_spec n qs hk
  have htl := tabS_len n qs
  have hfi := filled_spec (tabS n qs) n l hll hk.rng.2
  refine Spec.of tok Tryd.func19 rfl rfl rfl fun n0 cx => vc_ok tok ?_
  rcases he with ⟨hf, rfl⟩ | ⟨hf, hr, rfl⟩
  · rw [hf] at hfi
    repeat ((conv => whnf); first | (refine And.intro (by first | omega | exact Nat.le_of_ble_eq_true rfl | (dsimp only [inK]; omega) | (simp only [mulS_eq]; omega) | (simp only [mulS_eq, setL_length]; omega) | (simp only [setL_length]; omega) | (simp only [setL_length, List.length_map]; omega) | (exact ⟨by omega, by omega, by first | exact Nat.le_of_ble_eq_true rfl | (dsimp only; omega) | (simp only [setL_length]; omega) | (simp only [setL_length, List.length_map]; omega)⟩) | (exact ⟨by omega, by first | rfl | omega, by omega, Nat.le_of_ble_eq_true rfl, Nat.le_of_ble_eq_true rfl⟩) | (exact ⟨rfl, rfl, rfl, Nat.le_of_ble_eq_true rfl, by first | rfl | omega | exact Nat.le_of_ble_eq_true rfl | (dsimp only; omega) | (simp; done) | (simp; omega), by first | rfl | omega | exact Nat.le_of_ble_eq_true rfl | (dsimp only; omega) | (simp; done) | (simp; omega), by omega, Nat.le_of_ble_eq_true rfl⟩) | exact Eq.refl true) ?_) | refine Exists.intro _ (And.intro rfl ?_) | refine And.intro (And.intro rfl (chk_rowI _ _ _ _)) ?_ | refine br_t (by omega) ?_ | refine br_f (by omega) ?_ | refine bs_t (by omega) ?_ | refine bs_f (by omega) ?_ | refine fun (K' : K3) hK' => ?_ | (refine hK' _ _ _ ?_; clear hK' K') | refine draw_auto tok mixed (by kernel_rfl) ?_ | refine CallK.rowE (R := []) (flat_u _) hnt (by kernel_rfl) rfl (by simp [V.wf, A.wf, C.wf]) ⟨roE_f (flat_c _) (l := 0) rfl (by omega) rfl (.inr rfl), trivial⟩ rfl ?_ | refine CallK.val (R := [(0, some 3)]) hfi (by kernel_rfl) rfl (by simp [V.wf, A.wf, C.wf]) ⟨roE_f (flat_u _) (l := 3) rfl (by omega) rfl (.inl rfl), roE_f (flat_i _) (l := 1) rfl (by omega) rfl (.inl rfl), trivial⟩ rfl rfl trivial ?_ | refine bs_bt (Eq.refl true) ?_ | refine bs_bf (Eq.refl false) ?_ | refine br_bt (Eq.refl true) ?_ | refine br_bf (Eq.refl false) ?_ | refine CallK.m ?_ | refine Two.l ?_ | refine And.intro (And.intro rfl rfl) ?_)
    intro ρ; rfl
  · have hln := isF_len hf
    have hri := right_spec (tabS n qs) n l htl hk.rng.2 (tabS_lt hk.ok) hln
    rw [rgt_eq hk, hr] at hri
    rw [hf] at hfi
    rw [← hln] at hri hfi hnt ⊢
    repeat ((conv => whnf); first | (refine And.intro (by first | omega | exact Nat.le_of_ble_eq_true rfl | (dsimp only [inK]; omega) | (simp only [mulS_eq]; omega) | (simp only [mulS_eq, setL_length]; omega) | (simp only [setL_length]; omega) | (simp only [setL_length, List.length_map]; omega) | (exact ⟨by omega, by omega, by first | exact Nat.le_of_ble_eq_true rfl | (dsimp only; omega) | (simp only [setL_length]; omega) | (simp only [setL_length, List.length_map]; omega)⟩) | (exact ⟨by omega, by first | rfl | omega, by omega, Nat.le_of_ble_eq_true rfl, Nat.le_of_ble_eq_true rfl⟩) | (exact ⟨rfl, rfl, rfl, Nat.le_of_ble_eq_true rfl, by first | rfl | omega | exact Nat.le_of_ble_eq_true rfl | (dsimp only; omega) | (simp; done) | (simp; omega), by first | rfl | omega | exact Nat.le_of_ble_eq_true rfl | (dsimp only; omega) | (simp; done) | (simp; omega), by omega, Nat.le_of_ble_eq_true rfl⟩) | exact Eq.refl true) ?_) | refine Exists.intro _ (And.intro rfl ?_) | refine And.intro (And.intro rfl (chk_rowI _ _ _ _)) ?_ | refine br_t (by omega) ?_ | refine br_f (by omega) ?_ | refine bs_t (by omega) ?_ | refine bs_f (by omega) ?_ | refine fun (K' : K3) hK' => ?_ | (refine hK' _ _ _ ?_; clear hK' K') | refine draw_auto tok mixed (by kernel_rfl) ?_ | refine CallK.rowE (R := []) (flat_u _) hnt (by kernel_rfl) rfl (by simp [V.wf, A.wf, C.wf]) ⟨roE_f (flat_c _) (l := 0) rfl (by omega) rfl (.inr rfl), trivial⟩ rfl ?_ | refine CallK.val (R := [(0, some 3)]) hfi (by kernel_rfl) rfl (by simp [V.wf, A.wf, C.wf]) ⟨roE_f (flat_u _) (l := 3) rfl (by omega) rfl (.inl rfl), roE_f (flat_i _) (l := 1) rfl (by omega) rfl (.inl rfl), trivial⟩ rfl rfl trivial ?_ | refine CallK.val (R := [(0, some 3)]) hri (by kernel_rfl) rfl (by simp [V.wf, A.wf, C.wf]) ⟨roE_f (flat_u _) (l := 3) rfl (by omega) rfl (.inl rfl), roE_f (flat_i _) (l := 1) rfl (by omega) rfl (.inl rfl), trivial⟩ rfl rfl trivial ?_ | refine bs_bt (Eq.refl true) ?_ | refine bs_bf (Eq.refl false) ?_ | refine br_bt (Eq.refl true) ?_ | refine br_bf (Eq.refl false) ?_ | refine CallK.m ?_ | refine Two.l ?_ | refine And.intro (And.intro rfl rfl) ?_)
    intro ρ; rfl
set_option maxRecDepth 10000 in
set_option maxHeartbeats 8000000 in
include hk hll in
theorem Clears_ok (hf : isF n l = true) (hr : rgtP qs l = true) : Spec Tryd.prog 19 [kV n (castP qs), V.c (.sl 1 l.length)] [⟨0, .ro 2, cellC (castP qs)⟩, ⟨1, .ro 0, l.map C.i⟩] 2 (fun v L' _ => optE 4 1 qs.length ((clrL qs l).map C.bool) 0 v L') := by
  have hnt := newTable_spec n qs hk
  have htl := tabS_len n qs
  have hql := knd_len hk
  have hpl := castP_len qs
  have hcl := cellC_len (castP qs)
  have hfi := filled_spec (tabS n qs) n l hll hk.rng.2
  have hln := isF_len hf
  have hri := right_spec (tabS n qs) n l htl hk.rng.2 (tabS_lt hk.ok) hln
  have hlm : (l.map C.i).length = l.length := List.length_map _
  have hn := hk.rng
  rw [rgt_eq hk, hr] at hri
  rw [hf] at hfi
  have hget := fun {k : Nat} (h : k < qs.length) => hk.get h
  rw [← hln] at hri hfi hnt hget ⊢
  refine Spec.of tok Tryd.func19 rfl rfl rfl fun n0 cx => vc_ok tok ?_
  repeat ((conv => whnf); first | (refine And.intro (by first | omega | exact Nat.le_of_ble_eq_true rfl | (dsimp only [inK]; omega) | (simp only [mulS_eq]; omega) | (simp only [mulS_eq, setL_length]; omega) | (simp only [setL_length]; omega) | (simp only [setL_length, List.length_map]; omega) | (exact ⟨by omega, by omega, by first | exact Nat.le_of_ble_eq_true rfl | (dsimp only; omega) | (simp only [setL_length]; omega) | (simp only [setL_length, List.length_map]; omega)⟩) | (exact ⟨by omega, by first | rfl | omega, by omega, Nat.le_of_ble_eq_true rfl, Nat.le_of_ble_eq_true rfl⟩) | (exact ⟨rfl, rfl, rfl, Nat.le_of_ble_eq_true rfl, by first | rfl | omega | exact Nat.le_of_ble_eq_true rfl | (dsimp only; omega) | (simp; done) | (simp; omega), by first | rfl | omega | exact Nat.le_of_ble_eq_true rfl | (dsimp only; omega) | (simp; done) | (simp; omega), by omega, Nat.le_of_ble_eq_true rfl⟩) | exact Eq.refl true) ?_) | refine Exists.intro _ (And.intro rfl ?_) | refine And.intro (And.intro rfl (chk_rowI _ _ _ _)) ?_ | refine br_t (by omega) ?_ | refine br_f (by omega) ?_ | refine bs_t (by omega) ?_ | refine bs_f (by omega) ?_ | refine fun (K' : K3) hK' => ?_ | (refine hK' _ _ _ ?_; clear hK' K') | refine draw_auto tok mixed (by kernel_rfl) ?_ | refine CallK.rowE (R := []) (flat_u _) hnt (by kernel_rfl) rfl (by simp [V.wf, A.wf, C.wf]) ⟨roE_f (flat_c _) (l := 0) rfl (by omega) rfl (.inr rfl), trivial⟩ rfl ?_ | refine CallK.val (R := [(0, some 3)]) hfi (by kernel_rfl) rfl (by simp [V.wf, A.wf, C.wf]) ⟨roE_f (flat_u _) (l := 3) rfl (by omega) rfl (.inl rfl), roE_f (flat_i _) (l := 1) rfl (by omega) rfl (.inl rfl), trivial⟩ rfl rfl trivial ?_ | refine CallK.val (R := [(0, some 3)]) hri (by kernel_rfl) rfl (by simp [V.wf, A.wf, C.wf]) ⟨roE_f (flat_u _) (l := 3) rfl (by omega) rfl (.inl rfl), roE_f (flat_i _) (l := 1) rfl (by omega) rfl (.inl rfl), trivial⟩ rfl rfl trivial ?_ | refine bs_bt (Eq.refl true) ?_ | refine bs_bf (Eq.refl false) ?_ | refine br_bt (Eq.refl true) ?_ | refine br_bf (Eq.refl false) ?_ | refine CallK.m ?_ | refine Two.l ?_ | refine And.intro (And.intro rfl rfl) ?_)
  refine Tri.loop (γ := Nat) (fun k => k ≤ qs.length) (fun k => [(1, V.c (.sl 1 l.length)), (2, V.c (.ptr 2 0)), (4, V.c .nil), (5, V.i 0), (8, V.c (.sl 4 k)), (31, V.c (.sl 0 (castP qs).length)), (32, V.i (castP qs).length), (33, V.i (k : Nat))])
    (fun k => [⟨4, .vec 4 1, (clrL (qs.take k) l).map C.bool⟩, ⟨2, .own 24, [C.i l.length, .sl 0 (castP qs).length]⟩, ⟨0, .ro 2, cellC (castP qs)⟩, ⟨1, .ro 0, l.map C.i⟩]) 5 (fun k => qs.length - k) 0 (R0 := [(4, none)]) ?_ ?_ ?_
  · omega
  · skip
    refine ⟨?_, ?_, rfl, rfl, by first | exact Nat.le_of_ble_eq_true rfl | exact Nat.le_refl _ | omega⟩
    · repeat (first | exact trivial | (refine And.intro (covS_syn (by rfl) rfl (by first | exact trivial | exact Nat.le_of_ble_eq_true rfl | exact hy | exact (fun p hp => nomatch hp) | (show (_ : Nat) < _; omega))) ?_) | refine And.intro (covS_bool rfl rfl (by rfl)) ?_)
    · repeat (first | exact trivial | refine And.intro (covE_s (sim_c _) rfl (Nat.le_of_ble_eq_true rfl) rfl rfl) ?_ | refine And.intro (covE_nil rfl (Nat.le_of_ble_eq_true rfl) rfl rfl) ?_ | (refine And.intro (covE_some rfl (Nat.le_of_ble_eq_true rfl) (by first | exact wf_ints _ _ | exact wf_bools _ _ | first | exact wf_us _ _ | exact wf_cells _ _ | exact wf_bools _ _ | (simp [C.wf]; done) | simp [C.wf]) rfl (by first | exact ren_ints _ _ | exact ren_bools _ _ | exact ren_shares _ _ | rfl)) ?_))
  · intro k hkk
    refine vc_ok tok ?_
    by_cases hlt : k < qs.length
    · have hld := cellT (l := castP qs) (k := k) rfl (by omega)
      change takeC (cellC (castP qs)) (mulS ((k : Nat) : Int).toNat 2) 2 = some [C.i ((castP qs).getD k cz).1, C.i ((castP qs).getD k cz).2] at hld
      rw [castP_get hlt] at hld
      have hsucc := clrL_take (l := l) hlt
      have hpq := hget hlt
      obtain ⟨p, hp⟩ : ∃ p, p = qs.getD k (0, 0) := ⟨_, rfl⟩
      rw [← hp] at hld hsucc hpq
      obtain ⟨a, b⟩ := p
      simp only at hld hsucc hpq
      have hla : (l.map C.i)[mulS ((a : Nat) : Int).toNat 1]? = some (C.i (l.getD a 0)) := intLz rfl (by omega)
      have hlb : (l.map C.i)[mulS ((b : Nat) : Int).toNat 1]? = some (C.i (l.getD b 0)) := intLz rfl (by omega)
      have hcm : ((clrL (qs.take k) l).map C.bool).length = k := by rw [List.length_map, clrL_len, List.length_take]; omega
      repeat ((conv => whnf); first | (refine And.intro (by first | omega | exact Nat.le_of_ble_eq_true rfl | (dsimp only [inK]; omega) | (simp only [mulS_eq]; omega) | (simp only [mulS_eq, setL_length]; omega) | (simp only [setL_length]; omega) | (simp only [setL_length, List.length_map]; omega) | (exact ⟨by omega, by omega, by first | exact Nat.le_of_ble_eq_true rfl | (dsimp only; omega) | (simp only [setL_length]; omega) | (simp only [setL_length, List.length_map]; omega)⟩) | (exact ⟨by omega, by first | rfl | omega, by omega, Nat.le_of_ble_eq_true rfl, Nat.le_of_ble_eq_true rfl⟩) | (exact ⟨rfl, rfl, rfl, Nat.le_of_ble_eq_true rfl, by first | rfl | omega | exact Nat.le_of_ble_eq_true rfl | (dsimp only; omega) | (simp; done) | (simp; omega), by first | rfl | omega | exact Nat.le_of_ble_eq_true rfl | (dsimp only; omega) | (simp; done) | (simp; omega), by omega, Nat.le_of_ble_eq_true rfl⟩) | exact Eq.refl true) ?_) | with_reducible refine ld (hld) ?_ | with_reducible refine ld (hla) ?_ | with_reducible refine ld (hlb) ?_ | refine Exists.intro _ (And.intro rfl ?_) | refine And.intro (And.intro rfl (chk_rowI _ _ _ _)) ?_ | refine br_t (by omega) ?_ | refine br_f (by omega) ?_ | refine bs_t (by omega) ?_ | refine bs_f (by omega) ?_ | refine fun (K' : K3) hK' => ?_ | (refine hK' _ _ _ ?_; clear hK' K') | refine draw_kill [4] tok mixed (by decide +kernel) ?_ | refine draw_auto tok mixed (by kernel_rfl) ?_ | refine And.intro (And.intro rfl (chk_s hsucc (sim_b _) _ _ _)) ?_ | refine bs_bt (Eq.refl true) ?_ | refine bs_bf (Eq.refl false) ?_ | refine br_bt (Eq.refl true) ?_ | refine br_bf (Eq.refl false) ?_ | refine CallK.m ?_ | refine Two.l ?_ | refine And.intro (And.intro rfl rfl) ?_)
      refine ⟨k + 1, [(4, some 7)], by omega, by omega, ?_⟩
      refine ⟨?_, ?_, rfl, rfl, by first | exact Nat.le_of_ble_eq_true rfl | exact Nat.le_refl _ | omega⟩
      · repeat (first | exact trivial | (refine And.intro (covS_syn (by first | rfl | (refine congrArg some (congrArg V.i ?_); omega)) rfl (by first | exact trivial | exact Nat.le_of_ble_eq_true rfl | exact hy | exact (fun p hp => nomatch hp) | (show (_ : Nat) < _; omega))) ?_) | refine And.intro (covS_bool rfl rfl (by rfl)) ?_)
      · repeat (first | exact trivial | refine And.intro (covE_s (sim_b _) rfl (Nat.le_of_ble_eq_true rfl) rfl hsucc) ?_ | refine And.intro (covE_s (sim_c _) rfl (Nat.le_of_ble_eq_true rfl) rfl rfl) ?_ | refine And.intro (covE_nil rfl (Nat.le_of_ble_eq_true rfl) rfl rfl) ?_ | (refine And.intro (covE_some rfl (Nat.le_of_ble_eq_true rfl) (by first | exact wf_ints _ _ | exact wf_bools _ _ | first | exact wf_us _ _ | exact wf_cells _ _ | exact wf_bools _ _ | (simp [C.wf]; done) | simp [C.wf]) rfl (by first | exact ren_ints _ _ | exact ren_bools _ _ | exact ren_shares _ _ | rfl)) ?_))
    · obtain rfl : k = qs.length := by omega
      rw [List.take_length]
      repeat ((conv => whnf); first | (refine And.intro (by first | omega | exact Nat.le_of_ble_eq_true rfl | (dsimp only [inK]; omega) | (simp only [mulS_eq]; omega) | (simp only [mulS_eq, setL_length]; omega) | (simp only [setL_length]; omega) | (simp only [setL_length, List.length_map]; omega) | (exact ⟨by omega, by omega, by first | exact Nat.le_of_ble_eq_true rfl | (dsimp only; omega) | (simp only [setL_length]; omega) | (simp only [setL_length, List.length_map]; omega)⟩) | (exact ⟨by omega, by first | rfl | omega, by omega, Nat.le_of_ble_eq_true rfl, Nat.le_of_ble_eq_true rfl⟩) | (exact ⟨rfl, rfl, rfl, Nat.le_of_ble_eq_true rfl, by first | rfl | omega | exact Nat.le_of_ble_eq_true rfl | (dsimp only; omega) | (simp; done) | (simp; omega), by first | rfl | omega | exact Nat.le_of_ble_eq_true rfl | (dsimp only; omega) | (simp; done) | (simp; omega), by omega, Nat.le_of_ble_eq_true rfl⟩) | exact Eq.refl true) ?_) | refine Exists.intro _ (And.intro rfl ?_) | refine And.intro (And.intro rfl (chk_rowI _ _ _ _)) ?_ | refine br_t (by omega) ?_ | refine br_f (by omega) ?_ | refine bs_t (by omega) ?_ | refine bs_f (by omega) ?_ | refine fun (K' : K3) hK' => ?_ | (refine hK' _ _ _ ?_; clear hK' K') | refine draw_auto tok mixed (by kernel_rfl) ?_ | refine bs_bt (Eq.refl true) ?_ | refine bs_bf (Eq.refl false) ?_ | refine br_bt (Eq.refl true) ?_ | refine br_bf (Eq.refl false) ?_ | refine CallK.m ?_ | refine Two.l ?_ | refine And.intro (And.intro rfl rfl) ?_)
      exact .inr ⟨4, rfl, rfl⟩
set_option maxRecDepth 10000 in
set_option maxHeartbeats 4000000 in
include hk hll in
theorem rfilled_spec : Spec Tryd.prog 58 [kV n (castP qs), V.c (.sl 1 l.length)] [⟨0, .ro 2, cellC (castP qs)⟩, ⟨1, .ro 0, l.map C.i⟩] 2 (Is (V.i (if isF n l then 0 else 71))) := by
  have hva := rvalid_spec n (castP qs) (by rw [castP_len]; have := knd_len hk; omega)
  rw [knd_ok hk] at hva
  have hfi := isFill_spec n (castP qs).length l hll
  refine Spec.of tok Tryd.func58 rfl rfl rfl fun n0 cx => vc_ok tok ?_
  cases hf : isF n l with
  | false =>
    rw [hf] at hfi
    repeat ((conv => whnf); first | (refine And.intro (by first | omega | exact Nat.le_of_ble_eq_true rfl | (dsimp only [inK]; omega) | (simp only [mulS_eq]; omega) | (simp only [mulS_eq, setL_length]; omega) | (simp only [setL_length]; omega) | (simp only [setL_length, List.length_map]; omega) | (exact ⟨by omega, by omega, by first | exact Nat.le_of_ble_eq_true rfl | (dsimp only; omega) | (simp only [setL_length]; omega) | (simp only [setL_length, List.length_map]; omega)⟩) | (exact ⟨by omega, by first | rfl | omega, by omega, Nat.le_of_ble_eq_true rfl, Nat.le_of_ble_eq_true rfl⟩) | (exact ⟨rfl, rfl, rfl, Nat.le_of_ble_eq_true rfl, by first | rfl | omega | exact Nat.le_of_ble_eq_true rfl | (dsimp only; omega) | (simp; done) | (simp; omega), by first | rfl | omega | exact Nat.le_of_ble_eq_true rfl | (dsimp only; omega) | (simp; done) | (simp; omega), by omega, Nat.le_of_ble_eq_true rfl⟩) | exact Eq.refl true) ?_) | refine Exists.intro _ (And.intro rfl ?_) | refine And.intro (And.intro rfl (chk_rowI _ _ _ _)) ?_ | refine br_t (by omega) ?_ | refine br_f (by omega) ?_ | refine bs_t (by omega) ?_ | refine bs_f (by omega) ?_ | refine fun (K' : K3) hK' => ?_ | (refine hK' _ _ _ ?_; clear hK' K') | refine draw_auto tok mixed (by kernel_rfl) ?_ | refine CallK.val (R := []) hva (by kernel_rfl) rfl (by simp [V.wf, A.wf, C.wf]) ⟨roE_f (flat_c _) (l := 0) rfl (by omega) rfl (.inr rfl), trivial⟩ rfl rfl trivial ?_ | refine CallK.val (R := []) hfi (by kernel_rfl) rfl (by simp [V.wf, A.wf, C.wf]) ⟨roE_f (flat_i _) (l := 1) rfl (by omega) rfl (.inl rfl), trivial⟩ rfl rfl trivial ?_ | refine bs_bt (Eq.refl true) ?_ | refine bs_bf (Eq.refl false) ?_ | refine br_bt (Eq.refl true) ?_ | refine br_bf (Eq.refl false) ?_ | refine CallK.m ?_ | refine Two.l ?_ | refine And.intro (And.intro rfl rfl) ?_)
    intro ρ; rfl
  | true =>
    rw [hf] at hfi
    repeat ((conv => whnf); first | (refine And.intro (by first | omega | exact Nat.le_of_ble_eq_true rfl | (dsimp only [inK]; omega) | (simp only [mulS_eq]; omega) | (simp only [mulS_eq, setL_length]; omega) | (simp only [setL_length]; omega) | (simp only [setL_length, List.length_map]; omega) | (exact ⟨by omega, by omega, by first | exact Nat.le_of_ble_eq_true rfl | (dsimp only; omega) | (simp only [setL_length]; omega) | (simp only [setL_length, List.length_map]; omega)⟩) | (exact ⟨by omega, by first | rfl | omega, by omega, Nat.le_of_ble_eq_true rfl, Nat.le_of_ble_eq_true rfl⟩) | (exact ⟨rfl, rfl, rfl, Nat.le_of_ble_eq_true rfl, by first | rfl | omega | exact Nat.le_of_ble_eq_true rfl | (dsimp only; omega) | (simp; done) | (simp; omega), by first | rfl | omega | exact Nat.le_of_ble_eq_true rfl | (dsimp only; omega) | (simp; done) | (simp; omega), by omega, Nat.le_of_ble_eq_true rfl⟩) | exact Eq.refl true) ?_) | refine Exists.intro _ (And.intro rfl ?_) | refine And.intro (And.intro rfl (chk_rowI _ _ _ _)) ?_ | refine br_t (by omega) ?_ | refine br_f (by omega) ?_ | refine bs_t (by omega) ?_ | refine bs_f (by omega) ?_ | refine fun (K' : K3) hK' => ?_ | (refine hK' _ _ _ ?_; clear hK' K') | refine draw_auto tok mixed (by kernel_rfl) ?_ | refine CallK.val (R := []) hva (by kernel_rfl) rfl (by simp [V.wf, A.wf, C.wf]) ⟨roE_f (flat_c _) (l := 0) rfl (by omega) rfl (.inr rfl), trivial⟩ rfl rfl trivial ?_ | refine CallK.val (R := []) hfi (by kernel_rfl) rfl (by simp [V.wf, A.wf, C.wf]) ⟨roE_f (flat_i _) (l := 1) rfl (by omega) rfl (.inl rfl), trivial⟩ rfl rfl trivial ?_ | refine bs_bt (Eq.refl true) ?_ | refine bs_bf (Eq.refl false) ?_ | refine br_bt (Eq.refl true) ?_ | refine br_bf (Eq.refl false) ?_ | refine CallK.m ?_ | refine Two.l ?_ | refine And.intro (And.intro rfl rfl) ?_)
    intro ρ; rfl
set_option maxRecDepth 10000 in
set_option maxHeartbeats 4000000 in
include hk hll in
theorem rRight_spec : Spec Tryd.prog 18 [kV n (castP qs), V.c (.sl 1 l.length)] [⟨0, .ro 2, cellC (castP qs)⟩, ⟨1, .ro 0, l.map C.i⟩] 2 (Is (rightO n qs l)) := by
  have hfi := rfilled_spec n qs l hk hll
  unfold rightO
  refine Spec.of tok Tryd.func18 rfl rfl rfl fun n0 cx => vc_ok tok ?_
  cases hf : isF n l with
  | false =>
    rw [hf] at hfi
    repeat ((conv => whnf); first | (refine And.intro (by first | omega | exact Nat.le_of_ble_eq_true rfl | (dsimp only [inK]; omega) | (simp only [mulS_eq]; omega) | (simp only [mulS_eq, setL_length]; omega) | (simp only [setL_length]; omega) | (simp only [setL_length, List.length_map]; omega) | (exact ⟨by omega, by omega, by first | exact Nat.le_of_ble_eq_true rfl | (dsimp only; omega) | (simp only [setL_length]; omega) | (simp only [setL_length, List.length_map]; omega)⟩) | (exact ⟨by omega, by first | rfl | omega, by omega, Nat.le_of_ble_eq_true rfl, Nat.le_of_ble_eq_true rfl⟩) | (exact ⟨rfl, rfl, rfl, Nat.le_of_ble_eq_true rfl, by first | rfl | omega | exact Nat.le_of_ble_eq_true rfl | (dsimp only; omega) | (simp; done) | (simp; omega), by first | rfl | omega | exact Nat.le_of_ble_eq_true rfl | (dsimp only; omega) | (simp; done) | (simp; omega), by omega, Nat.le_of_ble_eq_true rfl⟩) | exact Eq.refl true) ?_) | refine Exists.intro _ (And.intro rfl ?_) | refine And.intro (And.intro rfl (chk_rowI _ _ _ _)) ?_ | refine br_t (by omega) ?_ | refine br_f (by omega) ?_ | refine bs_t (by omega) ?_ | refine bs_f (by omega) ?_ | refine fun (K' : K3) hK' => ?_ | (refine hK' _ _ _ ?_; clear hK' K') | refine draw_auto tok mixed (by kernel_rfl) ?_ | refine CallK.val (R := []) hfi (by kernel_rfl) rfl (by simp [V.wf, A.wf, C.wf]) ⟨roE_f (flat_c _) (l := 0) rfl (by omega) rfl (.inr rfl), roE_f (flat_i _) (l := 1) rfl (by omega) rfl (.inl rfl), trivial⟩ rfl rfl trivial ?_ | refine bs_bt (Eq.refl true) ?_ | refine bs_bf (Eq.refl false) ?_ | refine br_bt (Eq.refl true) ?_ | refine br_bf (Eq.refl false) ?_ | refine CallK.m ?_ | refine Two.l ?_ | refine And.intro (And.intro rfl rfl) ?_)
    intro ρ; rfl
  | true =>
    have hln := isF_len hf
    have hri := rright_spec n qs hk l hln
    rw [hf] at hfi
    rw [← hln] at hri hfi ⊢
    repeat ((conv => whnf); first | (refine And.intro (by first | omega | exact Nat.le_of_ble_eq_true rfl | (dsimp only [inK]; omega) | (simp only [mulS_eq]; omega) | (simp only [mulS_eq, setL_length]; omega) | (simp only [setL_length]; omega) | (simp only [setL_length, List.length_map]; omega) | (exact ⟨by omega, by omega, by first | exact Nat.le_of_ble_eq_true rfl | (dsimp only; omega) | (simp only [setL_length]; omega) | (simp only [setL_length, List.length_map]; omega)⟩) | (exact ⟨by omega, by first | rfl | omega, by omega, Nat.le_of_ble_eq_true rfl, Nat.le_of_ble_eq_true rfl⟩) | (exact ⟨rfl, rfl, rfl, Nat.le_of_ble_eq_true rfl, by first | rfl | omega | exact Nat.le_of_ble_eq_true rfl | (dsimp only; omega) | (simp; done) | (simp; omega), by first | rfl | omega | exact Nat.le_of_ble_eq_true rfl | (dsimp only; omega) | (simp; done) | (simp; omega), by omega, Nat.le_of_ble_eq_true rfl⟩) | exact Eq.refl true) ?_) | refine Exists.intro _ (And.intro rfl ?_) | refine And.intro (And.intro rfl (chk_rowI _ _ _ _)) ?_ | refine br_t (by omega) ?_ | refine br_f (by omega) ?_ | refine bs_t (by omega) ?_ | refine bs_f (by omega) ?_ | refine fun (K' : K3) hK' => ?_ | (refine hK' _ _ _ ?_; clear hK' K') | refine draw_auto tok mixed (by kernel_rfl) ?_ | refine CallK.val (R := []) hfi (by kernel_rfl) rfl (by simp [V.wf, A.wf, C.wf]) ⟨roE_f (flat_c _) (l := 0) rfl (by omega) rfl (.inr rfl), roE_f (flat_i _) (l := 1) rfl (by omega) rfl (.inl rfl), trivial⟩ rfl rfl trivial ?_ | refine CallK.val (R := []) hri (by kernel_rfl) rfl (by simp [V.wf, A.wf, C.wf]) ⟨roE_f (flat_c _) (l := 0) rfl (by omega) rfl (.inr rfl), roE_f (flat_i _) (l := 1) rfl (by omega) rfl (.inl rfl), trivial⟩ rfl rfl trivial ?_ | refine bs_bt (Eq.refl true) ?_ | refine bs_bf (Eq.refl false) ?_ | refine br_bt (Eq.refl true) ?_ | refine br_bf (Eq.refl false) ?_ | refine CallK.m ?_ | refine Two.l ?_ | refine And.intro (And.intro rfl rfl) ?_)
    intro ρ; rfl
set_option maxRecDepth 10000 in
set_option maxHeartbeats 4000000 in
include hk hll in
theorem rClears_err (Er : Int) (he : (isF n l = false ∧ Er = 71) ∨ (isF n l = true ∧ rgtP qs l = false ∧ Er = 5)) : Spec Tryd.prog 20 [kV n (castP qs), V.c (.sl 1 l.length)] [⟨0, .ro 2, cellC (castP qs)⟩, ⟨1, .ro 0, l.map C.i⟩] 2 (Is (V.tup [A.c .nil, A.c (C.i Er)])) := by
  have hfi := rfilled_spec n qs l hk hll
  refine Spec.of tok Tryd.func20 rfl rfl rfl fun n0 cx => vc_ok tok ?_
  rcases he with ⟨hf, rfl⟩ | ⟨hf, hr, rfl⟩
  · rw [hf] at hfi
    repeat ((conv => whnf); first | (refine And.intro (by first | omega | exact Nat.le_of_ble_eq_true rfl | (dsimp only [inK]; omega) | (simp only [mulS_eq]; omega) | (simp only [mulS_eq, setL_length]; omega) | (simp only [setL_length]; omega) | (simp only [setL_length, List.length_map]; omega) | (exact ⟨by omega, by omega, by first | exact Nat.le_of_ble_eq_true rfl | (dsimp only; omega) | (simp only [setL_length]; omega) | (simp only [setL_length, List.length_map]; omega)⟩) | (exact ⟨by omega, by first | rfl | omega, by omega, Nat.le_of_ble_eq_true rfl, Nat.le_of_ble_eq_true rfl⟩) | (exact ⟨rfl, rfl, rfl, Nat.le_of_ble_eq_true rfl, by first | rfl | omega | exact Nat.le_of_ble_eq_true rfl | (dsimp only; omega) | (simp; done) | (simp; omega), by first | rfl | omega | exact Nat.le_of_ble_eq_true rfl | (dsimp only; omega) | (simp; done) | (simp; omega), by omega, Nat.le_of_ble_eq_true rfl⟩) | exact Eq.refl true) ?_) | refine Exists.intro _ (And.intro rfl ?_) | refine And.intro (And.intro rfl (chk_rowI _ _ _ _)) ?_ | refine br_t (by omega) ?_ | refine br_f (by omega) ?_ | refine bs_t (by omega) ?_ | refine bs_f (by omega) ?_ | refine fun (K' : K3) hK' => ?_ | (refine hK' _ _ _ ?_; clear hK' K') | refine draw_auto tok mixed (by kernel_rfl) ?_ | refine CallK.val (R := []) hfi (by kernel_rfl) rfl (by simp [V.wf, A.wf, C.wf]) ⟨roE_f (flat_c _) (l := 0) rfl (by omega) rfl (.inr rfl), roE_f (flat_i _) (l := 1) rfl (by omega) rfl (.inl rfl), trivial⟩ rfl rfl trivial ?_ | refine bs_bt (Eq.refl true) ?_ | refine bs_bf (Eq.refl false) ?_ | refine br_bt (Eq.refl true) ?_ | refine br_bf (Eq.refl false) ?_ | refine CallK.m ?_ | refine Two.l ?_ | refine And.intro (And.intro rfl rfl) ?_)
    intro ρ; rfl
  · have hln := isF_len hf
    have hri := rright_spec n qs hk l hln
    rw [hr] at hri
    rw [hf] at hfi
    rw [← hln] at hri hfi ⊢
    repeat ((conv => whnf); first | (refine And.intro (by first | omega | exact Nat.le_of_ble_eq_true rfl | (dsimp only [inK]; omega) | (simp only [mulS_eq]; omega) | (simp only [mulS_eq, setL_length]; omega) | (simp only [setL_length]; omega) | (simp only [setL_length, List.length_map]; omega) | (exact ⟨by omega, by omega, by first | exact Nat.le_of_ble_eq_true rfl | (dsimp only; omega) | (simp only [setL_length]; omega) | (simp only [setL_length, List.length_map]; omega)⟩) | (exact ⟨by omega, by first | rfl | omega, by omega, Nat.le_of_ble_eq_true rfl, Nat.le_of_ble_eq_true rfl⟩) | (exact ⟨rfl, rfl, rfl, Nat.le_of_ble_eq_true rfl, by first | rfl | omega | exact Nat.le_of_ble_eq_true rfl | (dsimp only; omega) | (simp; done) | (simp; omega), by first | rfl | omega | exact Nat.le_of_ble_eq_true rfl | (dsimp only; omega) | (simp; done) | (simp; omega), by omega, Nat.le_of_ble_eq_true rfl⟩) | exact Eq.refl true) ?_) | refine Exists.intro _ (And.intro rfl ?_) | refine And.intro (And.intro rfl (chk_rowI _ _ _ _)) ?_ | refine br_t (by omega) ?_ | refine br_f (by omega) ?_ | refine bs_t (by omega) ?_ | refine bs_f (by omega) ?_ | refine fun (K' : K3) hK' => ?_ | (refine hK' _ _ _ ?_; clear hK' K') | refine draw_auto tok mixed (by kernel_rfl) ?_ | refine CallK.val (R := []) hfi (by kernel_rfl) rfl (by simp [V.wf, A.wf, C.wf]) ⟨roE_f (flat_c _) (l := 0) rfl (by omega) rfl (.inr rfl), roE_f (flat_i _) (l := 1) rfl (by omega) rfl (.inl rfl), trivial⟩ rfl rfl trivial ?_ | refine CallK.val (R := []) hri (by kernel_rfl) rfl (by simp [V.wf, A.wf, C.wf]) ⟨roE_f (flat_c _) (l := 0) rfl (by omega) rfl (.inr rfl), roE_f (flat_i _) (l := 1) rfl (by omega) rfl (.inl rfl), trivial⟩ rfl rfl trivial ?_ | refine bs_bt (Eq.refl true) ?_ | refine bs_bf (Eq.refl false) ?_ | refine br_bt (Eq.refl true) ?_ | refine br_bf (Eq.refl false) ?_ | refine CallK.m ?_ | refine Two.l ?_ | refine And.intro (And.intro rfl rfl) ?_)
    intro ρ; rfl
set_option maxRecDepth 10000 in
set_option maxHeartbeats 8000000 in
include hk hll in
theorem rClears_ok (hf : isF n l = true) (hr : rgtP qs l = true) : Spec Tryd.prog 20 [kV n (castP qs), V.c (.sl 1 l.length)] [⟨0, .ro 2, cellC (castP qs)⟩, ⟨1, .ro 0, l.map C.i⟩] 2 (fun v L' _ => optE 4 1 qs.length ((clrL qs l).map C.bool) 0 v L') := by
  have hql := knd_len hk
  have hpl := castP_len qs
  have hcl := cellC_len (castP qs)
  have hfi := rfilled_spec n qs l hk hll
  have hln := isF_len hf
  have hri := rright_spec n qs hk l hln
  have hlm : (l.map C.i).length = l.length := List.length_map _
  have hn := hk.rng
  rw [hr] at hri
  rw [hf] at hfi
  have hget := fun {k : Nat} (h : k < qs.length) => hk.get h
  rw [← hln] at hri hfi hget ⊢
  refine Spec.of tok Tryd.func20 rfl rfl rfl fun n0 cx => vc_ok tok ?_
  repeat ((conv => whnf); first | (refine And.intro (by first | omega | exact Nat.le_of_ble_eq_true rfl | (dsimp only [inK]; omega) | (simp only [mulS_eq]; omega) | (simp only [mulS_eq, setL_length]; omega) | (simp only [setL_length]; omega) | (simp only [setL_length, List.length_map]; omega) | (exact ⟨by omega, by omega, by first | exact Nat.le_of_ble_eq_true rfl | (dsimp only; omega) | (simp only [setL_length]; omega) | (simp only [setL_length, List.length_map]; omega)⟩) | (exact ⟨by omega, by first | rfl | omega, by omega, Nat.le_of_ble_eq_true rfl, Nat.le_of_ble_eq_true rfl⟩) | (exact ⟨rfl, rfl, rfl, Nat.le_of_ble_eq_true rfl, by first | rfl | omega | exact Nat.le_of_ble_eq_true rfl | (dsimp only; omega) | (simp; done) | (simp; omega), by first | rfl | omega | exact Nat.le_of_ble_eq_true rfl | (dsimp only; omega) | (simp; done) | (simp; omega), by omega, Nat.le_of_ble_eq_true rfl⟩) | exact Eq.refl true) ?_) | refine Exists.intro _ (And.intro rfl ?_) | refine And.intro (And.intro rfl (chk_rowI _ _ _ _)) ?_ | refine br_t (by omega) ?_ | refine br_f (by omega) ?_ | refine bs_t (by omega) ?_ | refine bs_f (by omega) ?_ | refine fun (K' : K3) hK' => ?_ | (refine hK' _ _ _ ?_; clear hK' K') | refine draw_auto tok mixed (by kernel_rfl) ?_ | refine CallK.val (R := []) hfi (by kernel_rfl) rfl (by simp [V.wf, A.wf, C.wf]) ⟨roE_f (flat_c _) (l := 0) rfl (by omega) rfl (.inr rfl), roE_f (flat_i _) (l := 1) rfl (by omega) rfl (.inl rfl), trivial⟩ rfl rfl trivial ?_ | refine CallK.val (R := []) hri (by kernel_rfl) rfl (by simp [V.wf, A.wf, C.wf]) ⟨roE_f (flat_c _) (l := 0) rfl (by omega) rfl (.inr rfl), roE_f (flat_i _) (l := 1) rfl (by omega) rfl (.inl rfl), trivial⟩ rfl rfl trivial ?_ | refine bs_bt (Eq.refl true) ?_ | refine bs_bf (Eq.refl false) ?_ | refine br_bt (Eq.refl true) ?_ | refine br_bf (Eq.refl false) ?_ | refine CallK.m ?_ | refine Two.l ?_ | refine And.intro (And.intro rfl rfl) ?_)
  refine Tri.loop (γ := Nat) (fun k => k ≤ qs.length) (fun k => [(1, V.c (.sl 1 l.length)), (2, V.c (.ptr 2 0)), (4, V.c .nil), (5, V.i 0), (7, V.c (.sl 3 k)), (21, V.c (.sl 0 (castP qs).length)), (22, V.i (castP qs).length), (23, V.i (k : Nat))])
    (fun k => [⟨3, .vec 4 1, (clrL (qs.take k) l).map C.bool⟩, ⟨2, .own 24, [C.i l.length, .sl 0 (castP qs).length]⟩, ⟨0, .ro 2, cellC (castP qs)⟩, ⟨1, .ro 0, l.map C.i⟩]) 4 (fun k => qs.length - k) 0 (R0 := [(3, none)]) ?_ ?_ ?_
  · omega
  · skip
    refine ⟨?_, ?_, rfl, rfl, by first | exact Nat.le_of_ble_eq_true rfl | exact Nat.le_refl _ | omega⟩
    · repeat (first | exact trivial | (refine And.intro (covS_syn (by rfl) rfl (by first | exact trivial | exact Nat.le_of_ble_eq_true rfl | exact hy | exact (fun p hp => nomatch hp) | (show (_ : Nat) < _; omega))) ?_) | refine And.intro (covS_bool rfl rfl (by rfl)) ?_)
    · repeat (first | exact trivial | refine And.intro (covE_s (sim_c _) rfl (Nat.le_of_ble_eq_true rfl) rfl rfl) ?_ | refine And.intro (covE_nil rfl (Nat.le_of_ble_eq_true rfl) rfl rfl) ?_ | (refine And.intro (covE_some rfl (Nat.le_of_ble_eq_true rfl) (by first | exact wf_ints _ _ | exact wf_bools _ _ | first | exact wf_us _ _ | exact wf_cells _ _ | exact wf_bools _ _ | (simp [C.wf]; done) | simp [C.wf]) rfl (by first | exact ren_ints _ _ | exact ren_bools _ _ | exact ren_shares _ _ | rfl)) ?_))
  · intro k hkk
    refine vc_ok tok ?_
    by_cases hlt : k < qs.length
    · have hld := cellT (l := castP qs) (k := k) rfl (by omega)
      change takeC (cellC (castP qs)) (mulS ((k : Nat) : Int).toNat 2) 2 = some [C.i ((castP qs).getD k cz).1, C.i ((castP qs).getD k cz).2] at hld
      rw [castP_get hlt] at hld
      have hsucc := clrL_take (l := l) hlt
      have hpq := hget hlt
      obtain ⟨p, hp⟩ : ∃ p, p = qs.getD k (0, 0) := ⟨_, rfl⟩
      rw [← hp] at hld hsucc hpq
      obtain ⟨a, b⟩ := p
      simp only at hld hsucc hpq
      have hla : (l.map C.i)[mulS ((a : Nat) : Int).toNat 1]? = some (C.i (l.getD a 0)) := intLz rfl (by omega)
      have hlb : (l.map C.i)[mulS ((b : Nat) : Int).toNat 1]? = some (C.i (l.getD b 0)) := intLz rfl (by omega)
      have hcm : ((clrL (qs.take k) l).map C.bool).length = k := by rw [List.length_map, clrL_len, List.length_take]; omega
      repeat ((conv => whnf); first | (refine And.intro (by first | omega | exact Nat.le_of_ble_eq_true rfl | (dsimp only [inK]; omega) | (simp only [mulS_eq]; omega) | (simp only [mulS_eq, setL_length]; omega) | (simp only [setL_length]; omega) | (simp only [setL_length, List.length_map]; omega) | (exact ⟨by omega, by omega, by first | exact Nat.le_of_ble_eq_true rfl | (dsimp only; omega) | (simp only [setL_length]; omega) | (simp only [setL_length, List.length_map]; omega)⟩) | (exact ⟨by omega, by first | rfl | omega, by omega, Nat.le_of_ble_eq_true rfl, Nat.le_of_ble_eq_true rfl⟩) | (exact ⟨rfl, rfl, rfl, Nat.le_of_ble_eq_true rfl, by first | rfl | omega | exact Nat.le_of_ble_eq_true rfl | (dsimp only; omega) | (simp; done) | (simp; omega), by first | rfl | omega | exact Nat.le_of_ble_eq_true rfl | (dsimp only; omega) | (simp; done) | (simp; omega), by omega, Nat.le_of_ble_eq_true rfl⟩) | exact Eq.refl true) ?_) | with_reducible refine ld (hld) ?_ | with_reducible refine ld (hla) ?_ | with_reducible refine ld (hlb) ?_ | refine Exists.intro _ (And.intro rfl ?_) | refine And.intro (And.intro rfl (chk_rowI _ _ _ _)) ?_ | refine br_t (by omega) ?_ | refine br_f (by omega) ?_ | refine bs_t (by omega) ?_ | refine bs_f (by omega) ?_ | refine fun (K' : K3) hK' => ?_ | (refine hK' _ _ _ ?_; clear hK' K') | refine draw_kill [3] tok mixed (by decide +kernel) ?_ | refine draw_auto tok mixed (by kernel_rfl) ?_ | refine And.intro (And.intro rfl (chk_s hsucc (sim_b _) _ _ _)) ?_ | refine bs_bt (Eq.refl true) ?_ | refine bs_bf (Eq.refl false) ?_ | refine br_bt (Eq.refl true) ?_ | refine br_bf (Eq.refl false) ?_ | refine CallK.m ?_ | refine Two.l ?_ | refine And.intro (And.intro rfl rfl) ?_)
      refine ⟨k + 1, [(3, some 6)], by omega, by omega, ?_⟩
      refine ⟨?_, ?_, rfl, rfl, by first | exact Nat.le_of_ble_eq_true rfl | exact Nat.le_refl _ | omega⟩
      · repeat (first | exact trivial | (refine And.intro (covS_syn (by first | rfl | (refine congrArg some (congrArg V.i ?_); omega)) rfl (by first | exact trivial | exact Nat.le_of_ble_eq_true rfl | exact hy | exact (fun p hp => nomatch hp) | (show (_ : Nat) < _; omega))) ?_) | refine And.intro (covS_bool rfl rfl (by rfl)) ?_)
      · repeat (first | exact trivial | refine And.intro (covE_s (sim_b _) rfl (Nat.le_of_ble_eq_true rfl) rfl hsucc) ?_ | refine And.intro (covE_s (sim_c _) rfl (Nat.le_of_ble_eq_true rfl) rfl rfl) ?_ | refine And.intro (covE_nil rfl (Nat.le_of_ble_eq_true rfl) rfl rfl) ?_ | (refine And.intro (covE_some rfl (Nat.le_of_ble_eq_true rfl) (by first | exact wf_ints _ _ | exact wf_bools _ _ | first | exact wf_us _ _ | exact wf_cells _ _ | exact wf_bools _ _ | (simp [C.wf]; done) | simp [C.wf]) rfl (by first | exact ren_ints _ _ | exact ren_bools _ _ | exact ren_shares _ _ | rfl)) ?_))
    · obtain rfl : k = qs.length := by omega
      rw [List.take_length]
      repeat ((conv => whnf); first | (refine And.intro (by first | omega | exact Nat.le_of_ble_eq_true rfl | (dsimp only [inK]; omega) | (simp only [mulS_eq]; omega) | (simp only [mulS_eq, setL_length]; omega) | (simp only [setL_length]; omega) | (simp only [setL_length, List.length_map]; omega) | (exact ⟨by omega, by omega, by first | exact Nat.le_of_ble_eq_true rfl | (dsimp only; omega) | (simp only [setL_length]; omega) | (simp only [setL_length, List.length_map]; omega)⟩) | (exact ⟨by omega, by first | rfl | omega, by omega, Nat.le_of_ble_eq_true rfl, Nat.le_of_ble_eq_true rfl⟩) | (exact ⟨rfl, rfl, rfl, Nat.le_of_ble_eq_true rfl, by first | rfl | omega | exact Nat.le_of_ble_eq_true rfl | (dsimp only; omega) | (simp; done) | (simp; omega), by first | rfl | omega | exact Nat.le_of_ble_eq_true rfl | (dsimp only; omega) | (simp; done) | (simp; omega), by omega, Nat.le_of_ble_eq_true rfl⟩) | exact Eq.refl true) ?_) | refine Exists.intro _ (And.intro rfl ?_) | refine And.intro (And.intro rfl (chk_rowI _ _ _ _)) ?_ | refine br_t (by omega) ?_ | refine br_f (by omega) ?_ | refine bs_t (by omega) ?_ | refine bs_f (by omega) ?_ | refine fun (K' : K3) hK' => ?_ | (refine hK' _ _ _ ?_; clear hK' K') | refine draw_auto tok mixed (by kernel_rfl) ?_ | refine bs_bt (Eq.refl true) ?_ | refine bs_bf (Eq.refl false) ?_ | refine br_bt (Eq.refl true) ?_ | refine br_bf (Eq.refl false) ?_ | refine CallK.m ?_ | refine Two.l ?_ | refine And.intro (And.intro rfl rfl) ?_)
      exact .inr ⟨3, rfl, rfl⟩
end
end Go.Proofs.YtijnimgmpocmaaaDoor

/- Waste: the law of the fillings. -/
namespace Go.Proofs.YtijnimgmpocmaaaDoor
open Go.RowKit
set_option linter.unusedVariables false
set_option linter.unusedSimpArgs false
theorem long_spec (m : Nat) (hm : m < 9223372036854775808) : Spec Tryd.prog 15 [V.c (.sl 0 m)] [] 1 (Is (V.c (.bool (decide ((m : Int) > 60))))) := by
  refine Spec.of tok Tryd.func15 rfl rfl rfl fun n0 cx => vc_ok tok ?_
  repeat ((conv => whnf); first | (refine And.intro (by first | omega | exact Nat.le_of_ble_eq_true rfl | (dsimp only [inK]; omega) | (simp only [mulS_eq]; omega) | (simp only [mulS_eq, setL_length]; omega) | (simp only [setL_length]; omega) | (simp only [setL_length, List.length_map]; omega) | (exact ⟨by omega, by omega, by first | exact Nat.le_of_ble_eq_true rfl | (dsimp only; omega) | (simp only [setL_length]; omega) | (simp only [setL_length, List.length_map]; omega)⟩) | (exact ⟨by omega, by first | rfl | omega, by omega, Nat.le_of_ble_eq_true rfl, Nat.le_of_ble_eq_true rfl⟩) | (exact ⟨rfl, rfl, rfl, Nat.le_of_ble_eq_true rfl, by first | rfl | omega | exact Nat.le_of_ble_eq_true rfl | (dsimp only; omega) | (simp; done) | (simp; omega), by first | rfl | omega | exact Nat.le_of_ble_eq_true rfl | (dsimp only; omega) | (simp; done) | (simp; omega), by omega, Nat.le_of_ble_eq_true rfl⟩) | exact Eq.refl true) ?_) | refine Exists.intro _ (And.intro rfl ?_) | refine And.intro (And.intro rfl (chk_rowI _ _ _ _)) ?_ | refine br_t (by omega) ?_ | refine br_f (by omega) ?_ | refine bs_t (by omega) ?_ | refine bs_f (by omega) ?_ | refine fun (K' : K3) hK' => ?_ | (refine hK' _ _ _ ?_; clear hK' K') | refine draw_auto tok mixed (by kernel_rfl) ?_ | refine bs_bt (Eq.refl true) ?_ | refine bs_bf (Eq.refl false) ?_ | refine br_bt (Eq.refl true) ?_ | refine br_bf (Eq.refl false) ?_ | refine CallK.m ?_ | refine Two.l ?_ | refine And.intro (And.intro rfl rfl) ?_)
  intro ρ; rfl
section
variable {n0 nx : Nat} {L : List E} {K : V → List E → Nat → Prop}
theorem long_k {m a : Nat} (hm : m < 9223372036854775808) (hK : K (V.c (.bool (decide ((m : Int) > 60)))) [] nx) : CallK Tryd.prog n0 15 [V.c (.sl a m)] L nx K :=
  CallK.val (R := [(0, some a)]) (long_spec m hm) (by kernel_rfl) rfl (by simp [V.wf, A.wf, C.wf]) trivial rfl rfl trivial hK
end
theorem sameB_nil : Spec Tryd.prog 23 [V.c (.sl 0 0), V.c (.sl 1 0)] [⟨0, .ro 0, []⟩, ⟨1, .ro 0, []⟩] 2 (Is (V.c (.bool true))) := sameB_spec [] [] (by simp) (by simp)
section
variable (N : Int) (ps : List Cell) (l : List Int)
theorem fills_long (hps : ps.length < 9223372036854775808) (hll : l.length < 9223372036854775808) (h : (ps.length : Int) > 60 ∨ (l.length : Int) > 60) :
    Spec Tryd.prog 3 [kV N ps, V.c (.sl 1 l.length)] [⟨0, .ro 2, cellC ps⟩, ⟨1, .ro 0, l.map C.i⟩] 2 (Is (V.c (.bool true))) := by
  refine Spec.of tok Tryd.func3 rfl rfl rfl fun n0 cx => vc_ok tok ?_
  by_cases h1 : (ps.length : Int) > 60
  · repeat ((conv => whnf); first | (refine And.intro (by first | omega | exact Nat.le_of_ble_eq_true rfl | (dsimp only [inK]; omega) | (simp only [mulS_eq]; omega) | (simp only [mulS_eq, setL_length]; omega) | (simp only [setL_length]; omega) | (simp only [setL_length, List.length_map]; omega) | (exact ⟨by omega, by omega, by first | exact Nat.le_of_ble_eq_true rfl | (dsimp only; omega) | (simp only [setL_length]; omega) | (simp only [setL_length, List.length_map]; omega)⟩) | (exact ⟨by omega, by first | rfl | omega, by omega, Nat.le_of_ble_eq_true rfl, Nat.le_of_ble_eq_true rfl⟩) | (exact ⟨rfl, rfl, rfl, Nat.le_of_ble_eq_true rfl, by first | rfl | omega | exact Nat.le_of_ble_eq_true rfl | (dsimp only; omega) | (simp; done) | (simp; omega), by first | rfl | omega | exact Nat.le_of_ble_eq_true rfl | (dsimp only; omega) | (simp; done) | (simp; omega), by omega, Nat.le_of_ble_eq_true rfl⟩) | exact Eq.refl true) ?_) | refine Exists.intro _ (And.intro rfl ?_) | refine And.intro (And.intro rfl (chk_rowI _ _ _ _)) ?_ | refine br_t (by omega) ?_ | refine br_f (by omega) ?_ | refine bs_t (by omega) ?_ | refine bs_f (by omega) ?_ | refine fun (K' : K3) hK' => ?_ | (refine hK' _ _ _ ?_; clear hK' K') | refine draw_auto tok mixed (by kernel_rfl) ?_ | refine wide_k hps ?_ | refine bs_t h1 ?_ | refine br_t h1 ?_ | refine awake_k ?_ | refine bs_bt (Eq.refl true) ?_ | refine bs_bf (Eq.refl false) ?_ | refine br_bt (Eq.refl true) ?_ | refine br_bf (Eq.refl false) ?_ | refine CallK.m ?_ | refine Two.l ?_ | refine And.intro (And.intro rfl rfl) ?_)
    intro ρ; rfl
  · have h2 : (l.length : Int) > 60 := by omega
    repeat ((conv => whnf); first | (refine And.intro (by first | omega | exact Nat.le_of_ble_eq_true rfl | (dsimp only [inK]; omega) | (simp only [mulS_eq]; omega) | (simp only [mulS_eq, setL_length]; omega) | (simp only [setL_length]; omega) | (simp only [setL_length, List.length_map]; omega) | (exact ⟨by omega, by omega, by first | exact Nat.le_of_ble_eq_true rfl | (dsimp only; omega) | (simp only [setL_length]; omega) | (simp only [setL_length, List.length_map]; omega)⟩) | (exact ⟨by omega, by first | rfl | omega, by omega, Nat.le_of_ble_eq_true rfl, Nat.le_of_ble_eq_true rfl⟩) | (exact ⟨rfl, rfl, rfl, Nat.le_of_ble_eq_true rfl, by first | rfl | omega | exact Nat.le_of_ble_eq_true rfl | (dsimp only; omega) | (simp; done) | (simp; omega), by first | rfl | omega | exact Nat.le_of_ble_eq_true rfl | (dsimp only; omega) | (simp; done) | (simp; omega), by omega, Nat.le_of_ble_eq_true rfl⟩) | exact Eq.refl true) ?_) | refine Exists.intro _ (And.intro rfl ?_) | refine And.intro (And.intro rfl (chk_rowI _ _ _ _)) ?_ | refine br_t (by omega) ?_ | refine br_f (by omega) ?_ | refine bs_t (by omega) ?_ | refine bs_f (by omega) ?_ | refine fun (K' : K3) hK' => ?_ | (refine hK' _ _ _ ?_; clear hK' K') | refine draw_auto tok mixed (by kernel_rfl) ?_ | refine wide_k hps ?_ | refine bs_f h1 ?_ | refine br_f h1 ?_ | refine long_k hll ?_ | refine bs_t h2 ?_ | refine br_t h2 ?_ | refine awake_k ?_ | refine bs_bt (Eq.refl true) ?_ | refine bs_bf (Eq.refl false) ?_ | refine br_bt (Eq.refl true) ?_ | refine br_bf (Eq.refl false) ?_ | refine CallK.m ?_ | refine Two.l ?_ | refine And.intro (And.intro rfl rfl) ?_)
    intro ρ; rfl
set_option maxRecDepth 10000 in
set_option maxHeartbeats 8000000 in
theorem fills_no (h1 : ¬ (ps.length : Int) > 60) (h2 : ¬ (l.length : Int) > 60) (hv : okK' N ps = false) :
    Spec Tryd.prog 3 [kV N ps, V.c (.sl 1 l.length)] [⟨0, .ro 2, cellC ps⟩, ⟨1, .ro 0, l.map C.i⟩] 2 (Is (V.c (.bool true))) := by
  have k1 := right_no N ps l (by omega) hv
  have k2 := rRight_no N ps l (by omega) hv
  have k3 := clears_no N ps l (by omega) hv
  have k4 := rClears_no N ps l (by omega) hv
  have k5 := valid_spec N ps (by omega)
  have k6 := rvalid_spec N ps (by omega)
  refine Spec.of tok Tryd.func3 rfl rfl rfl fun n0 cx => vc_ok tok ?_
  repeat ((conv => whnf); first | (refine And.intro (by first | omega | exact Nat.le_of_ble_eq_true rfl | (dsimp only [inK]; omega) | (simp only [mulS_eq]; omega) | (simp only [mulS_eq, setL_length]; omega) | (simp only [setL_length]; omega) | (simp only [setL_length, List.length_map]; omega) | (exact ⟨by omega, by omega, by first | exact Nat.le_of_ble_eq_true rfl | (dsimp only; omega) | (simp only [setL_length]; omega) | (simp only [setL_length, List.length_map]; omega)⟩) | (exact ⟨by omega, by first | rfl | omega, by omega, Nat.le_of_ble_eq_true rfl, Nat.le_of_ble_eq_true rfl⟩) | (exact ⟨rfl, rfl, rfl, Nat.le_of_ble_eq_true rfl, by first | rfl | omega | exact Nat.le_of_ble_eq_true rfl | (dsimp only; omega) | (simp; done) | (simp; omega), by first | rfl | omega | exact Nat.le_of_ble_eq_true rfl | (dsimp only; omega) | (simp; done) | (simp; omega), by omega, Nat.le_of_ble_eq_true rfl⟩) | exact Eq.refl true) ?_) | refine Exists.intro _ (And.intro rfl ?_) | refine And.intro (And.intro rfl (chk_rowI _ _ _ _)) ?_ | refine br_t (by omega) ?_ | refine br_f (by omega) ?_ | refine bs_t (by omega) ?_ | refine bs_f (by omega) ?_ | refine fun (K' : K3) hK' => ?_ | (refine hK' _ _ _ ?_; clear hK' K') | refine draw_auto tok mixed (by kernel_rfl) ?_ | refine wide_k (by omega) ?_ | refine bs_f h1 ?_ | refine br_f h1 ?_ | refine long_k (by omega) ?_ | refine bs_f h2 ?_ | refine br_f h2 ?_ | refine CallK.val (R := []) k1 (by kernel_rfl) rfl (by simp [V.wf, A.wf, C.wf]) ⟨roE_f (flat_c _) (l := 0) rfl (by omega) rfl (.inr rfl), roE_f (flat_i _) (l := 1) rfl (by omega) rfl (.inl rfl), trivial⟩ rfl rfl (by simp [V.wf, A.wf, C.wf]) ?_ | refine CallK.val (R := []) k2 (by kernel_rfl) rfl (by simp [V.wf, A.wf, C.wf]) ⟨roE_f (flat_c _) (l := 0) rfl (by omega) rfl (.inr rfl), roE_f (flat_i _) (l := 1) rfl (by omega) rfl (.inl rfl), trivial⟩ rfl rfl (by simp [V.wf, A.wf, C.wf]) ?_ | refine CallK.val (R := []) k3 (by kernel_rfl) rfl (by simp [V.wf, A.wf, C.wf]) ⟨roE_f (flat_c _) (l := 0) rfl (by omega) rfl (.inr rfl), roE_f (flat_i _) (l := 1) rfl (by omega) rfl (.inl rfl), trivial⟩ rfl rfl (by simp [V.wf, A.wf, C.wf]) ?_ | refine CallK.val (R := []) k4 (by kernel_rfl) rfl (by simp [V.wf, A.wf, C.wf]) ⟨roE_f (flat_c _) (l := 0) rfl (by omega) rfl (.inr rfl), roE_f (flat_i _) (l := 1) rfl (by omega) rfl (.inl rfl), trivial⟩ rfl rfl (by simp [V.wf, A.wf, C.wf]) ?_ | refine HD_mk (fun _ h => CallK.val (R := []) k5 (by kernel_rfl) rfl (by simp [V.wf, A.wf, C.wf]) ⟨roE_f (flat_c _) (l := 0) rfl (by omega) rfl (.inr rfl), trivial⟩ rfl rfl trivial h) ?_ | refine HD_mk (fun _ h => CallK.val (R := []) k6 (by kernel_rfl) rfl (by simp [V.wf, A.wf, C.wf]) ⟨roE_f (flat_c _) (l := 0) rfl (by omega) rfl (.inr rfl), trivial⟩ rfl rfl trivial h) ?_ | refine bs_bt (beq_self_eq_true _) ?_ | refine br_bt (beq_self_eq_true _) ?_ | refine HD_mk (fun _ h => CallK.val (R := [(0, none), (1, none)]) sameB_nil (by kernel_rfl) rfl (by simp [V.wf, A.wf, C.wf]) ⟨roE_none rfl (by omega), roE_none rfl (by omega), trivial⟩ rfl rfl trivial h) ?_ | refine HD_mk (fun _ h => awake_k h) ?_ | refine bs_bt (Eq.refl true) ?_ | refine bs_bf (Eq.refl false) ?_ | refine br_bt (Eq.refl true) ?_ | refine br_bf (Eq.refl false) ?_ | refine CallK.m ?_ | refine Two.l ?_ | refine And.intro (And.intro rfl rfl) ?_)
  intro ρ; rfl
end
section
variable (n : Nat) (qs : List (Nat × Nat)) (l : List Int) (hk : Knd n qs) (h2 : ¬ (l.length : Int) > 60)
include hk h2
set_option maxRecDepth 10000 in
set_option maxHeartbeats 8000000 in
theorem fills_err (Er : Int) (he : (isF n l = false ∧ Er = 71) ∨ (isF n l = true ∧ rgtP qs l = false ∧ Er = 5)) :
    Spec Tryd.prog 3 [kV n (castP qs), V.c (.sl 1 l.length)] [⟨0, .ro 2, cellC (castP qs)⟩, ⟨1, .ro 0, l.map C.i⟩] 2 (Is (V.c (.bool true))) := by
  have hpl : (castP qs).length ≤ 28 := by rw [castP_len]; exact knd_len hk
  have h1 : ¬ ((castP qs).length : Int) > 60 := by omega
  obtain ⟨b, e, hbe⟩ : ∃ (b : Bool) (e : Int), rightO n qs l = V.tup [A.c (.bool b), A.c (C.i e)] ∨ rightO n qs l = V.tup [A.c .ff, A.c (C.i e)] := by
    unfold rightO; split
    · exact ⟨_, _, .inl rfl⟩
    · exact ⟨false, 71, .inr rfl⟩
  have k1 := Right_spec n qs l hk (by omega)
  have k2 := rRight_spec n qs l hk (by omega)
  have k3 := Clears_err n qs l hk (by omega) Er he
  have k4 := rClears_err n qs l hk (by omega) Er he
  have k5 := valid_spec n (castP qs) (by omega)
  have k6 := rvalid_spec n (castP qs) (by omega)
  refine Spec.of tok Tryd.func3 rfl rfl rfl fun n0 cx => vc_ok tok ?_
  rcases hbe with hbe | hbe
  all_goals
    rw [hbe] at k1 k2
    repeat ((conv => whnf); first | (refine And.intro (by first | omega | exact Nat.le_of_ble_eq_true rfl | (dsimp only [inK]; omega) | (simp only [mulS_eq]; omega) | (simp only [mulS_eq, setL_length]; omega) | (simp only [setL_length]; omega) | (simp only [setL_length, List.length_map]; omega) | (exact ⟨by omega, by omega, by first | exact Nat.le_of_ble_eq_true rfl | (dsimp only; omega) | (simp only [setL_length]; omega) | (simp only [setL_length, List.length_map]; omega)⟩) | (exact ⟨by omega, by first | rfl | omega, by omega, Nat.le_of_ble_eq_true rfl, Nat.le_of_ble_eq_true rfl⟩) | (exact ⟨rfl, rfl, rfl, Nat.le_of_ble_eq_true rfl, by first | rfl | omega | exact Nat.le_of_ble_eq_true rfl | (dsimp only; omega) | (simp; done) | (simp; omega), by first | rfl | omega | exact Nat.le_of_ble_eq_true rfl | (dsimp only; omega) | (simp; done) | (simp; omega), by omega, Nat.le_of_ble_eq_true rfl⟩) | exact Eq.refl true) ?_) | refine Exists.intro _ (And.intro rfl ?_) | refine And.intro (And.intro rfl (chk_rowI _ _ _ _)) ?_ | refine br_t (by omega) ?_ | refine br_f (by omega) ?_ | refine bs_t (by omega) ?_ | refine bs_f (by omega) ?_ | refine fun (K' : K3) hK' => ?_ | (refine hK' _ _ _ ?_; clear hK' K') | refine draw_auto tok mixed (by kernel_rfl) ?_ | refine wide_k (by omega) ?_ | refine bs_f h1 ?_ | refine br_f h1 ?_ | refine long_k (by omega) ?_ | refine bs_f h2 ?_ | refine br_f h2 ?_ | refine CallK.val (R := []) k1 (by kernel_rfl) rfl (by simp [V.wf, A.wf, C.wf]) ⟨roE_f (flat_c _) (l := 0) rfl (by omega) rfl (.inr rfl), roE_f (flat_i _) (l := 1) rfl (by omega) rfl (.inl rfl), trivial⟩ rfl rfl (by simp [V.wf, A.wf, C.wf]) ?_ | refine CallK.val (R := []) k2 (by kernel_rfl) rfl (by simp [V.wf, A.wf, C.wf]) ⟨roE_f (flat_c _) (l := 0) rfl (by omega) rfl (.inr rfl), roE_f (flat_i _) (l := 1) rfl (by omega) rfl (.inl rfl), trivial⟩ rfl rfl (by simp [V.wf, A.wf, C.wf]) ?_ | refine CallK.val (R := []) k3 (by kernel_rfl) rfl (by simp [V.wf, A.wf, C.wf]) ⟨roE_f (flat_c _) (l := 0) rfl (by omega) rfl (.inr rfl), roE_f (flat_i _) (l := 1) rfl (by omega) rfl (.inl rfl), trivial⟩ rfl rfl (by simp [V.wf, A.wf, C.wf]) ?_ | refine CallK.val (R := []) k4 (by kernel_rfl) rfl (by simp [V.wf, A.wf, C.wf]) ⟨roE_f (flat_c _) (l := 0) rfl (by omega) rfl (.inr rfl), roE_f (flat_i _) (l := 1) rfl (by omega) rfl (.inl rfl), trivial⟩ rfl rfl (by simp [V.wf, A.wf, C.wf]) ?_ | refine HD_mk (fun _ h => CallK.val (R := []) k5 (by kernel_rfl) rfl (by simp [V.wf, A.wf, C.wf]) ⟨roE_f (flat_c _) (l := 0) rfl (by omega) rfl (.inr rfl), trivial⟩ rfl rfl trivial h) ?_ | refine HD_mk (fun _ h => CallK.val (R := []) k6 (by kernel_rfl) rfl (by simp [V.wf, A.wf, C.wf]) ⟨roE_f (flat_c _) (l := 0) rfl (by omega) rfl (.inr rfl), trivial⟩ rfl rfl trivial h) ?_ | refine bs_bt (beq_self_eq_true _) ?_ | refine br_bt (beq_self_eq_true _) ?_ | refine HD_mk (fun _ h => CallK.val (R := [(0, none), (1, none)]) sameB_nil (by kernel_rfl) rfl (by simp [V.wf, A.wf, C.wf]) ⟨roE_none rfl (by omega), roE_none rfl (by omega), trivial⟩ rfl rfl trivial h) ?_ | refine HD_mk (fun _ h => awake_k h) ?_ | refine bs_bt (Eq.refl true) ?_ | refine bs_bf (Eq.refl false) ?_ | refine br_bt (Eq.refl true) ?_ | refine br_bf (Eq.refl false) ?_ | refine CallK.m ?_ | refine Two.l ?_ | refine And.intro (And.intro rfl rfl) ?_)
    intro ρ; rfl
set_option maxRecDepth 10000 in
set_option maxHeartbeats 8000000 in
theorem fills_ok (hf : isF n l = true) (hr : rgtP qs l = true) :
    Spec Tryd.prog 3 [kV n (castP qs), V.c (.sl 1 l.length)] [⟨0, .ro 2, cellC (castP qs)⟩, ⟨1, .ro 0, l.map C.i⟩] 2 (Is (V.c (.bool true))) := by
  have hpl : (castP qs).length ≤ 28 := by rw [castP_len]; exact knd_len hk
  have h1 : ¬ ((castP qs).length : Int) > 60 := by omega
  have hro : rightO n qs l = V.tup [A.c (.bool true), A.c (C.i 0)] := by unfold rightO; rw [hf, hr]; rfl
  have k1 := Right_spec n qs l hk (by omega)
  have k2 := rRight_spec n qs l hk (by omega)
  rw [hro] at k1 k2
  have k3 := Clears_ok n qs l hk (by omega) hf hr
  have k4 := rClears_ok n qs l hk (by omega) hf hr
  have k5 := valid_spec n (castP qs) (by omega)
  have k6 := rvalid_spec n (castP qs) (by omega)
  have k7 := sameB_spec (clrL qs l) (clrL qs l) (by rw [clrL_len]; have := knd_len hk; omega) (by rw [clrL_len]; have := knd_len hk; omega)
  rw [clrL_len, decide_eq_true rfl] at k7
  refine Spec.of tok Tryd.func3 rfl rfl rfl fun n0 cx => vc_ok tok ?_
  repeat ((conv => whnf); first | (refine And.intro (by first | omega | exact Nat.le_of_ble_eq_true rfl | (dsimp only [inK]; omega) | (simp only [mulS_eq]; omega) | (simp only [mulS_eq, setL_length]; omega) | (simp only [setL_length]; omega) | (simp only [setL_length, List.length_map]; omega) | (exact ⟨by omega, by omega, by first | exact Nat.le_of_ble_eq_true rfl | (dsimp only; omega) | (simp only [setL_length]; omega) | (simp only [setL_length, List.length_map]; omega)⟩) | (exact ⟨by omega, by first | rfl | omega, by omega, Nat.le_of_ble_eq_true rfl, Nat.le_of_ble_eq_true rfl⟩) | (exact ⟨rfl, rfl, rfl, Nat.le_of_ble_eq_true rfl, by first | rfl | omega | exact Nat.le_of_ble_eq_true rfl | (dsimp only; omega) | (simp; done) | (simp; omega), by first | rfl | omega | exact Nat.le_of_ble_eq_true rfl | (dsimp only; omega) | (simp; done) | (simp; omega), by omega, Nat.le_of_ble_eq_true rfl⟩) | exact Eq.refl true) ?_) | refine Exists.intro _ (And.intro rfl ?_) | refine And.intro (And.intro rfl (chk_rowI _ _ _ _)) ?_ | refine br_t (by omega) ?_ | refine br_f (by omega) ?_ | refine bs_t (by omega) ?_ | refine bs_f (by omega) ?_ | refine fun (K' : K3) hK' => ?_ | (refine hK' _ _ _ ?_; clear hK' K') | refine draw_auto tok mixed (by kernel_rfl) ?_ | refine wide_k (by omega) ?_ | refine bs_f h1 ?_ | refine br_f h1 ?_ | refine long_k (by omega) ?_ | refine bs_f h2 ?_ | refine br_f h2 ?_ | refine CallK.val (R := []) k1 (by kernel_rfl) rfl (by simp [V.wf, A.wf, C.wf]) ⟨roE_f (flat_c _) (l := 0) rfl (by omega) rfl (.inr rfl), roE_f (flat_i _) (l := 1) rfl (by omega) rfl (.inl rfl), trivial⟩ rfl rfl (by simp [V.wf, A.wf, C.wf]) ?_ | refine CallK.val (R := []) k2 (by kernel_rfl) rfl (by simp [V.wf, A.wf, C.wf]) ⟨roE_f (flat_c _) (l := 0) rfl (by omega) rfl (.inr rfl), roE_f (flat_i _) (l := 1) rfl (by omega) rfl (.inl rfl), trivial⟩ rfl rfl (by simp [V.wf, A.wf, C.wf]) ?_ | refine CallK.optE (R := []) (sim_b _) k3 (by kernel_rfl) rfl (by simp [V.wf, A.wf, C.wf]) ⟨roE_f (flat_c _) (l := 0) rfl (by omega) rfl (.inr rfl), roE_f (flat_i _) (l := 1) rfl (by omega) rfl (.inl rfl), trivial⟩ rfl ?_ | refine CallK.optE (R := []) (sim_b _) k4 (by kernel_rfl) rfl (by simp [V.wf, A.wf, C.wf]) ⟨roE_f (flat_c _) (l := 0) rfl (by omega) rfl (.inr rfl), roE_f (flat_i _) (l := 1) rfl (by omega) rfl (.inl rfl), trivial⟩ rfl ?_ | refine HD_mk (fun _ h => CallK.val (R := []) k5 (by kernel_rfl) rfl (by simp [V.wf, A.wf, C.wf]) ⟨roE_f (flat_c _) (l := 0) rfl (by omega) rfl (.inr rfl), trivial⟩ rfl rfl trivial h) ?_ | refine HD_mk (fun _ h => CallK.val (R := []) k6 (by kernel_rfl) rfl (by simp [V.wf, A.wf, C.wf]) ⟨roE_f (flat_c _) (l := 0) rfl (by omega) rfl (.inr rfl), trivial⟩ rfl rfl trivial h) ?_ | refine bs_bt (beq_self_eq_true _) ?_ | refine br_bt (beq_self_eq_true _) ?_ | refine HD_mk (fun _ h => CallK.val (R := [(0, some 3), (1, some 4)]) k7 (by kernel_rfl) rfl (by simp [V.wf, A.wf, C.wf]) ⟨roE_s (sim_b _) (l := 3) rfl (by omega) rfl (.inl rfl), roE_s (sim_b _) (l := 4) rfl (by omega) rfl (.inl rfl), trivial⟩ rfl rfl trivial h) ?_ | refine HD_mk (fun _ h => awake_k h) ?_ | refine bs_bt (Eq.refl true) ?_ | refine bs_bf (Eq.refl false) ?_ | refine br_bt (Eq.refl true) ?_ | refine br_bf (Eq.refl false) ?_ | refine CallK.m ?_ | refine Two.l ?_ | refine And.intro (And.intro rfl rfl) ?_)
  intro ρ; rfl
end
theorem fills_any (N : Int) (ps : List Cell) (l : List Int) (ao bo : Option Addr) (c d : Nat) (w : World) (h : CellsAt w ao c ps) (hb : IntsAt w bo l) (hF : Fct w.heap.size w) :
    Calls Tryd.prog 3 #[.agg #[.int .i64 N, .slice ao ps.length c], .slice bo l.length d] w fun e w' => e = .returned (.bool true) ∧ Below w.heap.size w w' := by
  by_cases hl : (ps.length : Int) > 60 ∨ (l.length : Int) > 60
  · exact isTrue_any (vs := [kV N ps, V.c (.sl 1 l.length)]) (fills_long N ps l h.2.2 hb.2 hl) (hp_ki (d := d) h hb hF) (by simp [V.wf, A.wf, C.wf]) rfl
  · have h1 : ¬ (ps.length : Int) > 60 := fun h => hl (.inl h)
    have h2 : ¬ (l.length : Int) > 60 := fun h => hl (.inr h)
    cases hv : okK' N ps with
    | false => exact isTrue_any (vs := [kV N ps, V.c (.sl 1 l.length)]) (fills_no N ps l h1 h2 hv) (hp_ki (d := d) h hb hF) (by simp [V.wf, A.wf, C.wf]) rfl
    | true =>
      obtain ⟨n, qs, rfl, rfl, hk⟩ := knd_of hv
      cases hf : isF n l with
      | false => exact isTrue_any (vs := [kV n (castP qs), V.c (.sl 1 l.length)]) (fills_err n qs l hk h2 71 (.inl ⟨hf, rfl⟩)) (hp_ki (d := d) h hb hF) (by simp [V.wf, A.wf, C.wf]) rfl
      | true =>
        cases hr : rgtP qs l with
        | false => exact isTrue_any (vs := [kV n (castP qs), V.c (.sl 1 l.length)]) (fills_err n qs l hk h2 5 (.inr ⟨hf, hr, rfl⟩)) (hp_ki (d := d) h hb hF) (by simp [V.wf, A.wf, C.wf]) rfl
        | true => exact isTrue_any (vs := [kV n (castP qs), V.c (.sl 1 l.length)]) (fills_ok n qs l hk h2 hf hr) (hp_ki (d := d) h hb hF) (by simp [V.wf, A.wf, C.wf]) rfl
end Go.Proofs.YtijnimgmpocmaaaDoor

/- Waste: what the listed variables give; a start that meets the condition. -/
namespace Go.Proofs.YtijnimgmpocmaaaDoor
open Go.RowKit
set_option linter.unusedVariables false
set_option linter.unusedSimpArgs false
open Go.ChangeShapes Go.WideShapes Go.ChangeAt Go.RowKit Go.Deep Go.Joins
abbrev laidV : List (String × DataW Unit) := [("math/bits.deBruijn32tab", Rows.laid_math_bits_deBruijn32tab), ("math/bits.deBruijn64tab", Rows.laid_math_bits_deBruijn64tab)]
theorem gTab : Tryd.prog.globalNamed "math/bits.deBruijn64tab" = some 1 := by kernel_rfl
theorem tTab : (Tryd.prog.globals[1]?).map (·.type) = some 120 := by kernel_rfl
theorem tabDat : (Rows.laid_math_bits_deBruijn64tab (H := Unit)) = .agg (Lib.deBruijn64tab.map fun n : Nat => .lit (.int .u8 n)) := rfl
set_option maxRecDepth 10000 in
theorem fct_of_laid {W : World} (h : laidMetH Tryd.prog laidV W) : Fct W.heap.size W := by
  have h' : laidMet Tryd.prog laidV W := h
  obtain ⟨ps, ⟨_, _, _, _, _, _, _, _, _, _, ⟨g, t, cs, fuel, p, q, hg, ht, hv, hd, _⟩, _⟩, _⟩ := h'
  obtain rfl := Option.some.inj (gTab.symm.trans hg)
  obtain rfl := Option.some.inj (tTab.symm.trans ht)
  rw [tabDat] at hd
  obtain ⟨xs, m, _, hx, hl, hxl, hgo⟩ := DataW.trod_array Tryd.underlying120 hd
  have hc1 : Tryd.prog.cellsOf 5 = 1 := by kernel_rfl
  have hc64 : Tryd.prog.cellsOf 120 = 64 := by kernel_rfl
  rw [hc64] at hl
  have hcell : ∀ j, j < Lib.deBruijn64tab.length → W.cell? ⟨1, j, none⟩ = some (.int .u8 (Lib.deBruijn64tab.getD j 0)) := by
    intro j hj
    have hj64 : j < 64 := hj
    have h3 := hgo j hj64
    rw [hc1, Nat.mul_one] at h3
    obtain ⟨y, hy⟩ : ∃ y, xs[j]? = some y := ⟨xs[j]'(by omega), List.getElem?_eq_getElem _⟩
    rw [hy] at h3
    obtain ⟨u, hu⟩ : ∃ u, cs.toList[j]? = some u := ⟨cs.toList[j]'(by omega), List.getElem?_eq_getElem _⟩
    have e1 : (cs.toList.drop j).take 1 = [u] := by
      rw [List.take_one, List.head?_drop, hu]; rfl
    rw [e1] at h3
    obtain ⟨z, e0, e2, _⟩ := DataW.trod_int Tryd.underlying5 h3
    have e0 : u = .int .u8 z := by simpa using e0
    have hxm : xs.map (·.1) = Lib.deBruijn64tab.map fun n : Nat => (DataW.lit (.int .u8 n) : DataW Unit) := by
      have := congrArg Prod.fst hx
      simp only [DataW.agg.injEq] at this
      exact this.symm
    have hym : (xs.map (·.1))[j]? = some y.1 := by rw [List.getElem?_map, hy]; rfl
    rw [hxm, List.getElem?_map] at hym
    have hz : (DataW.lit (.int .u8 (Lib.deBruijn64tab.getD j 0 : Nat)) : DataW Unit) = y.1 := by
      rw [List.getElem?_eq_getElem hj] at hym
      simp only [Option.map_some, Option.some.injEq] at hym
      rw [← hym, List.getD_eq_getElem?_getD, List.getElem?_eq_getElem hj]; rfl
    have hzz : (Lib.deBruijn64tab.getD j 0 : Int) = z := by
      rw [e2] at hz
      simpa using hz
    have hw := World.var?_cell gTab hv j
    rw [hw]
    have : cs[j]? = some u := by rw [← Array.getElem?_toList]; exact hu
    rw [this, e0, hzz]
  have h0 := hcell 0 (by decide)
  have hlt := World.block_lt_of_cell? _ _ h0
  refine ⟨hlt, ?_⟩
  have h1 := h0
  unfold World.cell? at h1
  cases hb : W.heap[1]? with
  | none => simp [hb] at h1
  | some o =>
    cases o with
    | cells c t fr => exact ⟨c, t, fr, rfl, hcell⟩
    | _ => simp [hb] at h1
theorem door_met (os : Os) (args : Array Value) : laidMetH Tryd.prog laidV ((World.doorLaid Tryd.prog 19 os).forCall (fun _ _ => 0) ⟨#[], args, []⟩).memory :=
  laidMetH_of_parts3 (fuel := 8) (laidMet_of_run' 8 (by kernel_rfl) (by kernel_rfl)) (by kernel_rfl) (by kernel_rfl)
end Go.Proofs.YtijnimgmpocmaaaDoor

