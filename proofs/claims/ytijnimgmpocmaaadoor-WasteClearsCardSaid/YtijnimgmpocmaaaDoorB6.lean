/- Texts of the proof, part 6: F4, L3, U1, U2, U3, U4, U5, U6, L9, D1. -/
import Derived.Test.YtijnimgmpocmaaaDoorB5
import Derived.WalkKit
import Derived.Below
import Derived.Lib.TrailingZeros
import Derived.Laws.OwnMore
import Derived.Maps.AppendAt
import Derived.Laws.IdiomCopy
import Derived.Laws.CopyRow
import Derived.IntWalk
import Derived.StillTail
import Derived.Scope
import Derived.ChangeKeysEq
import Derived.Laws.Small
import Derived.OrdersIn
import Derived.TacticsIn
import Derived.OwnWalkIn
import Derived.RangeFuncNested
import Derived.RangeFuncLeaves
import Derived.RangeFuncRecord
import Derived.Maps.Keyed
import Derived.Maps.RangeRun
import Derived.DeepKeys4
import Derived.Test.YtijnimgmpocmaaaDoorRows
import Derived.KernelRfl
import Derived.ProofKit
import Derived.OpenShut
import Derived.Lib.SmallJoins
import Derived.Deep.Slices
import Derived.Shelf.Spec.TrailingZeros
import Derived.LaidMore
import Derived.Stop.Joined
/- Waste: Clears, and the document's Right and Clears. -/
namespace Go.Proofs.YtijnimgmpocmaaaDoor
open Go.RowKit
set_option linter.unusedVariables false
set_option linter.unusedSimpArgs false
/-- The order of loading that a filling clears. -/
def clrL (qs : List (Nat × Nat)) (l : List Int) : List Bool := qs.map fun p => decide (l.getD p.1 0 < l.getD p.2 0)
theorem clrL_len (qs : List (Nat × Nat)) (l : List Int) : (clrL qs l).length = qs.length := by simp [clrL]
theorem clrL_take {qs : List (Nat × Nat)} {l : List Int} {k : Nat} (h : k < qs.length) : (clrL (qs.take k) l).map C.bool ++ [C.bool (decide (l.getD (qs.getD k (0, 0)).1 0 < l.getD (qs.getD k (0, 0)).2 0))] = (clrL (qs.take (k + 1)) l).map C.bool := by
  have e : qs[k]?.toList = [qs.getD k (0, 0)] := by rw [List.getD_eq_getElem?_getD, List.getElem?_eq_getElem h]; rfl
  rw [List.take_add_one, e]
  simp [clrL]
section
variable (n : Nat) (qs : List (Nat × Nat)) (l : List Int) (hk : Knd n qs) (hll : l.length ≤ 300)
set_option maxRecDepth 10000 in
set_option maxHeartbeats 4000000 in
include hk hll in
theorem Clears_err (Er : Int) (he : (isF n l = false ∧ Er = 71) ∨ (isF n l = true ∧ rgtP qs l = false ∧ Er = 5)) : Spec Tryd.prog 19 [kV n (castP qs), V.c (.sl 1 l.length)] [⟨0, .ro 2, cellC (castP qs)⟩, ⟨1, .ro 0, l.map C.i⟩] 2 (Is (V.tup [A.c .nil, A.c (C.i Er)])) := by
  have hnt := newTable_spec n qs hk
  have htl := tabS_len n qs
  have hfi := filled_spec (tabS n qs) n l hll hk.rng.2
  refine Spec.of tok Tryd.func19 rfl rfl rfl fun n0 cx => vc_ok tok ?_
  rcases he with ⟨hf, rfl⟩ | ⟨hf, hr, rfl⟩
  · rw [hf] at hfi
    repeat ((conv => whnf); first | (refine And.intro (by first | omega | exact Nat.le_of_ble_eq_true rfl | (dsimp only [inK]; omega) | (simp only [mulS_eq]; omega) | (simp only [mulS_eq, setL_length]; omega) | (simp only [setL_length]; omega) | (simp only [setL_length, List.length_map]; omega) | (exact ⟨by omega, by omega, by first | exact Nat.le_of_ble_eq_true rfl | (dsimp only; omega) | (simp only [setL_length]; omega) | (simp only [setL_length, List.length_map]; omega)⟩) | (exact ⟨by omega, by first | rfl | omega, by omega, Nat.le_of_ble_eq_true rfl, Nat.le_of_ble_eq_true rfl⟩) | (exact ⟨rfl, rfl, rfl, Nat.le_of_ble_eq_true rfl, by first | rfl | omega | exact Nat.le_of_ble_eq_true rfl | (dsimp only; omega) | (simp; done) | (simp; omega), by first | rfl | omega | exact Nat.le_of_ble_eq_true rfl | (dsimp only; omega) | (simp; done) | (simp; omega), by omega, Nat.le_of_ble_eq_true rfl⟩) | exact Eq.refl true) ?_) | refine Exists.intro _ (And.intro rfl ?_) | refine And.intro (And.intro rfl (chk_rowI _ _ _ _)) ?_ | refine br_t (by omega) ?_ | refine br_f (by omega) ?_ | refine bs_t (by omega) ?_ | refine bs_f (by omega) ?_ | refine fun (K' : K3) hK' => ?_ | (refine hK' _ _ _ ?_; clear hK' K') | refine draw_auto tok mixed (by kernel_rfl) ?_ | refine CallK.rowE (R := []) (flat_u _) hnt (by kernel_rfl) rfl (by simp [V.wf, A.wf, C.wf]) ⟨roE_f (flat_c _) (l := 0) rfl (by omega) rfl (.inr rfl), trivial⟩ rfl ?_ | refine CallK.val (R := [(0, some 3)]) hfi (by kernel_rfl) rfl (by simp [V.wf, A.wf, C.wf]) ⟨roE_f (flat_u _) (l := 3) rfl (by omega) rfl (.inl rfl), roE_f (flat_i _) (l := 1) rfl (by omega) rfl (.inl rfl), trivial⟩ rfl rfl trivial ?_ | refine bs_bt (Eq.refl true) ?_ | refine bs_bf (Eq.refl false) ?_ | refine br_bt (Eq.refl true) ?_ | refine br_bf (Eq.refl false) ?_ | refine CallK.m ?_ | refine Two.l ?_ | refine And.intro (And.intro rfl rfl) ?_)
    intro ρ; rfl
  · have hln := isF_len hf
    have hri := right_spec (tabS n qs) n l htl hk.rng.2 (tabS_lt hk.ok) hln
    rw [rgt_eq hk, hr] at hri
    rw [hf] at hfi
    rw [← hln] at hri hfi hnt ⊢
    repeat ((conv => whnf); first | (refine And.intro (by first | omega | exact Nat.le_of_ble_eq_true rfl | (dsimp only [inK]; omega) | (simp only [mulS_eq]; omega) | (simp only [mulS_eq, setL_length]; omega) | (simp only [setL_length]; omega) | (simp only [setL_length, List.length_map]; omega) | (exact ⟨by omega, by omega, by first | exact Nat.le_of_ble_eq_true rfl | (dsimp only; omega) | (simp only [setL_length]; omega) | (simp only [setL_length, List.length_map]; omega)⟩) | (exact ⟨by omega, by first | rfl | omega, by omega, Nat.le_of_ble_eq_true rfl, Nat.le_of_ble_eq_true rfl⟩) | (exact ⟨rfl, rfl, rfl, Nat.le_of_ble_eq_true rfl, by first | rfl | omega | exact Nat.le_of_ble_eq_true rfl | (dsimp only; omega) | (simp; done) | (simp; omega), by first | rfl | omega | exact Nat.le_of_ble_eq_true rfl | (dsimp only; omega) | (simp; done) | (simp; omega), by omega, Nat.le_of_ble_eq_true rfl⟩) | exact Eq.refl true) ?_) | refine Exists.intro _ (And.intro rfl ?_) | refine And.intro (And.intro rfl (chk_rowI _ _ _ _)) ?_ | refine br_t (by omega) ?_ | refine br_f (by omega) ?_ | refine bs_t (by omega) ?_ | refine bs_f (by omega) ?_ | refine fun (K' : K3) hK' => ?_ | (refine hK' _ _ _ ?_; clear hK' K') | refine draw_auto tok mixed (by kernel_rfl) ?_ | refine CallK.rowE (R := []) (flat_u _) hnt (by kernel_rfl) rfl (by simp [V.wf, A.wf, C.wf]) ⟨roE_f (flat_c _) (l := 0) rfl (by omega) rfl (.inr rfl), trivial⟩ rfl ?_ | refine CallK.val (R := [(0, some 3)]) hfi (by kernel_rfl) rfl (by simp [V.wf, A.wf, C.wf]) ⟨roE_f (flat_u _) (l := 3) rfl (by omega) rfl (.inl rfl), roE_f (flat_i _) (l := 1) rfl (by omega) rfl (.inl rfl), trivial⟩ rfl rfl trivial ?_ | refine CallK.val (R := [(0, some 3)]) hri (by kernel_rfl) rfl (by simp [V.wf, A.wf, C.wf]) ⟨roE_f (flat_u _) (l := 3) rfl (by omega) rfl (.inl rfl), roE_f (flat_i _) (l := 1) rfl (by omega) rfl (.inl rfl), trivial⟩ rfl rfl trivial ?_ | refine bs_bt (Eq.refl true) ?_ | refine bs_bf (Eq.refl false) ?_ | refine br_bt (Eq.refl true) ?_ | refine br_bf (Eq.refl false) ?_ | refine CallK.m ?_ | refine Two.l ?_ | refine And.intro (And.intro rfl rfl) ?_)
    intro ρ; rfl
set_option maxRecDepth 10000 in
set_option maxHeartbeats 8000000 in
include hk hll in
theorem Clears_ok (hf : isF n l = true) (hr : rgtP qs l = true) : Spec Tryd.prog 19 [kV n (castP qs), V.c (.sl 1 l.length)] [⟨0, .ro 2, cellC (castP qs)⟩, ⟨1, .ro 0, l.map C.i⟩] 2 (fun v L' _ => optE 4 1 qs.length ((clrL qs l).map C.bool) 0 v L') := by
  have hnt := newTable_spec n qs hk
  have htl := tabS_len n qs
  have hql := knd_len hk
  have hpl := castP_len qs
  have hcl := cellC_len (castP qs)
  have hfi := filled_spec (tabS n qs) n l hll hk.rng.2
  have hln := isF_len hf
  have hri := right_spec (tabS n qs) n l htl hk.rng.2 (tabS_lt hk.ok) hln
  have hlm : (l.map C.i).length = l.length := List.length_map _
  have hn := hk.rng
  rw [rgt_eq hk, hr] at hri
  rw [hf] at hfi
  have hget := fun {k : Nat} (h : k < qs.length) => hk.get h
  rw [← hln] at hri hfi hnt hget ⊢
  refine Spec.of tok Tryd.func19 rfl rfl rfl fun n0 cx => vc_ok tok ?_
  repeat ((conv => whnf); first | (refine And.intro (by first | omega | exact Nat.le_of_ble_eq_true rfl | (dsimp only [inK]; omega) | (simp only [mulS_eq]; omega) | (simp only [mulS_eq, setL_length]; omega) | (simp only [setL_length]; omega) | (simp only [setL_length, List.length_map]; omega) | (exact ⟨by omega, by omega, by first | exact Nat.le_of_ble_eq_true rfl | (dsimp only; omega) | (simp only [setL_length]; omega) | (simp only [setL_length, List.length_map]; omega)⟩) | (exact ⟨by omega, by first | rfl | omega, by omega, Nat.le_of_ble_eq_true rfl, Nat.le_of_ble_eq_true rfl⟩) | (exact ⟨rfl, rfl, rfl, Nat.le_of_ble_eq_true rfl, by first | rfl | omega | exact Nat.le_of_ble_eq_true rfl | (dsimp only; omega) | (simp; done) | (simp; omega), by first | rfl | omega | exact Nat.le_of_ble_eq_true rfl | (dsimp only; omega) | (simp; done) | (simp; omega), by omega, Nat.le_of_ble_eq_true rfl⟩) | exact Eq.refl true) ?_) | refine Exists.intro _ (And.intro rfl ?_) | refine And.intro (And.intro rfl (chk_rowI _ _ _ _)) ?_ | refine br_t (by omega) ?_ | refine br_f (by omega) ?_ | refine bs_t (by omega) ?_ | refine bs_f (by omega) ?_ | refine fun (K' : K3) hK' => ?_ | (refine hK' _ _ _ ?_; clear hK' K') | refine draw_auto tok mixed (by kernel_rfl) ?_ | refine CallK.rowE (R := []) (flat_u _) hnt (by kernel_rfl) rfl (by simp [V.wf, A.wf, C.wf]) ⟨roE_f (flat_c _) (l := 0) rfl (by omega) rfl (.inr rfl), trivial⟩ rfl ?_ | refine CallK.val (R := [(0, some 3)]) hfi (by kernel_rfl) rfl (by simp [V.wf, A.wf, C.wf]) ⟨roE_f (flat_u _) (l := 3) rfl (by omega) rfl (.inl rfl), roE_f (flat_i _) (l := 1) rfl (by omega) rfl (.inl rfl), trivial⟩ rfl rfl trivial ?_ | refine CallK.val (R := [(0, some 3)]) hri (by kernel_rfl) rfl (by simp [V.wf, A.wf, C.wf]) ⟨roE_f (flat_u _) (l := 3) rfl (by omega) rfl (.inl rfl), roE_f (flat_i _) (l := 1) rfl (by omega) rfl (.inl rfl), trivial⟩ rfl rfl trivial ?_ | refine bs_bt (Eq.refl true) ?_ | refine bs_bf (Eq.refl false) ?_ | refine br_bt (Eq.refl true) ?_ | refine br_bf (Eq.refl false) ?_ | refine CallK.m ?_ | refine Two.l ?_ | refine And.intro (And.intro rfl rfl) ?_)
  refine Tri.loop (γ := Nat) (fun k => k ≤ qs.length) (fun k => [(1, V.c (.sl 1 l.length)), (2, V.c (.ptr 2 0)), (4, V.c .nil), (5, V.i 0), (8, V.c (.sl 4 k)), (31, V.c (.sl 0 (castP qs).length)), (32, V.i (castP qs).length), (33, V.i (k : Nat))])
    (fun k => [⟨4, .vec 4 1, (clrL (qs.take k) l).map C.bool⟩, ⟨2, .own 24, [C.i l.length, .sl 0 (castP qs).length]⟩, ⟨0, .ro 2, cellC (castP qs)⟩, ⟨1, .ro 0, l.map C.i⟩]) 5 (fun k => qs.length - k) 0 (R0 := [(4, none)]) ?_ ?_ ?_
  · omega
  · skip
    refine ⟨?_, ?_, rfl, rfl, by first | exact Nat.le_of_ble_eq_true rfl | exact Nat.le_refl _ | omega⟩
    · repeat (first | exact trivial | (refine And.intro (covS_syn (by rfl) rfl (by first | exact trivial | exact Nat.le_of_ble_eq_true rfl | exact hy | exact (fun p hp => nomatch hp) | (show (_ : Nat) < _; omega))) ?_) | refine And.intro (covS_bool rfl rfl (by rfl)) ?_)
    · repeat (first | exact trivial | refine And.intro (covE_s (sim_c _) rfl (Nat.le_of_ble_eq_true rfl) rfl rfl) ?_ | refine And.intro (covE_nil rfl (Nat.le_of_ble_eq_true rfl) rfl rfl) ?_ | (refine And.intro (covE_some rfl (Nat.le_of_ble_eq_true rfl) (by first | exact wf_ints _ _ | exact wf_bools _ _ | first | exact wf_us _ _ | exact wf_cells _ _ | exact wf_bools _ _ | (simp [C.wf]; done) | simp [C.wf]) rfl (by first | exact ren_ints _ _ | exact ren_bools _ _ | exact ren_shares _ _ | rfl)) ?_))
  · intro k hkk
    refine vc_ok tok ?_
    by_cases hlt : k < qs.length
    · have hld := cellT (l := castP qs) (k := k) rfl (by omega)
      change takeC (cellC (castP qs)) (mulS ((k : Nat) : Int).toNat 2) 2 = some [C.i ((castP qs).getD k cz).1, C.i ((castP qs).getD k cz).2] at hld
      rw [castP_get hlt] at hld
      have hsucc := clrL_take (l := l) hlt
      have hpq := hget hlt
      obtain ⟨p, hp⟩ : ∃ p, p = qs.getD k (0, 0) := ⟨_, rfl⟩
      rw [← hp] at hld hsucc hpq
      obtain ⟨a, b⟩ := p
      simp only at hld hsucc hpq
      have hla : (l.map C.i)[mulS ((a : Nat) : Int).toNat 1]? = some (C.i (l.getD a 0)) := intLz rfl (by omega)
      have hlb : (l.map C.i)[mulS ((b : Nat) : Int).toNat 1]? = some (C.i (l.getD b 0)) := intLz rfl (by omega)
      have hcm : ((clrL (qs.take k) l).map C.bool).length = k := by rw [List.length_map, clrL_len, List.length_take]; omega
      repeat ((conv => whnf); first | (refine And.intro (by first | omega | exact Nat.le_of_ble_eq_true rfl | (dsimp only [inK]; omega) | (simp only [mulS_eq]; omega) | (simp only [mulS_eq, setL_length]; omega) | (simp only [setL_length]; omega) | (simp only [setL_length, List.length_map]; omega) | (exact ⟨by omega, by omega, by first | exact Nat.le_of_ble_eq_true rfl | (dsimp only; omega) | (simp only [setL_length]; omega) | (simp only [setL_length, List.length_map]; omega)⟩) | (exact ⟨by omega, by first | rfl | omega, by omega, Nat.le_of_ble_eq_true rfl, Nat.le_of_ble_eq_true rfl⟩) | (exact ⟨rfl, rfl, rfl, Nat.le_of_ble_eq_true rfl, by first | rfl | omega | exact Nat.le_of_ble_eq_true rfl | (dsimp only; omega) | (simp; done) | (simp; omega), by first | rfl | omega | exact Nat.le_of_ble_eq_true rfl | (dsimp only; omega) | (simp; done) | (simp; omega), by omega, Nat.le_of_ble_eq_true rfl⟩) | exact Eq.refl true) ?_) | with_reducible refine ld (hld) ?_ | with_reducible refine ld (hla) ?_ | with_reducible refine ld (hlb) ?_ | refine Exists.intro _ (And.intro rfl ?_) | refine And.intro (And.intro rfl (chk_rowI _ _ _ _)) ?_ | refine br_t (by omega) ?_ | refine br_f (by omega) ?_ | refine bs_t (by omega) ?_ | refine bs_f (by omega) ?_ | refine fun (K' : K3) hK' => ?_ | (refine hK' _ _ _ ?_; clear hK' K') | refine draw_kill [4] tok mixed (by decide +kernel) ?_ | refine draw_auto tok mixed (by kernel_rfl) ?_ | refine And.intro (And.intro rfl (chk_s hsucc (sim_b _) _ _ _)) ?_ | refine bs_bt (Eq.refl true) ?_ | refine bs_bf (Eq.refl false) ?_ | refine br_bt (Eq.refl true) ?_ | refine br_bf (Eq.refl false) ?_ | refine CallK.m ?_ | refine Two.l ?_ | refine And.intro (And.intro rfl rfl) ?_)
      refine ⟨k + 1, [(4, some 7)], by omega, by omega, ?_⟩
      refine ⟨?_, ?_, rfl, rfl, by first | exact Nat.le_of_ble_eq_true rfl | exact Nat.le_refl _ | omega⟩
      · repeat (first | exact trivial | (refine And.intro (covS_syn (by first | rfl | (refine congrArg some (congrArg V.i ?_); omega)) rfl (by first | exact trivial | exact Nat.le_of_ble_eq_true rfl | exact hy | exact (fun p hp => nomatch hp) | (show (_ : Nat) < _; omega))) ?_) | refine And.intro (covS_bool rfl rfl (by rfl)) ?_)
      · repeat (first | exact trivial | refine And.intro (covE_s (sim_b _) rfl (Nat.le_of_ble_eq_true rfl) rfl hsucc) ?_ | refine And.intro (covE_s (sim_c _) rfl (Nat.le_of_ble_eq_true rfl) rfl rfl) ?_ | refine And.intro (covE_nil rfl (Nat.le_of_ble_eq_true rfl) rfl rfl) ?_ | (refine And.intro (covE_some rfl (Nat.le_of_ble_eq_true rfl) (by first | exact wf_ints _ _ | exact wf_bools _ _ | first | exact wf_us _ _ | exact wf_cells _ _ | exact wf_bools _ _ | (simp [C.wf]; done) | simp [C.wf]) rfl (by first | exact ren_ints _ _ | exact ren_bools _ _ | exact ren_shares _ _ | rfl)) ?_))
    · obtain rfl : k = qs.length := by omega
      rw [List.take_length]
      repeat ((conv => whnf); first | (refine And.intro (by first | omega | exact Nat.le_of_ble_eq_true rfl | (dsimp only [inK]; omega) | (simp only [mulS_eq]; omega) | (simp only [mulS_eq, setL_length]; omega) | (simp only [setL_length]; omega) | (simp only [setL_length, List.length_map]; omega) | (exact ⟨by omega, by omega, by first | exact Nat.le_of_ble_eq_true rfl | (dsimp only; omega) | (simp only [setL_length]; omega) | (simp only [setL_length, List.length_map]; omega)⟩) | (exact ⟨by omega, by first | rfl | omega, by omega, Nat.le_of_ble_eq_true rfl, Nat.le_of_ble_eq_true rfl⟩) | (exact ⟨rfl, rfl, rfl, Nat.le_of_ble_eq_true rfl, by first | rfl | omega | exact Nat.le_of_ble_eq_true rfl | (dsimp only; omega) | (simp; done) | (simp; omega), by first | rfl | omega | exact Nat.le_of_ble_eq_true rfl | (dsimp only; omega) | (simp; done) | (simp; omega), by omega, Nat.le_of_ble_eq_true rfl⟩) | exact Eq.refl true) ?_) | refine Exists.intro _ (And.intro rfl ?_) | refine And.intro (And.intro rfl (chk_rowI _ _ _ _)) ?_ | refine br_t (by omega) ?_ | refine br_f (by omega) ?_ | refine bs_t (by omega) ?_ | refine bs_f (by omega) ?_ | refine fun (K' : K3) hK' => ?_ | (refine hK' _ _ _ ?_; clear hK' K') | refine draw_auto tok mixed (by kernel_rfl) ?_ | refine bs_bt (Eq.refl true) ?_ | refine bs_bf (Eq.refl false) ?_ | refine br_bt (Eq.refl true) ?_ | refine br_bf (Eq.refl false) ?_ | refine CallK.m ?_ | refine Two.l ?_ | refine And.intro (And.intro rfl rfl) ?_)
      exact .inr ⟨4, rfl, rfl⟩
set_option maxRecDepth 10000 in
set_option maxHeartbeats 4000000 in
include hk hll in
set_option maxRecDepth 10000 in
set_option maxHeartbeats 4000000 in
include hk hll in
set_option maxRecDepth 10000 in
set_option maxHeartbeats 4000000 in
include hk hll in
set_option maxRecDepth 10000 in
set_option maxHeartbeats 8000000 in
include hk hll in
end
end Go.Proofs.YtijnimgmpocmaaaDoor

/- Waste: the law of the fillings. -/
namespace Go.Proofs.YtijnimgmpocmaaaDoor
open Go.RowKit
set_option linter.unusedVariables false
set_option linter.unusedSimpArgs false
theorem long_spec (m : Nat) (hm : m < 9223372036854775808) : Spec Tryd.prog 15 [V.c (.sl 0 m)] [] 1 (Is (V.c (.bool (decide ((m : Int) > 60))))) := by
  refine Spec.of tok Tryd.func15 rfl rfl rfl fun n0 cx => vc_ok tok ?_
  repeat ((conv => whnf); first | (refine And.intro (by first | omega | exact Nat.le_of_ble_eq_true rfl | (dsimp only [inK]; omega) | (simp only [mulS_eq]; omega) | (simp only [mulS_eq, setL_length]; omega) | (simp only [setL_length]; omega) | (simp only [setL_length, List.length_map]; omega) | (exact ⟨by omega, by omega, by first | exact Nat.le_of_ble_eq_true rfl | (dsimp only; omega) | (simp only [setL_length]; omega) | (simp only [setL_length, List.length_map]; omega)⟩) | (exact ⟨by omega, by first | rfl | omega, by omega, Nat.le_of_ble_eq_true rfl, Nat.le_of_ble_eq_true rfl⟩) | (exact ⟨rfl, rfl, rfl, Nat.le_of_ble_eq_true rfl, by first | rfl | omega | exact Nat.le_of_ble_eq_true rfl | (dsimp only; omega) | (simp; done) | (simp; omega), by first | rfl | omega | exact Nat.le_of_ble_eq_true rfl | (dsimp only; omega) | (simp; done) | (simp; omega), by omega, Nat.le_of_ble_eq_true rfl⟩) | exact Eq.refl true) ?_) | refine Exists.intro _ (And.intro rfl ?_) | refine And.intro (And.intro rfl (chk_rowI _ _ _ _)) ?_ | refine br_t (by omega) ?_ | refine br_f (by omega) ?_ | refine bs_t (by omega) ?_ | refine bs_f (by omega) ?_ | refine fun (K' : K3) hK' => ?_ | (refine hK' _ _ _ ?_; clear hK' K') | refine draw_auto tok mixed (by kernel_rfl) ?_ | refine bs_bt (Eq.refl true) ?_ | refine bs_bf (Eq.refl false) ?_ | refine br_bt (Eq.refl true) ?_ | refine br_bf (Eq.refl false) ?_ | refine CallK.m ?_ | refine Two.l ?_ | refine And.intro (And.intro rfl rfl) ?_)
  intro ρ; rfl
section
variable {n0 nx : Nat} {L : List E} {K : V → List E → Nat → Prop}
theorem long_k {m a : Nat} (hm : m < 9223372036854775808) (hK : K (V.c (.bool (decide ((m : Int) > 60)))) [] nx) : CallK Tryd.prog n0 15 [V.c (.sl a m)] L nx K :=
  CallK.val (R := [(0, some a)]) (long_spec m hm) (by kernel_rfl) rfl (by simp [V.wf, A.wf, C.wf]) trivial rfl rfl trivial hK
end
section
variable (N : Int) (ps : List Cell) (l : List Int)
end
section
variable (n : Nat) (qs : List (Nat × Nat)) (l : List Int) (hk : Knd n qs) (h2 : ¬ (l.length : Int) > 60)
include hk h2
end
end Go.Proofs.YtijnimgmpocmaaaDoor

/- Waste: orders of loading of a set, as the program counts them. -/
namespace Go.Proofs.YtijnimgmpocmaaaDoor
open Go.RowKit
set_option linter.unusedVariables false
set_option linter.unusedSimpArgs false
def dif (s f : Nat) : Nat := s ^^^ (s &&& f)
theorem dif_bit (s f b : Nat) : (dif s f).testBit b = (s.testBit b && !f.testBit b) := by
  unfold dif
  rw [Nat.testBit_xor, Nat.testBit_and]
  cases s.testBit b <;> cases f.testBit b <;> rfl
theorem bit_andNot {x y : Nat} (hx : x < 18446744073709551616) (hy : y < 18446744073709551616) : bitI .andNot .u64 (x : Int) (y : Int) = ((dif x y : Nat) : Int) := by
  show IntKind.u64.wrap ((BitVec.ofInt 64 (x : Int) &&& ~~~BitVec.ofInt 64 (y : Int)).toNat : Int) = _
  have h : (BitVec.ofInt 64 (x : Int) &&& ~~~BitVec.ofInt 64 (y : Int)).toNat = dif x y := by
    apply Nat.eq_of_testBit_eq
    intro i
    rw [dif_bit, BitVec.testBit_toNat, BitVec.getLsbD_and, BitVec.getLsbD_not, ← BitVec.testBit_toNat, ← BitVec.testBit_toNat, bv_nat hx, bv_nat hy]
    rcases Nat.lt_or_ge i 64 with h | h
    · simp [h]
    · have : x.testBit i = false := Nat.testBit_lt_two_pow (Nat.lt_of_lt_of_le (show x < 2 ^ 64 by omega) (Nat.pow_le_pow_right (by omega) h))
      simp [this]
  rw [h]
  have h2 : dif x y < 2 ^ 64 := Nat.xor_lt_two_pow (by omega) (Nat.and_lt_two_pow _ (by omega))
  exact u64_nat (by omega)
/-- The sets below f within s, from f on. -/
def chn (s : Nat) : Nat → Nat → List Nat
  | 0, _ => []
  | n + 1, f => if f = 0 then [] else f :: chn s n ((f - 1) &&& s)
theorem chn_fuel (s : Nat) : ∀ (n f : Nat), f ≤ n → ∀ m, f ≤ m → chn s n f = chn s m f
  | 0, f, h, m, _ => by
    obtain rfl : f = 0 := by omega
    cases m <;> simp [chn]
  | n + 1, f, h, m, hm => by
    cases m with
    | zero =>
      obtain rfl : f = 0 := by omega
      simp [chn]
    | succ m =>
      simp only [chn]
      by_cases h0 : f = 0
      · rw [if_pos h0, if_pos h0]
      · rw [if_neg h0, if_neg h0]
        have : (f - 1) &&& s ≤ f - 1 := Nat.and_le_left
        rw [chn_fuel s n _ (by omega) m (by omega)]
theorem chn_mem (s : Nat) : ∀ (n f : Nat), f &&& s = f → ∀ g ∈ chn s n f, g ≠ 0 ∧ g &&& s = g
  | 0, _, _, g, h => by simp [chn] at h
  | n + 1, f, hf, g, h => by
    simp only [chn] at h
    split at h
    · cases h
    · rename_i h0
      rcases List.mem_cons.1 h with rfl | h
      · exact ⟨h0, hf⟩
      · exact chn_mem s n _ (by rw [Nat.and_assoc, Nat.and_self]) g h
def chS (s : Nat) : List Nat := chn s s s
theorem chS_mem {s g : Nat} (h : g ∈ chS s) : g ≠ 0 ∧ g &&& s = g := chn_mem s s s (Nat.and_self s) g h
theorem dif_lt {s f : Nat} (h0 : f ≠ 0) (hf : f &&& s = f) : dif s f < s := by
  have h1 : dif s f &&& s = dif s f := by
    apply Nat.eq_of_testBit_eq; intro b
    rw [Nat.testBit_and, dif_bit]
    cases s.testBit b <;> cases f.testBit b <;> rfl
  have h2 : dif s f ≤ s := by rw [← h1]; exact Nat.and_le_right
  rcases Nat.lt_or_ge (dif s f) s with h | h
  · exact h
  · exfalso
    have he : dif s f = s := by omega
    apply h0
    apply Nat.eq_of_testBit_eq; intro b
    rw [Nat.zero_testBit]
    have h3 : (dif s f).testBit b = s.testBit b := by rw [he]
    rw [dif_bit] at h3
    have h4 : f.testBit b = (f.testBit b && s.testBit b) := by rw [← Nat.testBit_and, hf]
    cases hs : s.testBit b <;> cases hff : f.testBit b <;> simp [hs, hff] at h3 h4 ⊢
def sgT (t : List Nat) (f : Nat) (x : Int) : Int := if aptS t f = true then (if (bitsL f).length % 2 = 1 then x else -x) else 0
def LDf (t : List Nat) : Nat → Nat → Int
  | 0, _ => 0
  | n + 1, s => if s = 0 then 1 else sumL (chS s) fun f => sgT t f (LDf t n (dif s f))
theorem LDf_fuel (t : List Nat) : ∀ (n s : Nat), s < n → ∀ m, s < m → LDf t n s = LDf t m s
  | 0, s, h, _, _ => by omega
  | n + 1, s, h, m, hm => by
    cases m with
    | zero => omega
    | succ m =>
      simp only [LDf]
      by_cases h0 : s = 0
      · rw [if_pos h0, if_pos h0]
      · rw [if_neg h0, if_neg h0]
        refine sumL_congr fun f hf => ?_
        obtain ⟨h1, h2⟩ := chS_mem hf
        have := dif_lt h1 h2
        rw [LDf_fuel t n _ (by omega) m (by omega)]
def LD (t : List Nat) (s : Nat) : Int := LDf t (s + 1) s
theorem LD_zero (t : List Nat) : LD t 0 = 1 := by simp [LD, LDf]
theorem LD_rec (t : List Nat) {s : Nat} (h : s ≠ 0) : LD t s = sumL (chS s) fun f => sgT t f (LD t (dif s f)) := by
  show LDf t (s + 1) s = _
  rw [LDf, if_neg h]
  refine sumL_congr fun f hf => ?_
  obtain ⟨h1, h2⟩ := chS_mem hf
  have := dif_lt h1 h2
  unfold LD
  rw [LDf_fuel t s _ this _ (Nat.lt_succ_self _)]
/-- The most. -/
def fub (k : Nat) : Int := [1, 1, 3, 13, 75, 541, 4683, 47293, 545835].getD k 0
def fubS (s : Nat) : Int := fub (bitsL s).length
theorem fub_fact : ∀ s, s < 256 → s ≠ 0 → sumL (chS s) (fun f => fubS (dif s f)) ≤ fubS s := by decide +kernel
theorem fubS_pos : ∀ s, s < 256 → 1 ≤ fubS s ∧ fubS s ≤ 545835 := by decide +kernel
theorem sgT_abs (t : List Nat) (f : Nat) {x B : Int} (h : -B ≤ x ∧ x ≤ B) : -B ≤ sgT t f x ∧ sgT t f x ≤ B := by
  unfold sgT
  split
  · split <;> omega
  · omega
theorem sumL_abs {α : Type} {l : List α} {f g : α → Int} (h : ∀ a ∈ l, -(g a) ≤ f a ∧ f a ≤ g a) : -(sumL l g) ≤ sumL l f ∧ sumL l f ≤ sumL l g := by
  induction l with
  | nil => simp [sumL]
  | cons a r ih =>
    have h1 := h a (by simp)
    have h2 := ih fun b hb => h b (by simp [hb])
    simp only [sumL, List.map_cons, List.sum_cons] at h2 ⊢
    omega
theorem LD_bd (t : List Nat) : ∀ (n s : Nat), s < n → s < 256 → -(fubS s) ≤ LD t s ∧ LD t s ≤ fubS s
  | 0, s, h, _ => by omega
  | n + 1, s, h, hs => by
    by_cases h0 : s = 0
    · subst h0; rw [LD_zero]; have := fubS_pos 0 (by omega); omega
    · rw [LD_rec t h0]
      have h1 := sumL_abs (l := chS s) (f := fun f => sgT t f (LD t (dif s f))) (g := fun f => fubS (dif s f)) fun f hf => by
        obtain ⟨h2, h3⟩ := chS_mem hf
        have h4 := dif_lt h2 h3
        exact sgT_abs t f (LD_bd t n _ (by omega) (by omega))
      have h2 := fub_fact s hs h0
      omega
theorem sumL_cons {α : Type} (a : α) (l : List α) (f : α → Int) : sumL (a :: l) f = f a + sumL l f := by simp [sumL]
end Go.Proofs.YtijnimgmpocmaaaDoor

/- Waste: everything, size, loadings. -/
namespace Go.Proofs.YtijnimgmpocmaaaDoor
open Go.RowKit
set_option linter.unusedVariables false
set_option linter.unusedSimpArgs false
theorem every_spec (n m : Nat) (hn : n ≤ 8) : Spec Tryd.prog 94 [V.c (.sl 0 n)] [] 1 (Is (V.u (2 ^ n - 1))) := by
  have h1 := pow_8 hn
  have h0 : 0 < 2 ^ n := Nat.two_pow_pos n
  have h2 : ((2 : Int) ^ n) = ((2 ^ n : Nat) : Int) := by simp
  have h3 : (1 : Int) * 2 ^ ((n : Nat) : Int).toNat = ((2 ^ n : Nat) : Int) := by rw [Int.toNat_natCast, h2]; simp
  clear h2
  obtain ⟨k, hm⟩ : ∃ k, k = 2 ^ n := ⟨_, rfl⟩
  rw [← hm] at h1 h0 h3 ⊢
  clear hm
  refine Spec.of tok Tryd.func94 rfl rfl rfl fun n0 cx => vc_ok tok ?_
  repeat ((conv => whnf); first | (refine And.intro (by first | omega | exact Nat.le_of_ble_eq_true rfl | (dsimp only [inK]; omega) | (simp only [mulS_eq]; omega) | (simp only [mulS_eq, setL_length]; omega) | (simp only [setL_length]; omega) | (simp only [setL_length, List.length_map]; omega) | (exact ⟨by omega, by omega, by first | exact Nat.le_of_ble_eq_true rfl | (dsimp only; omega) | (simp only [setL_length]; omega) | (simp only [setL_length, List.length_map]; omega)⟩) | (exact ⟨by omega, by first | rfl | omega, by omega, Nat.le_of_ble_eq_true rfl, Nat.le_of_ble_eq_true rfl⟩) | (exact ⟨rfl, rfl, rfl, Nat.le_of_ble_eq_true rfl, by first | rfl | omega | exact Nat.le_of_ble_eq_true rfl | (dsimp only; omega) | (simp; done) | (simp; omega), by first | rfl | omega | exact Nat.le_of_ble_eq_true rfl | (dsimp only; omega) | (simp; done) | (simp; omega), by omega, Nat.le_of_ble_eq_true rfl⟩) | exact Eq.refl true) ?_) | refine Exists.intro _ (And.intro rfl ?_) | refine And.intro (And.intro rfl (chk_rowI _ _ _ _)) ?_ | refine br_t (by omega) ?_ | refine br_f (by omega) ?_ | refine bs_t (by omega) ?_ | refine bs_f (by omega) ?_ | refine fun (K' : K3) hK' => ?_ | (refine hK' _ _ _ ?_; clear hK' K') | refine draw_auto tok mixed (by kernel_rfl) ?_ | (refine And.intro ⟨by omega, by omega, by rw [h3]; dsimp only [inK]; omega⟩ ?_) | (refine And.intro (by rw [h3]; dsimp only [inK]; omega) ?_) | refine bs_bt (Eq.refl true) ?_ | refine bs_bf (Eq.refl false) ?_ | refine br_bt (Eq.refl true) ?_ | refine br_bf (Eq.refl false) ?_ | refine CallK.m ?_ | refine Two.l ?_ | refine And.intro (And.intro rfl rfl) ?_)
  intro ρ
  show Value.int _ _ = Value.int _ _
  rw [h3, show ((k - 1 : Nat) : Int) = (k : Int) - 1 by omega]
/-- How many bits, as the library works it out. -/
def oc1 (x : Int) : Int := bitI .and .u64 (shrI .u64 x 1) 6148914691236517205 + bitI .and .u64 x 6148914691236517205
def oc2 (x : Int) : Int := bitI .and .u64 (shrI .u64 x 2) 3689348814741910323 + bitI .and .u64 x 3689348814741910323
def oc3 (x : Int) : Int := bitI .and .u64 (shrI .u64 x 4 + x) 1085102592571150095
def oc4 (x : Int) : Int := x + shrI .u64 x 8
def oc5 (x : Int) : Int := x + shrI .u64 x 16
def oc6 (x : Int) : Int := x + shrI .u64 x 32
theorem oc_fact : ∀ s, s < 256 → (0 ≤ oc1 (s : Nat) ∧ oc1 (s : Nat) ≤ 1000) ∧ (0 ≤ oc2 (oc1 (s : Nat)) ∧ oc2 (oc1 (s : Nat)) ≤ 1000) ∧ (0 ≤ shrI .u64 (oc2 (oc1 (s : Nat))) 4 + oc2 (oc1 (s : Nat)) ∧ shrI .u64 (oc2 (oc1 (s : Nat))) 4 + oc2 (oc1 (s : Nat)) ≤ 1000) ∧
    (0 ≤ oc4 (oc3 (oc2 (oc1 (s : Nat)))) ∧ oc4 (oc3 (oc2 (oc1 (s : Nat)))) ≤ 1000) ∧ (0 ≤ oc5 (oc4 (oc3 (oc2 (oc1 (s : Nat))))) ∧ oc5 (oc4 (oc3 (oc2 (oc1 (s : Nat))))) ≤ 1000) ∧ (0 ≤ oc6 (oc5 (oc4 (oc3 (oc2 (oc1 (s : Nat)))))) ∧ oc6 (oc5 (oc4 (oc3 (oc2 (oc1 (s : Nat)))))) ≤ 1000) ∧
    bitI .and .i64 (oc6 (oc5 (oc4 (oc3 (oc2 (oc1 (s : Nat))))))) 127 = ((bitsL s).length : Nat) := by decide +kernel
set_option maxRecDepth 10000 in
set_option maxHeartbeats 1000000 in
theorem ones64_spec (s : Nat) (hs : s < 256) : Spec Tryd.prog 111 [V.u s] [] 0 (Is (V.i (bitsL s).length)) := by
  obtain ⟨f1, f2, f3, f4, f5, f6, f7⟩ := oc_fact s hs
  have g1 : inK .u64 (oc1 (s : Nat)) := by dsimp only [inK]; omega
  have g2 : inK .u64 (oc2 (oc1 (s : Nat))) := by dsimp only [inK]; omega
  have g3 : inK .u64 (shrI .u64 (oc2 (oc1 (s : Nat))) 4 + oc2 (oc1 (s : Nat))) := by dsimp only [inK]; omega
  have g4 : inK .u64 (oc4 (oc3 (oc2 (oc1 (s : Nat))))) := by dsimp only [inK]; omega
  have g5 : inK .u64 (oc5 (oc4 (oc3 (oc2 (oc1 (s : Nat)))))) := by dsimp only [inK]; omega
  have g6 : inK .u64 (oc6 (oc5 (oc4 (oc3 (oc2 (oc1 (s : Nat))))))) := by dsimp only [inK]; omega
  have g7 : inK .i64 (oc6 (oc5 (oc4 (oc3 (oc2 (oc1 (s : Nat))))))) := by dsimp only [inK]; omega
  refine Spec.of tok Tryd.func111 rfl rfl rfl fun n0 cx => vc_ok tok ?_
  repeat ((conv => whnf); first | (refine And.intro (by first | omega | exact Nat.le_of_ble_eq_true rfl | (dsimp only [inK]; omega) | (simp only [mulS_eq]; omega) | (simp only [mulS_eq, setL_length]; omega) | (simp only [setL_length]; omega) | (simp only [setL_length, List.length_map]; omega) | (exact ⟨by omega, by omega, by first | exact Nat.le_of_ble_eq_true rfl | (dsimp only; omega) | (simp only [setL_length]; omega) | (simp only [setL_length, List.length_map]; omega)⟩) | (exact ⟨by omega, by first | rfl | omega, by omega, Nat.le_of_ble_eq_true rfl, Nat.le_of_ble_eq_true rfl⟩) | (exact ⟨rfl, rfl, rfl, Nat.le_of_ble_eq_true rfl, by first | rfl | omega | exact Nat.le_of_ble_eq_true rfl | (dsimp only; omega) | (simp; done) | (simp; omega), by first | rfl | omega | exact Nat.le_of_ble_eq_true rfl | (dsimp only; omega) | (simp; done) | (simp; omega), by omega, Nat.le_of_ble_eq_true rfl⟩) | exact Eq.refl true) ?_) | refine Exists.intro _ (And.intro rfl ?_) | refine And.intro (And.intro rfl (chk_rowI _ _ _ _)) ?_ | refine br_t (by omega) ?_ | refine br_f (by omega) ?_ | refine bs_t (by omega) ?_ | refine bs_f (by omega) ?_ | refine fun (K' : K3) hK' => ?_ | (refine hK' _ _ _ ?_; clear hK' K') | refine draw_auto tok mixed (by kernel_rfl) ?_ | refine And.intro g1 ?_ | refine And.intro g2 ?_ | refine And.intro g3 ?_ | refine And.intro g4 ?_ | refine And.intro g5 ?_ | refine And.intro g6 ?_ | refine And.intro g7 ?_ | refine bs_bt (Eq.refl true) ?_ | refine bs_bf (Eq.refl false) ?_ | refine br_bt (Eq.refl true) ?_ | refine br_bf (Eq.refl false) ?_ | refine CallK.m ?_ | refine Two.l ?_ | refine And.intro (And.intro rfl rfl) ?_)
  intro ρ
  show Value.int _ _ = Value.int _ _
  rw [← f7]; rfl
theorem ones_spec (s : Nat) (hs : s < 256) : Spec Tryd.prog 98 [V.u s] [] 0 (Is (V.i (bitsL s).length)) := by
  have h := ones64_spec s hs
  refine Spec.of tok Tryd.func98 rfl rfl rfl fun n0 cx => vc_ok tok ?_
  repeat ((conv => whnf); first | (refine And.intro (by first | omega | exact Nat.le_of_ble_eq_true rfl | (dsimp only [inK]; omega) | (simp only [mulS_eq]; omega) | (simp only [mulS_eq, setL_length]; omega) | (simp only [setL_length]; omega) | (simp only [setL_length, List.length_map]; omega) | (exact ⟨by omega, by omega, by first | exact Nat.le_of_ble_eq_true rfl | (dsimp only; omega) | (simp only [setL_length]; omega) | (simp only [setL_length, List.length_map]; omega)⟩) | (exact ⟨by omega, by first | rfl | omega, by omega, Nat.le_of_ble_eq_true rfl, Nat.le_of_ble_eq_true rfl⟩) | (exact ⟨rfl, rfl, rfl, Nat.le_of_ble_eq_true rfl, by first | rfl | omega | exact Nat.le_of_ble_eq_true rfl | (dsimp only; omega) | (simp; done) | (simp; omega), by first | rfl | omega | exact Nat.le_of_ble_eq_true rfl | (dsimp only; omega) | (simp; done) | (simp; omega), by omega, Nat.le_of_ble_eq_true rfl⟩) | exact Eq.refl true) ?_) | refine Exists.intro _ (And.intro rfl ?_) | refine And.intro (And.intro rfl (chk_rowI _ _ _ _)) ?_ | refine br_t (by omega) ?_ | refine br_f (by omega) ?_ | refine bs_t (by omega) ?_ | refine bs_f (by omega) ?_ | refine fun (K' : K3) hK' => ?_ | (refine hK' _ _ _ ?_; clear hK' K') | refine draw_auto tok mixed (by kernel_rfl) ?_ | refine CallK.val (R := []) h (by kernel_rfl) rfl (by simp [V.wf, A.wf, C.wf]) trivial rfl rfl trivial ?_ | refine bs_bt (Eq.refl true) ?_ | refine bs_bf (Eq.refl false) ?_ | refine br_bt (Eq.refl true) ?_ | refine br_bf (Eq.refl false) ?_ | refine CallK.m ?_ | refine Two.l ?_ | refine And.intro (And.intro rfl rfl) ?_)
  intro ρ; rfl
theorem size_spec (s : Nat) (hs : s < 256) : Spec Tryd.prog 72 [V.u s] [] 0 (Is (V.i (bitsL s).length)) := by
  have h := ones_spec s hs
  refine Spec.of tok Tryd.func72 rfl rfl rfl fun n0 cx => vc_ok tok ?_
  repeat ((conv => whnf); first | (refine And.intro (by first | omega | exact Nat.le_of_ble_eq_true rfl | (dsimp only [inK]; omega) | (simp only [mulS_eq]; omega) | (simp only [mulS_eq, setL_length]; omega) | (simp only [setL_length]; omega) | (simp only [setL_length, List.length_map]; omega) | (exact ⟨by omega, by omega, by first | exact Nat.le_of_ble_eq_true rfl | (dsimp only; omega) | (simp only [setL_length]; omega) | (simp only [setL_length, List.length_map]; omega)⟩) | (exact ⟨by omega, by first | rfl | omega, by omega, Nat.le_of_ble_eq_true rfl, Nat.le_of_ble_eq_true rfl⟩) | (exact ⟨rfl, rfl, rfl, Nat.le_of_ble_eq_true rfl, by first | rfl | omega | exact Nat.le_of_ble_eq_true rfl | (dsimp only; omega) | (simp; done) | (simp; omega), by first | rfl | omega | exact Nat.le_of_ble_eq_true rfl | (dsimp only; omega) | (simp; done) | (simp; omega), by omega, Nat.le_of_ble_eq_true rfl⟩) | exact Eq.refl true) ?_) | refine Exists.intro _ (And.intro rfl ?_) | refine And.intro (And.intro rfl (chk_rowI _ _ _ _)) ?_ | refine br_t (by omega) ?_ | refine br_f (by omega) ?_ | refine bs_t (by omega) ?_ | refine bs_f (by omega) ?_ | refine fun (K' : K3) hK' => ?_ | (refine hK' _ _ _ ?_; clear hK' K') | refine draw_auto tok mixed (by kernel_rfl) ?_ | refine CallK.val (R := []) h (by kernel_rfl) rfl (by simp [V.wf, A.wf, C.wf]) trivial rfl rfl trivial ?_ | refine bs_bt (Eq.refl true) ?_ | refine bs_bf (Eq.refl false) ?_ | refine br_bt (Eq.refl true) ?_ | refine br_bf (Eq.refl false) ?_ | refine CallK.m ?_ | refine Two.l ?_ | refine And.intro (And.intro rfl rfl) ?_)
  intro ρ; rfl
end Go.Proofs.YtijnimgmpocmaaaDoor

/- Waste: loadings. -/
namespace Go.Proofs.YtijnimgmpocmaaaDoor
open Go.RowKit
set_option linter.unusedVariables false
set_option linter.unusedSimpArgs false
def outF (t : List Nat) (s x : Nat) : Int := if x < s then LD t x else 0
def outG (t : List Nat) (s : Nat) (acc : Int) (x : Nat) : Int := if x < s then LD t x else if x = s then acc else 0
def gS (t : List Nat) (s f : Nat) : Int := sgT t f (LD t (dif s f))
theorem chn_step {s f : Nat} (h0 : f ≠ 0) : chn s f f = f :: chn s ((f - 1) &&& s) ((f - 1) &&& s) := by
  obtain ⟨k, rfl⟩ : ∃ k, f = k + 1 := ⟨f - 1, by omega⟩
  simp only [chn]
  rw [if_neg (by omega), Nat.add_sub_cancel]
  have h1 : k &&& s ≤ k := Nat.and_le_left
  rw [chn_fuel s k _ h1 (k &&& s) (Nat.le_refl _)]
set_option maxRecDepth 10000 in
set_option maxHeartbeats 8000000 in
theorem loadings_spec (t : List Nat) (n : Nat) (htl : t.length = n) (hn : n ≤ 8) (ht : ∀ x ∈ t, x < 256) : Spec Tryd.prog 63 [V.c (.sl 0 n)] [⟨0, .ro 0, t.map C.u⟩] 1 (Is (V.i (LD t (2 ^ n - 1)))) := by
  have hev := every_spec n 0 hn
  have h8 := pow_8 hn
  have hp0 : 0 < 2 ^ n := Nat.two_pow_pos n
  have hap : ∀ f, f < 2 ^ n → Spec Tryd.prog 95 [V.c (.sl 0 n), V.u f] [⟨0, .ro 0, t.map C.u⟩] 1 (Is (V.c (.bool (aptS t f)))) := fun f hf => apart_spec t n f htl hn ht hf
  obtain ⟨M, hM⟩ : ∃ M, 2 ^ n = M + 1 := ⟨2 ^ n - 1, by omega⟩
  rw [hM, Nat.add_sub_cancel] at hev
  rw [hM] at hap h8
  rw [hM, Nat.add_sub_cancel]
  have hz : repC (M + 1) [C.int .i64 0] = (fnL (fun _ => 0) (M + 1)).map C.i := by rw [repI, fnL_zero]
  have h0 : setL (repC (M + 1) [C.int .i64 0]) (mulS (Int.toNat 0) 1) [C.i 1] = (fnL (outF t 1) (M + 1)).map C.i := by
    rw [hz]
    have := setI (l := fnL (fun _ => 0) (M + 1)) (k := 0) (z := 0) (x := 1) rfl
    rw [this, fnL_set]
    refine congrArg _ (fnL_congr fun x _ => ?_)
    unfold outF
    by_cases hx : x = 0
    · subst hx; rw [if_pos rfl, if_pos (by omega), LD_zero]
    · rw [if_neg hx, if_neg (by omega)]
  have hz1 : (repC (M + 1) [C.int .i64 0]).length = M + 1 := by rw [hz, List.length_map, fnL_len]
  refine Spec.of tok Tryd.func63 rfl rfl rfl fun n0 cx => vc_ok tok ?_
  repeat ((conv => whnf); first | (refine And.intro (by first | omega | exact Nat.le_of_ble_eq_true rfl | (dsimp only [inK]; omega) | (simp only [mulS_eq]; omega) | (simp only [mulS_eq, setL_length]; omega) | (simp only [setL_length]; omega) | (simp only [setL_length, List.length_map]; omega) | (exact ⟨by omega, by omega, by first | exact Nat.le_of_ble_eq_true rfl | (dsimp only; omega) | (simp only [setL_length]; omega) | (simp only [setL_length, List.length_map]; omega)⟩) | (exact ⟨by omega, by first | rfl | omega, by omega, Nat.le_of_ble_eq_true rfl, Nat.le_of_ble_eq_true rfl⟩) | (exact ⟨rfl, rfl, rfl, Nat.le_of_ble_eq_true rfl, by first | rfl | omega | exact Nat.le_of_ble_eq_true rfl | (dsimp only; omega) | (simp; done) | (simp; omega), by first | rfl | omega | exact Nat.le_of_ble_eq_true rfl | (dsimp only; omega) | (simp; done) | (simp; omega), by omega, Nat.le_of_ble_eq_true rfl⟩) | exact Eq.refl true) ?_) | refine Exists.intro _ (And.intro rfl ?_) | refine And.intro (And.intro rfl (chk_rowI _ _ _ _)) ?_ | refine br_t (by omega) ?_ | refine br_f (by omega) ?_ | refine bs_t (by omega) ?_ | refine bs_f (by omega) ?_ | refine fun (K' : K3) hK' => ?_ | (refine hK' _ _ _ ?_; clear hK' K') | refine draw_auto tok mixed (by kernel_rfl) ?_ | refine HD_mk (fun _ h => CallK.val (R := []) hev (by kernel_rfl) rfl (by simp [V.wf, A.wf, C.wf]) trivial rfl rfl trivial h) ?_ | refine CallK.val (R := []) hev (by kernel_rfl) rfl (by simp [V.wf, A.wf, C.wf]) trivial rfl rfl trivial ?_ | refine bs_bt (Eq.refl true) ?_ | refine bs_bf (Eq.refl false) ?_ | refine br_bt (Eq.refl true) ?_ | refine br_bf (Eq.refl false) ?_ | refine CallK.m ?_ | refine Two.l ?_ | refine And.intro (And.intro rfl rfl) ?_)
  refine Tri.loop (γ := Nat) (fun s => 1 ≤ s ∧ s ≤ M + 1) (fun s => [(0, V.c (.sl 0 n)), (2, V.i 0), (3, V.c (.sl 1 (M + 1))), (4, V.u s)])
    (fun s => [⟨1, .vec 3 1, (fnL (outF t s) (M + 1)).map C.i⟩, ⟨0, .ro 0, t.map C.u⟩]) 2 (fun s => M + 1 - s) 1 (R0 := []) ?_ ?_ ?_
  · omega
  · skip
    refine ⟨?_, ?_, rfl, rfl, by first | exact Nat.le_of_ble_eq_true rfl | exact Nat.le_refl _ | omega⟩
    · repeat (first | exact trivial | (refine And.intro (covS_syn (by rfl) rfl (by first | exact trivial | exact Nat.le_of_ble_eq_true rfl | exact hy | exact (fun p hp => nomatch hp) | (show (_ : Nat) < _; omega))) ?_) | refine And.intro (covS_bool rfl rfl (by rfl)) ?_)
    · repeat (first | exact trivial | (refine And.intro (covE_id (Nat.le_of_ble_eq_true rfl) (by first | exact wf_ints _ _ | exact wf_bools _ _ | first | exact wf_us _ _ | (simp [C.wf]; done) | simp [C.wf]) rfl (by first | rfl | exact h0)) ?_))
  · rintro s ⟨hs1, hs2⟩
    refine vc_ok tok ?_
    by_cases hlt : (s : Int) ≤ (M : Nat)
    · have hs256 : s < 256 := by omega
      have hLD : LD t s = sumL (chn s s s) (gS t s) := LD_rec t (by omega)
      have hfub := fub_fact s hs256 (by omega)
      have hfp := fubS_pos s hs256
      repeat ((conv => whnf); first | (refine And.intro (by first | omega | exact Nat.le_of_ble_eq_true rfl | (dsimp only [inK]; omega) | (simp only [mulS_eq]; omega) | (simp only [mulS_eq, setL_length]; omega) | (simp only [setL_length]; omega) | (simp only [setL_length, List.length_map]; omega) | (exact ⟨by omega, by omega, by first | exact Nat.le_of_ble_eq_true rfl | (dsimp only; omega) | (simp only [setL_length]; omega) | (simp only [setL_length, List.length_map]; omega)⟩) | (exact ⟨by omega, by first | rfl | omega, by omega, Nat.le_of_ble_eq_true rfl, Nat.le_of_ble_eq_true rfl⟩) | (exact ⟨rfl, rfl, rfl, Nat.le_of_ble_eq_true rfl, by first | rfl | omega | exact Nat.le_of_ble_eq_true rfl | (dsimp only; omega) | (simp; done) | (simp; omega), by first | rfl | omega | exact Nat.le_of_ble_eq_true rfl | (dsimp only; omega) | (simp; done) | (simp; omega), by omega, Nat.le_of_ble_eq_true rfl⟩) | exact Eq.refl true) ?_) | refine Exists.intro _ (And.intro rfl ?_) | refine And.intro (And.intro rfl (chk_rowI _ _ _ _)) ?_ | refine br_t (by omega) ?_ | refine br_f (by omega) ?_ | refine bs_t (by omega) ?_ | refine bs_f (by omega) ?_ | refine fun (K' : K3) hK' => ?_ | (refine hK' _ _ _ ?_; clear hK' K') | refine draw_auto tok mixed (by kernel_rfl) ?_ | refine CallK.val (R := []) hev (by kernel_rfl) rfl (by simp [V.wf, A.wf, C.wf]) trivial rfl rfl trivial ?_ | refine bs_t hlt ?_ | refine br_t hlt ?_ | refine bs_bt (Eq.refl true) ?_ | refine bs_bf (Eq.refl false) ?_ | refine br_bt (Eq.refl true) ?_ | refine br_bf (Eq.refl false) ?_ | refine CallK.m ?_ | refine Two.l ?_ | refine And.intro (And.intro rfl rfl) ?_)
      refine Tri.loop (γ := Nat × Int) (fun g => g.1 &&& s = g.1 ∧ g.2 + sumL (chn s g.1 g.1) (gS t s) = LD t s ∧ -(fubS s) ≤ g.2 - sumL (chn s g.1 g.1) (fun f => fubS (dif s f)) ∧ g.2 + sumL (chn s g.1 g.1) (fun f => fubS (dif s f)) ≤ fubS s)
        (fun g => [(0, V.c (.sl 0 n)), (2, V.i 0), (3, V.c (.sl 1 (M + 1))), (4, V.u s), (5, V.u g.1)])
        (fun g => [⟨1, .vec 3 1, (fnL (outG t s g.2) (M + 1)).map C.i⟩, ⟨0, .ro 0, t.map C.u⟩]) 2 (fun g => g.1) (s, 0) (R0 := []) ?_ ?_ ?_
      · have hfub : sumL (chn s s s) (fun f => fubS (dif s f)) ≤ fubS s := hfub
        refine ⟨Nat.and_self s, by simp only; rw [hLD]; omega, ?_, ?_⟩
        · simp only; omega
        · simp only; omega
      · skip
        refine ⟨?_, ?_, rfl, rfl, by first | exact Nat.le_of_ble_eq_true rfl | exact Nat.le_refl _ | omega⟩
        · repeat (first | exact trivial | (refine And.intro (covS_syn (by rfl) rfl (by first | exact trivial | exact Nat.le_of_ble_eq_true rfl | exact hy | exact (fun p hp => nomatch hp) | (show (_ : Nat) < _; omega))) ?_) | refine And.intro (covS_bool rfl rfl (by rfl)) ?_)
        · repeat (first | exact trivial | (refine And.intro (covE_id (Nat.le_of_ble_eq_true rfl) (by first | exact wf_ints _ _ | exact wf_bools _ _ | first | exact wf_us _ _ | (simp [C.wf]; done) | simp [C.wf]) rfl (by first | rfl | (exact congrArg _ (fnL_congr fun x _ => by simp only [outF, outG]; by_cases h : x < s <;> simp [h])))) ?_))
      · rintro ⟨f, acc⟩ ⟨i1, i2, i3, i4⟩
        simp only at i1 i2 i3 i4 ⊢
        refine vc_ok tok ?_
        have hfs : f ≤ s := by rw [← i1]; exact Nat.and_le_right
        have hrl : ((fnL (outG t s acc) (M + 1)).map C.i).length = M + 1 := by rw [List.length_map, fnL_len]
        by_cases hf0 : (f : Int) > 0
        · have hf0' : f ≠ 0 := by omega
          have hstep := chn_step (s := s) hf0'
          rw [hstep, sumL_cons] at i2 i3 i4
          have hde : bitI .and .u64 ((f : Int) - 1) (s : Int) = (((f - 1) &&& s : Nat) : Int) := by
            rw [show ((f : Int) - 1) = ((f - 1 : Nat) : Int) by omega]; exact bit_and (by omega) (by omega)
          have hbn : ∀ g ∈ chn s ((f - 1) &&& s) ((f - 1) &&& s), 0 ≤ fubS (dif s g) := fun g hg => by
            obtain ⟨q1, q2⟩ := chn_mem s _ _ (by rw [Nat.and_assoc, Nat.and_self]) g hg
            have := dif_lt q1 q2
            have := fubS_pos (dif s g) (by omega)
            omega
          have hsn : 0 ≤ sumL (chn s ((f - 1) &&& s) ((f - 1) &&& s)) (fun f => fubS (dif s f)) := by
            have : ∀ l : List Nat, (∀ g ∈ l, 0 ≤ fubS (dif s g)) → 0 ≤ sumL l (fun f => fubS (dif s f)) := by
              intro l
              induction l with
              | nil => intro _; simp [sumL]
              | cons a r ih => intro h; rw [sumL_cons]; have := h a (by simp); have := ih fun g hg => h g (by simp [hg]); omega
            exact this _ hbn
          have hnxt : (f - 1) &&& s ≤ f - 1 := Nat.and_le_left
          have hand := bit_andNot (x := s) (y := f) (by omega) (by omega)
          have hdl := dif_lt hf0' i1
          have hdb := LD_bd t _ (dif s f) (Nat.lt_succ_self _) (by omega)
          have hdp := fubS_pos (dif s f) (by omega)
          have hap1 := hap f (by omega)
          have hsz := size_spec f (by omega)
          have hgf : gS t s f = sgT t f (LD t (dif s f)) := rfl
          have hla : ((fnL (outG t s acc) (M + 1)).map C.i)[mulS ((s : Nat) : Int).toNat 1]? = some (C.i acc) := by
            rw [intLz rfl (by rw [fnL_len]; omega), fnL_get (by omega)]; unfold outG; rw [if_neg (by omega), if_pos rfl]
          have hld : ((fnL (outG t s acc) (M + 1)).map C.i)[mulS (bitI .andNot .u64 (s : Int) (f : Int)).toNat 1]? = some (C.i (LD t (dif s f))) := by
            rw [intLz hand (by rw [fnL_len]; omega), fnL_get (by omega)]; unfold outG; rw [if_pos hdl]
          have hset : ∀ z : Int, setL ((fnL (outG t s acc) (M + 1)).map C.i) (mulS ((s : Nat) : Int).toNat 1) [C.i z] = (fnL (outG t s z) (M + 1)).map C.i := fun z => by
            rw [setI rfl, fnL_set]
            refine congrArg _ (fnL_congr fun x _ => ?_)
            unfold outG
            by_cases h : x = s
            · subst h; rw [if_pos rfl, if_neg (by omega), if_pos rfl]
            · rw [if_neg h, if_neg h, if_neg h]
          have hands : (f - 1) &&& s &&& s = (f - 1) &&& s := by rw [Nat.and_assoc, Nat.and_self]
          obtain ⟨d, hd⟩ : ∃ d, d = dif s f := ⟨_, rfl⟩
          obtain ⟨x, hx⟩ : ∃ x, x = LD t (dif s f) := ⟨_, rfl⟩
          rw [← hx] at hld hdb hgf
          rw [← hd] at hand hdl hdb hdp i3 i4
          obtain ⟨f', hf'⟩ : ∃ f', f' = (f - 1) &&& s := ⟨_, rfl⟩
          rw [← hf'] at i2 i3 i4 hde hsn hnxt hands
          cases ha : aptS t f with
          | false =>
            rw [ha] at hap1
            have hg0 : gS t s f = 0 := by rw [hgf]; unfold sgT; rw [ha]; rfl
            rw [hg0] at i2
            repeat ((conv => whnf); first | (refine And.intro (by first | omega | exact Nat.le_of_ble_eq_true rfl | (dsimp only [inK]; omega) | (simp only [mulS_eq]; omega) | (simp only [mulS_eq, setL_length]; omega) | (simp only [setL_length]; omega) | (simp only [setL_length, List.length_map]; omega) | (exact ⟨by omega, by omega, by first | exact Nat.le_of_ble_eq_true rfl | (dsimp only; omega) | (simp only [setL_length]; omega) | (simp only [setL_length, List.length_map]; omega)⟩) | (exact ⟨by omega, by first | rfl | omega, by omega, Nat.le_of_ble_eq_true rfl, Nat.le_of_ble_eq_true rfl⟩) | (exact ⟨rfl, rfl, rfl, Nat.le_of_ble_eq_true rfl, by first | rfl | omega | exact Nat.le_of_ble_eq_true rfl | (dsimp only; omega) | (simp; done) | (simp; omega), by first | rfl | omega | exact Nat.le_of_ble_eq_true rfl | (dsimp only; omega) | (simp; done) | (simp; omega), by omega, Nat.le_of_ble_eq_true rfl⟩) | exact Eq.refl true) ?_) | refine Exists.intro _ (And.intro rfl ?_) | refine And.intro (And.intro rfl (chk_rowI _ _ _ _)) ?_ | refine br_t (by omega) ?_ | refine br_f (by omega) ?_ | refine bs_t (by omega) ?_ | refine bs_f (by omega) ?_ | refine fun (K' : K3) hK' => ?_ | (refine hK' _ _ _ ?_; clear hK' K') | refine draw_auto tok mixed (by kernel_rfl) ?_ | refine bs_t hf0 ?_ | refine br_t hf0 ?_ | refine CallK.val (R := []) hap1 (by kernel_rfl) rfl (by simp [V.wf, A.wf, C.wf]) ⟨roE_f (flat_u _) (l := 0) rfl (by omega) rfl (.inl rfl), trivial⟩ rfl rfl trivial ?_ | refine bs_bt (Eq.refl true) ?_ | refine bs_bf (Eq.refl false) ?_ | refine br_bt (Eq.refl true) ?_ | refine br_bf (Eq.refl false) ?_ | refine CallK.m ?_ | refine Two.l ?_ | refine And.intro (And.intro rfl rfl) ?_)
            refine ⟨(f', acc), [], ⟨hands, by simp only; omega, by simp only; omega, by simp only; omega⟩, by simp only; omega, ?_⟩
            refine ⟨?_, ?_, rfl, rfl, by first | exact Nat.le_of_ble_eq_true rfl | exact Nat.le_refl _ | omega⟩
            · repeat (first | exact trivial | (refine And.intro (covS_syn (by first | rfl | exact congrArg (fun z => some (V.c (C.int .u64 z))) hde) rfl (by first | exact trivial | exact Nat.le_of_ble_eq_true rfl | exact hy | exact (fun p hp => nomatch hp) | (show (_ : Nat) < _; omega))) ?_) | refine And.intro (covS_bool rfl rfl (by rfl)) ?_)
            · repeat (first | exact trivial | (refine And.intro (covE_id (Nat.le_of_ble_eq_true rfl) (by first | exact wf_ints _ _ | exact wf_bools _ _ | first | exact wf_us _ _ | (simp [C.wf]; done) | simp [C.wf]) rfl (by rfl)) ?_))
          | true =>
            rw [ha] at hap1
            by_cases ho : (((bitsL f).length : Nat) : Int) % 2 = 1
            · have hg0 : gS t s f = x := by rw [hgf]; unfold sgT; rw [ha, if_pos rfl, if_pos (by omega)]
              rw [hg0] at i2
              repeat ((conv => whnf); first | (refine And.intro (by first | omega | exact Nat.le_of_ble_eq_true rfl | (dsimp only [inK]; omega) | (simp only [mulS_eq]; omega) | (simp only [mulS_eq, setL_length]; omega) | (simp only [setL_length]; omega) | (simp only [setL_length, List.length_map]; omega) | (exact ⟨by omega, by omega, by first | exact Nat.le_of_ble_eq_true rfl | (dsimp only; omega) | (simp only [setL_length]; omega) | (simp only [setL_length, List.length_map]; omega)⟩) | (exact ⟨by omega, by first | rfl | omega, by omega, Nat.le_of_ble_eq_true rfl, Nat.le_of_ble_eq_true rfl⟩) | (exact ⟨rfl, rfl, rfl, Nat.le_of_ble_eq_true rfl, by first | rfl | omega | exact Nat.le_of_ble_eq_true rfl | (dsimp only; omega) | (simp; done) | (simp; omega), by first | rfl | omega | exact Nat.le_of_ble_eq_true rfl | (dsimp only; omega) | (simp; done) | (simp; omega), by omega, Nat.le_of_ble_eq_true rfl⟩) | exact Eq.refl true) ?_) | with_reducible refine ld (hla) ?_ | with_reducible refine ld (hld) ?_ | refine Exists.intro _ (And.intro rfl ?_) | refine And.intro (And.intro rfl (chk_rowI _ _ _ _)) ?_ | refine br_t (by omega) ?_ | refine br_f (by omega) ?_ | refine bs_t (by omega) ?_ | refine bs_f (by omega) ?_ | refine fun (K' : K3) hK' => ?_ | (refine hK' _ _ _ ?_; clear hK' K') | refine draw_auto tok mixed (by kernel_rfl) ?_ | refine bs_t hf0 ?_ | refine br_t hf0 ?_ | refine CallK.val (R := []) hap1 (by kernel_rfl) rfl (by simp [V.wf, A.wf, C.wf]) ⟨roE_f (flat_u _) (l := 0) rfl (by omega) rfl (.inl rfl), trivial⟩ rfl rfl trivial ?_ | refine CallK.val (R := []) hsz (by kernel_rfl) rfl (by simp [V.wf, A.wf, C.wf]) trivial rfl rfl trivial ?_ | refine bs_t ho ?_ | refine br_t ho ?_ | (refine And.intro (by rw [hand]; refine ⟨by omega, by omega, ?_⟩; (try dsimp only); simp only [mulS_eq, List.length_map, fnL_len]; omega) ?_) | refine bs_bt (Eq.refl true) ?_ | refine bs_bf (Eq.refl false) ?_ | refine br_bt (Eq.refl true) ?_ | refine br_bf (Eq.refl false) ?_ | refine CallK.m ?_ | refine Two.l ?_ | refine And.intro (And.intro rfl rfl) ?_)
              refine ⟨(f', acc + x), [], ⟨hands, by simp only; omega, by simp only; omega, by simp only; omega⟩, by simp only; omega, ?_⟩
              refine ⟨?_, ?_, rfl, rfl, by first | exact Nat.le_of_ble_eq_true rfl | exact Nat.le_refl _ | omega⟩
              · repeat (first | exact trivial | (refine And.intro (covS_syn (by first | rfl | exact congrArg (fun z => some (V.c (C.int .u64 z))) hde) rfl (by first | exact trivial | exact Nat.le_of_ble_eq_true rfl | exact hy | exact (fun p hp => nomatch hp) | (show (_ : Nat) < _; omega))) ?_) | refine And.intro (covS_bool rfl rfl (by rfl)) ?_)
              · repeat (first | exact trivial | (refine And.intro (covE_id (Nat.le_of_ble_eq_true rfl) (by first | exact wf_ints _ _ | exact wf_bools _ _ | first | exact wf_us _ _ | (simp [C.wf]; done) | simp [C.wf]) rfl (by first | rfl | exact hset _)) ?_))
            · have hg0 : gS t s f = -x := by rw [hgf]; unfold sgT; rw [ha, if_pos rfl, if_neg (by omega)]
              rw [hg0] at i2
              repeat ((conv => whnf); first | (refine And.intro (by first | omega | exact Nat.le_of_ble_eq_true rfl | (dsimp only [inK]; omega) | (simp only [mulS_eq]; omega) | (simp only [mulS_eq, setL_length]; omega) | (simp only [setL_length]; omega) | (simp only [setL_length, List.length_map]; omega) | (exact ⟨by omega, by omega, by first | exact Nat.le_of_ble_eq_true rfl | (dsimp only; omega) | (simp only [setL_length]; omega) | (simp only [setL_length, List.length_map]; omega)⟩) | (exact ⟨by omega, by first | rfl | omega, by omega, Nat.le_of_ble_eq_true rfl, Nat.le_of_ble_eq_true rfl⟩) | (exact ⟨rfl, rfl, rfl, Nat.le_of_ble_eq_true rfl, by first | rfl | omega | exact Nat.le_of_ble_eq_true rfl | (dsimp only; omega) | (simp; done) | (simp; omega), by first | rfl | omega | exact Nat.le_of_ble_eq_true rfl | (dsimp only; omega) | (simp; done) | (simp; omega), by omega, Nat.le_of_ble_eq_true rfl⟩) | exact Eq.refl true) ?_) | with_reducible refine ld (hla) ?_ | with_reducible refine ld (hld) ?_ | refine Exists.intro _ (And.intro rfl ?_) | refine And.intro (And.intro rfl (chk_rowI _ _ _ _)) ?_ | refine br_t (by omega) ?_ | refine br_f (by omega) ?_ | refine bs_t (by omega) ?_ | refine bs_f (by omega) ?_ | refine fun (K' : K3) hK' => ?_ | (refine hK' _ _ _ ?_; clear hK' K') | refine draw_auto tok mixed (by kernel_rfl) ?_ | refine bs_t hf0 ?_ | refine br_t hf0 ?_ | refine CallK.val (R := []) hap1 (by kernel_rfl) rfl (by simp [V.wf, A.wf, C.wf]) ⟨roE_f (flat_u _) (l := 0) rfl (by omega) rfl (.inl rfl), trivial⟩ rfl rfl trivial ?_ | refine CallK.val (R := []) hsz (by kernel_rfl) rfl (by simp [V.wf, A.wf, C.wf]) trivial rfl rfl trivial ?_ | refine bs_f ho ?_ | refine br_f ho ?_ | (refine And.intro (by rw [hand]; refine ⟨by omega, by omega, ?_⟩; (try dsimp only); simp only [mulS_eq, List.length_map, fnL_len]; omega) ?_) | refine bs_bt (Eq.refl true) ?_ | refine bs_bf (Eq.refl false) ?_ | refine br_bt (Eq.refl true) ?_ | refine br_bf (Eq.refl false) ?_ | refine CallK.m ?_ | refine Two.l ?_ | refine And.intro (And.intro rfl rfl) ?_)
              refine ⟨(f', acc - x), [], ⟨hands, by simp only; omega, by simp only; omega, by simp only; omega⟩, by simp only; omega, ?_⟩
              refine ⟨?_, ?_, rfl, rfl, by first | exact Nat.le_of_ble_eq_true rfl | exact Nat.le_refl _ | omega⟩
              · repeat (first | exact trivial | (refine And.intro (covS_syn (by first | rfl | exact congrArg (fun z => some (V.c (C.int .u64 z))) hde) rfl (by first | exact trivial | exact Nat.le_of_ble_eq_true rfl | exact hy | exact (fun p hp => nomatch hp) | (show (_ : Nat) < _; omega))) ?_) | refine And.intro (covS_bool rfl rfl (by rfl)) ?_)
              · repeat (first | exact trivial | (refine And.intro (covE_id (Nat.le_of_ble_eq_true rfl) (by first | exact wf_ints _ _ | exact wf_bools _ _ | first | exact wf_us _ _ | (simp [C.wf]; done) | simp [C.wf]) rfl (by first | rfl | exact hset _)) ?_))
        · obtain rfl : f = 0 := by omega
          have i2 : acc + 0 = LD t s := i2
          have hfe : fnL (outG t s acc) (M + 1) = fnL (outF t (s + 1)) (M + 1) := fnL_congr fun x _ => by
            unfold outG outF
            by_cases h : x < s
            · rw [if_pos h, if_pos (by omega)]
            · rw [if_neg h]
              by_cases h2 : x = s
              · subst h2; rw [if_pos rfl, if_pos (by omega)]; omega
              · rw [if_neg h2, if_neg (by omega)]
          rw [hfe]
          repeat ((conv => whnf); first | (refine And.intro (by first | omega | exact Nat.le_of_ble_eq_true rfl | (dsimp only [inK]; omega) | (simp only [mulS_eq]; omega) | (simp only [mulS_eq, setL_length]; omega) | (simp only [setL_length]; omega) | (simp only [setL_length, List.length_map]; omega) | (exact ⟨by omega, by omega, by first | exact Nat.le_of_ble_eq_true rfl | (dsimp only; omega) | (simp only [setL_length]; omega) | (simp only [setL_length, List.length_map]; omega)⟩) | (exact ⟨by omega, by first | rfl | omega, by omega, Nat.le_of_ble_eq_true rfl, Nat.le_of_ble_eq_true rfl⟩) | (exact ⟨rfl, rfl, rfl, Nat.le_of_ble_eq_true rfl, by first | rfl | omega | exact Nat.le_of_ble_eq_true rfl | (dsimp only; omega) | (simp; done) | (simp; omega), by first | rfl | omega | exact Nat.le_of_ble_eq_true rfl | (dsimp only; omega) | (simp; done) | (simp; omega), by omega, Nat.le_of_ble_eq_true rfl⟩) | exact Eq.refl true) ?_) | refine Exists.intro _ (And.intro rfl ?_) | refine And.intro (And.intro rfl (chk_rowI _ _ _ _)) ?_ | refine br_t (by omega) ?_ | refine br_f (by omega) ?_ | refine bs_t (by omega) ?_ | refine bs_f (by omega) ?_ | refine fun (K' : K3) hK' => ?_ | (refine hK' _ _ _ ?_; clear hK' K') | refine draw_auto tok mixed (by kernel_rfl) ?_ | refine bs_f hf0 ?_ | refine br_f hf0 ?_ | refine bs_bt (Eq.refl true) ?_ | refine bs_bf (Eq.refl false) ?_ | refine br_bt (Eq.refl true) ?_ | refine br_bf (Eq.refl false) ?_ | refine CallK.m ?_ | refine Two.l ?_ | refine And.intro (And.intro rfl rfl) ?_)
          refine ⟨s + 1, [], by omega, by omega, ?_⟩
          refine ⟨?_, ?_, rfl, rfl, by first | exact Nat.le_of_ble_eq_true rfl | exact Nat.le_refl _ | omega⟩
          · repeat (first | exact trivial | (refine And.intro (covS_syn (by rfl) rfl (by first | exact trivial | exact Nat.le_of_ble_eq_true rfl | exact hy | exact (fun p hp => nomatch hp) | (show (_ : Nat) < _; omega))) ?_) | refine And.intro (covS_bool rfl rfl (by rfl)) ?_)
          · repeat (first | exact trivial | (refine And.intro (covE_id (Nat.le_of_ble_eq_true rfl) (by first | exact wf_ints _ _ | exact wf_bools _ _ | first | exact wf_us _ _ | (simp [C.wf]; done) | simp [C.wf]) rfl (by rfl)) ?_))
    · obtain rfl : s = M + 1 := by omega
      have hrl : ((fnL (outF t (M + 1)) (M + 1)).map C.i).length = M + 1 := by rw [List.length_map, fnL_len]
      have hlm : ((fnL (outF t (M + 1)) (M + 1)).map C.i)[mulS ((M : Nat) : Int).toNat 1]? = some (C.i (LD t M)) := by
        rw [intLz rfl (by rw [fnL_len]; omega), fnL_get (by omega)]; unfold outF; rw [if_pos (by omega)]
      repeat ((conv => whnf); first | (refine And.intro (by first | omega | exact Nat.le_of_ble_eq_true rfl | (dsimp only [inK]; omega) | (simp only [mulS_eq]; omega) | (simp only [mulS_eq, setL_length]; omega) | (simp only [setL_length]; omega) | (simp only [setL_length, List.length_map]; omega) | (exact ⟨by omega, by omega, by first | exact Nat.le_of_ble_eq_true rfl | (dsimp only; omega) | (simp only [setL_length]; omega) | (simp only [setL_length, List.length_map]; omega)⟩) | (exact ⟨by omega, by first | rfl | omega, by omega, Nat.le_of_ble_eq_true rfl, Nat.le_of_ble_eq_true rfl⟩) | (exact ⟨rfl, rfl, rfl, Nat.le_of_ble_eq_true rfl, by first | rfl | omega | exact Nat.le_of_ble_eq_true rfl | (dsimp only; omega) | (simp; done) | (simp; omega), by first | rfl | omega | exact Nat.le_of_ble_eq_true rfl | (dsimp only; omega) | (simp; done) | (simp; omega), by omega, Nat.le_of_ble_eq_true rfl⟩) | exact Eq.refl true) ?_) | with_reducible refine ld (hlm) ?_ | refine Exists.intro _ (And.intro rfl ?_) | refine And.intro (And.intro rfl (chk_rowI _ _ _ _)) ?_ | refine br_t (by omega) ?_ | refine br_f (by omega) ?_ | refine bs_t (by omega) ?_ | refine bs_f (by omega) ?_ | refine fun (K' : K3) hK' => ?_ | (refine hK' _ _ _ ?_; clear hK' K') | refine draw_auto tok mixed (by kernel_rfl) ?_ | refine CallK.val (R := []) hev (by kernel_rfl) rfl (by simp [V.wf, A.wf, C.wf]) trivial rfl rfl trivial ?_ | refine bs_f hlt ?_ | refine br_f hlt ?_ | refine bs_bt (Eq.refl true) ?_ | refine bs_bf (Eq.refl false) ?_ | refine br_bt (Eq.refl true) ?_ | refine br_bf (Eq.refl false) ?_ | refine CallK.m ?_ | refine Two.l ?_ | refine And.intro (And.intro rfl rfl) ?_)
      intro ρ; rfl
end Go.Proofs.YtijnimgmpocmaaaDoor

/- Waste, plain: the program's orders of loading are the polynomial's value at -1, but for the sign. -/
namespace Go.Proofs.YtijnimgmpocmaaaDoor
open Go.RowKit
set_option linter.unusedVariables false
set_option linter.unusedSimpArgs false
def spl : List Nat → List (List Nat × List Nat)
  | [] => [([], [])]
  | a :: r => (spl r).map (fun p => (p.1, a :: p.2)) ++ (spl r).map (fun p => (a :: p.1, p.2))
def okH (cl : Nat → Nat → Bool) : List Nat → List Nat → Bool
  | [], _ => true
  | a :: q, h => apt cl a h && okH cl q (a :: h)
theorem sumL_zero {α : Type} (l : List α) : sumL l (fun _ => (0 : Int)) = 0 := by
  induction l with
  | nil => rfl
  | cons a r ih => rw [sumL_cons, ih]; rfl
theorem subs_spl (cl : Nat → Nat → Bool) : ∀ (l h : List Nat) (Φ : List Nat → List Nat → Int), sumL (subs cl l h) (fun p => Φ p.1 p.2) = sumL (spl l) (fun p => if okH cl p.1 h = true then Φ p.1 p.2 else 0)
  | [], h, Φ => by simp [subs, spl, sumL, okH]
  | a :: r, h, Φ => by
    simp only [subs, spl]
    rw [sumL_app, sumL_app, sumL_map, sumL_map, sumL_map]
    congr 1
    · exact subs_spl cl r h fun p q => Φ p (a :: q)
    · by_cases hap : apt cl a h = true
      · rw [if_pos hap, sumL_map]
        have := subs_spl cl r (a :: h) fun p q => Φ (a :: p) q
        rw [this]
        refine sumL_congr fun p _ => ?_
        simp only [okH, hap, Bool.true_and]
      · rw [if_neg hap]
        have : ∀ p : List Nat × List Nat, (if okH cl (a :: p.1) h = true then Φ (a :: p.1) p.2 else 0) = (0 : Int) := fun p => if_neg (by simp [okH, hap])
        simp only [this]
        rw [sumL_zero]; rfl
theorem okH_iff {cl : Nat → Nat → Bool} (hs : Sym cl) (hi : ∀ a, cl a a = false) : ∀ (q h : List Nat), okH cl q h = true ↔ (∀ a ∈ q, ∀ b ∈ h, cl a b = false) ∧ ∀ a ∈ q, ∀ b ∈ q, cl a b = false
  | [], h => by simp [okH]
  | a :: q, h => by
    simp only [okH, Bool.and_eq_true, okH_iff hs hi q (a :: h), apt, List.all_eq_true, Bool.not_eq_true']
    constructor
    · rintro ⟨h1, h2, h3⟩
      refine ⟨fun x hx b hb => ?_, fun x hx b hb => ?_⟩
      · rcases List.mem_cons.1 hx with rfl | hx
        · exact h1 b hb
        · exact h2 x hx b (by simp [hb])
      · rcases List.mem_cons.1 hx with hx' | hx' <;> rcases List.mem_cons.1 hb with hb' | hb'
        · rw [hx', hb']; exact hi _
        · rw [hs, hx']; exact h2 b hb' _ (by simp)
        · rw [hb']; exact h2 x hx' _ (by simp)
        · exact h3 x hx' b hb'
    · rintro ⟨h1, h2⟩
      refine ⟨fun b hb => h1 a (by simp) b hb, fun x hx b hb => ?_, fun x hx b hb => h2 x (by simp [hx]) b (by simp [hb])⟩
      rcases List.mem_cons.1 hb with rfl | hb
      · exact h2 x (by simp [hx]) _ (by simp)
      · exact h1 x (by simp [hx]) b hb
def subM : List Nat → List Nat
  | [] => [0]
  | a :: r => subM r ++ (subM r).map fun f => f ||| 2 ^ a
theorem subM_spl (Ψ : Nat → Int) : ∀ (l : List Nat), sumL (spl l) (fun p => Ψ (bitsOf p.1)) = sumL (subM l) Ψ
  | [] => by simp [spl, subM, sumL, bitsOf]
  | a :: r => by
    simp only [spl, subM]
    rw [sumL_app, sumL_app, sumL_map, sumL_map, sumL_map]
    congr 1
    · exact subM_spl Ψ r
    · exact subM_spl (fun f => Ψ (f ||| 2 ^ a)) r
theorem sumL_perm {α : Type} {l m : List α} (h : l.Perm m) (f : α → Int) : sumL l f = sumL m f := by
  induction h with
  | nil => rfl
  | cons a _ ih => rw [sumL_cons, sumL_cons, ih]
  | swap a b l => simp only [sumL_cons]; omega
  | trans _ _ h1 h2 => exact h1.trans h2
theorem chn_perm : ∀ s, s < 256 → (chS s ++ [0]).isPerm (subM (bitsL s)) = true := by decide +kernel
theorem spl_mem : ∀ {l : List Nat} {p : List Nat × List Nat}, l.Nodup → p ∈ spl l → (∀ b ∈ p.1, b ∈ l) ∧ p.1.Nodup ∧ p.2 = l.filter fun b => !p.1.contains b
  | [], p, _, hp => by
    simp only [spl, List.mem_singleton] at hp
    subst hp; simp
  | a :: r, p, hd, hp => by
    obtain ⟨h1, h2⟩ := List.nodup_cons.1 hd
    simp only [spl, List.mem_append, List.mem_map] at hp
    rcases hp with ⟨q, hq, rfl⟩ | ⟨q, hq, rfl⟩
    · obtain ⟨g1, g2, g3⟩ := spl_mem h2 hq
      refine ⟨fun b hb => by simp [g1 b hb], g2, ?_⟩
      have : q.1.contains a = false := by
        cases h : q.1.contains a with
        | false => rfl
        | true => exact absurd (g1 a (by simpa using h)) h1
      simp only [List.filter_cons, this, Bool.not_false, if_true]
      rw [g3]
    · obtain ⟨g1, g2, g3⟩ := spl_mem h2 hq
      refine ⟨fun b hb => ?_, List.nodup_cons.2 ⟨fun h => h1 (g1 a h), g2⟩, ?_⟩
      · rcases List.mem_cons.1 hb with rfl | hb
        · simp
        · simp [g1 b hb]
      · have : (a :: q.1).contains a = true := by simp
        simp only [List.filter_cons, this, Bool.not_true]
        rw [g3]
        simp only [Bool.false_eq_true, if_false]
        refine List.filter_congr fun b hb => ?_
        have hba : b ≠ a := fun e => h1 (e ▸ hb)
        simp [hba]
theorem bitsL_nodup (s : Nat) : (bitsL s).Nodup := List.nodup_range.filter _
theorem bitsOf_len {q : List Nat} (hd : q.Nodup) (h8 : ∀ b ∈ q, b < 8) : (bitsL (bitsOf q)).length = q.length := by
  have h1 : ∀ b, b ∈ bitsL (bitsOf q) ↔ b ∈ q := fun b => by
    rw [mem_bitsL, bitsOf_bit]
    constructor
    · rintro ⟨_, h⟩; simpa using h
    · intro h; exact ⟨h8 b h, by simpa using h⟩
  have a := nodup_len (bitsL_nodup (bitsOf q)) fun b hb => (h1 b).1 hb
  have b := nodup_len hd fun b hb => (h1 b).2 hb
  omega
theorem bitsOf_nil {q : List Nat} : bitsOf q = 0 ↔ q = [] := by
  constructor
  · intro h
    cases q with
    | nil => rfl
    | cons a r =>
      have := bitsOf_bit (a :: r) a
      rw [h] at this; simp at this
  · rintro rfl; rfl
theorem LD_ldg {cl : Nat → Nat → Bool} (hs : Sym cl) (hi : ∀ a, cl a a = false) {t : List Nat} (ht : ∀ a b, (t.getD a 0).testBit b = cl a b) : ∀ (m s : Nat), s < m → s < 256 → LD t s = ldg cl (bitsL s)
  | 0, s, h, _ => by omega
  | m + 1, s, hm, h256 => by
    by_cases h0 : s = 0
    · subst h0; rw [LD_zero]; exact (ldg_nil cl).symm
    · obtain ⟨a, l, hal⟩ : ∃ a l, bitsL s = a :: l := by
        cases hb : bitsL s with
        | cons a l => exact ⟨a, l, rfl⟩
        | nil =>
          exfalso; apply h0
          apply Nat.eq_of_testBit_eq; intro b
          rw [Nat.zero_testBit]
          cases hc : s.testBit b with
          | false => rfl
          | true =>
            have : b ∈ bitsL s := mem_bitsL.2 ⟨bit_lt (n := 8) h256 hc, hc⟩
            rw [hb] at this; cases this
      have e1 : LD t s = sumL (chS s ++ [0]) fun f => if f = 0 then 0 else sgT t f (LD t (dif s f)) := by
        rw [LD_rec t h0, sumL_app]
        have : sumL [0] (fun f => if f = 0 then 0 else sgT t f (LD t (dif s f))) = 0 := by simp [sumL]
        rw [this, Int.add_zero]
        refine sumL_congr fun f hf => ?_
        rw [if_neg (chS_mem hf).1]
      rw [e1, sumL_perm (List.isPerm_iff.1 (chn_perm s h256)), ← subM_spl, hal, ldg_rec, subs_spl cl (a :: l) [] fun p q => if p = [] then 0 else -sgn p.length * ldg cl q, ← hal]
      refine sumL_congr fun p hp => ?_
      obtain ⟨g1, g2, g3⟩ := spl_mem (bitsL_nodup s) hp
      have g8 : ∀ b ∈ p.1, b < 8 := fun b hb => (mem_bitsL.1 (g1 b hb)).1
      by_cases hn : p.1 = []
      · rw [if_pos (bitsOf_nil.2 hn), if_pos hn]; simp
      · rw [if_neg fun h => hn (bitsOf_nil.1 h), if_neg hn]
        have hff : bitsOf p.1 &&& s = bitsOf p.1 := by
          apply Nat.eq_of_testBit_eq; intro b
          rw [Nat.testBit_and, bitsOf_bit]
          cases hc : p.1.contains b with
          | false => rfl
          | true =>
            have := (mem_bitsL.1 (g1 b (by simpa using hc))).2
            rw [this]; rfl
        have hdl := dif_lt (s := s) (fun h => hn (bitsOf_nil.1 h)) hff
        have hb2 : bitsL (dif s (bitsOf p.1)) = p.2 := by
          rw [g3]
          unfold bitsL
          rw [List.filter_filter]
          refine List.filter_congr fun b _ => ?_
          rw [dif_bit, bitsOf_bit, Bool.and_comm]
        have hap : aptS t (bitsOf p.1) = okH cl p.1 [] := by
          rw [Bool.eq_iff_iff, okH_iff hs hi]
          simp only [aptS, List.all_eq_true, decide_eq_true_iff, and_zero, List.not_mem_nil, false_implies, implies_true, true_and]
          have hm : ∀ b, b ∈ bitsL (bitsOf p.1) ↔ b ∈ p.1 := fun b => by
            rw [mem_bitsL, bitsOf_bit]
            constructor
            · rintro ⟨_, h⟩; simpa using h
            · intro h; exact ⟨g8 b h, by simpa using h⟩
          constructor
          · intro h x hx b hb
            have h1 := h x ((hm x).2 hx) b
            rw [ht, bitsOf_bit] at h1
            cases hc : cl x b with
            | false => rfl
            | true => have := h1 hc; simp [hb] at this
          · intro h x hx b hb
            rw [ht] at hb
            rw [bitsOf_bit]
            cases hc : p.1.contains b with
            | false => rfl
            | true => have := h x ((hm x).1 hx) b (by simpa using hc); rw [this] at hb; cases hb
        unfold sgT
        rw [hap, bitsOf_len g2 g8, LD_ldg hs hi ht m _ (by omega) (by omega), hb2]
        cases okH cl p.1 [] with
        | false => rfl
        | true =>
          simp only [if_true]
          unfold sgn
          by_cases ho : p.1.length % 2 = 1
          · rw [if_pos ho, if_neg (by omega)]; omega
          · rw [if_neg ho, if_pos (by omega)]; omega
theorem symC_irr (cl : Nat → Nat → Bool) (a : Nat) : symC cl a a = false := by unfold symC; rw [if_neg (by omega), if_neg (by omega)]
theorem LD_ldn {n : Nat} {cl : Nat → Nat → Bool} {t : List Nat} (hn : n ≤ 8) (ht : ∀ a b, (t.getD a 0).testBit b = symC cl a b) : LD t (2 ^ n - 1) = ldn cl n := by
  have h1 := pow_8 hn
  have h0 : 0 < 2 ^ n := Nat.two_pow_pos n
  rw [LD_ldg (symC_sym cl) (symC_irr cl) ht _ _ (Nat.lt_succ_self _) (by omega), ldn_ldg]
  congr 1
  have : ∀ n, n < 9 → bitsL (2 ^ n - 1) = List.range n := by decide
  exact this n (by omega)
end Go.Proofs.YtijnimgmpocmaaaDoor

/- Waste: Loadings, IsLoading. -/
namespace Go.Proofs.YtijnimgmpocmaaaDoor
open Go.RowKit
set_option linter.unusedVariables false
set_option linter.unusedSimpArgs false
@[reducible] def kW (N : Int) (ps : List Cell) : V := V.agg [C.i N, C.sl 0 ps.length]
set_option maxRecDepth 10000 in
set_option maxHeartbeats 4000000 in
theorem Loadings_spec (n : Nat) (qs : List (Nat × Nat)) (hk : Knd n qs) : Spec Tryd.prog 26 [kW n (castP qs)] [⟨0, .ro 2, cellC (castP qs)⟩] 1 (Is (V.tup [A.c (C.i (LD (tabS n qs) (2 ^ n - 1))), A.c (C.i 0)])) := by
  have hnt := newTable_spec n qs hk
  have htl := tabS_len n qs
  have hlo := loadings_spec (tabS n qs) n htl hk.rng.2 (tabS_256 hk)
  refine Spec.of tok Tryd.func26 rfl rfl rfl fun n0 cx => vc_ok tok ?_
  repeat ((conv => whnf); first | (refine And.intro (by first | omega | exact Nat.le_of_ble_eq_true rfl | (dsimp only [inK]; omega) | (simp only [mulS_eq]; omega) | (simp only [mulS_eq, setL_length]; omega) | (simp only [setL_length]; omega) | (simp only [setL_length, List.length_map]; omega) | (exact ⟨by omega, by omega, by first | exact Nat.le_of_ble_eq_true rfl | (dsimp only; omega) | (simp only [setL_length]; omega) | (simp only [setL_length, List.length_map]; omega)⟩) | (exact ⟨by omega, by first | rfl | omega, by omega, Nat.le_of_ble_eq_true rfl, Nat.le_of_ble_eq_true rfl⟩) | (exact ⟨rfl, rfl, rfl, Nat.le_of_ble_eq_true rfl, by first | rfl | omega | exact Nat.le_of_ble_eq_true rfl | (dsimp only; omega) | (simp; done) | (simp; omega), by first | rfl | omega | exact Nat.le_of_ble_eq_true rfl | (dsimp only; omega) | (simp; done) | (simp; omega), by omega, Nat.le_of_ble_eq_true rfl⟩) | exact Eq.refl true) ?_) | refine Exists.intro _ (And.intro rfl ?_) | refine And.intro (And.intro rfl (chk_rowI _ _ _ _)) ?_ | refine br_t (by omega) ?_ | refine br_f (by omega) ?_ | refine bs_t (by omega) ?_ | refine bs_f (by omega) ?_ | refine fun (K' : K3) hK' => ?_ | (refine hK' _ _ _ ?_; clear hK' K') | refine draw_auto tok mixed (by kernel_rfl) ?_ | refine CallK.rowE (R := []) (flat_u _) hnt (by kernel_rfl) rfl (by simp [V.wf, A.wf, C.wf]) ⟨roE_f (flat_c _) (l := 0) rfl (by omega) rfl (.inr rfl), trivial⟩ rfl ?_ | refine CallK.val (R := [(0, some 2)]) hlo (by kernel_rfl) rfl (by simp [V.wf, A.wf, C.wf]) ⟨roE_f (flat_u _) (l := 2) rfl (by omega) rfl (.inl rfl), trivial⟩ rfl rfl trivial ?_ | refine bs_bt (Eq.refl true) ?_ | refine bs_bf (Eq.refl false) ?_ | refine br_bt (Eq.refl true) ?_ | refine br_bf (Eq.refl false) ?_ | refine CallK.m ?_ | refine Two.l ?_ | refine And.intro (And.intro rfl rfl) ?_)
  intro ρ; rfl
/-- Who is loaded before whom. -/
def fst1 (t : List Nat) (p : Nat × Nat) (b : Bool) : List Nat := if b = true then t.set p.2 (t.getD p.2 0 ||| 2 ^ p.1) else t.set p.1 (t.getD p.1 0 ||| 2 ^ p.2)
def fstK (n : Nat) (qs : List (Nat × Nat)) (bs : List Bool) : Nat → List Nat
  | 0 => List.replicate n 0
  | k + 1 => fst1 (fstK n qs bs k) (qs.getD k (0, 0)) (bs.getD k false)
theorem fst1_len (t : List Nat) (p : Nat × Nat) (b : Bool) : (fst1 t p b).length = t.length := by unfold fst1; split <;> simp
theorem fstK_len (n : Nat) (qs : List (Nat × Nat)) (bs : List Bool) : ∀ k, (fstK n qs bs k).length = n
  | 0 => by simp [fstK]
  | k + 1 => by simp only [fstK]; rw [fst1_len, fstK_len n qs bs k]
theorem fstK_lt {n : Nat} {qs : List (Nat × Nat)} (hk : Knd n qs) (bs : List Bool) : ∀ k, k ≤ qs.length → ∀ x ∈ fstK n qs bs k, x < 256
  | 0, _, x, hx => by simp only [fstK] at hx; rw [List.eq_of_mem_replicate hx]; omega
  | k + 1, hkk, x, hx => by
    have hp := hk.ok _ (getD_mem (show k < qs.length by omega))
    have hn := hk.rng
    have ih := fstK_lt hk bs k (by omega)
    simp only [fstK, fst1] at hx
    split at hx
    · rcases List.mem_or_eq_of_mem_set hx with h | rfl
      · exact ih x h
      · exact or_256 (getD_lt (by omega) ih _) (pow_256 (by omega))
    · rcases List.mem_or_eq_of_mem_set hx with h | rfl
      · exact ih x h
      · exact or_256 (getD_lt (by omega) ih _) (pow_256 (by omega))
def ldA (t : List Nat) (L : Nat) : Nat → Nat
  | 0 => L
  | a + 1 => if dif (t.getD a 0) (ldA t L a) = 0 then ldA t L a ||| 2 ^ a else ldA t L a
def ldR (t : List Nat) (n : Nat) : Nat → Nat
  | 0 => 0
  | k + 1 => ldA t (ldR t n k) n
theorem ldA_256 {t : List Nat} {L : Nat} (hL : L < 256) : ∀ a, a ≤ 8 → ldA t L a < 256
  | 0, _ => hL
  | a + 1, h => by
    have := ldA_256 (t := t) hL a (by omega)
    simp only [ldA]
    split
    · exact or_256 this (pow_256 (by omega))
    · exact this
theorem ldR_256 (t : List Nat) {n : Nat} (hn : n ≤ 8) : ∀ k, ldR t n k < 256
  | 0 => by simp [ldR]
  | k + 1 => ldA_256 (ldR_256 t hn k) n hn
def isLd (n : Nat) (qs : List (Nat × Nat)) (bs : List Bool) : Bool := decide ((((bitsL (ldR (fstK n qs bs qs.length) n n)).length : Nat) : Int) = n)
section
end
set_option maxRecDepth 10000 in
set_option maxHeartbeats 8000000 in
theorem isLoading_spec (n : Nat) (qs : List (Nat × Nat)) (hk : Knd n qs) (bs : List Bool) (hbl : bs.length = qs.length) :
    Spec Tryd.prog 33 [kW n (castP qs), V.c (.sl 1 bs.length)] [⟨0, .ro 2, cellC (castP qs)⟩, ⟨1, .ro 0, bs.map C.bool⟩] 2 (Is (V.tup [A.c (.bool (isLd n qs bs)), A.c (C.i 0)])) := by
  have hcl := cellC_len (castP qs)
  have hn := hk.rng
  have hql := knd_len hk
  have hpl := castP_len qs
  have hva := valid_spec n (castP qs) (by omega)
  rw [knd_ok hk] at hva
  have hrep := repU n
  have hbm : (bs.map C.bool).length = bs.length := List.length_map _
  have hle : ¬ (bs.length : Int) ≠ ((castP qs).length : Int) := by omega
  refine Spec.of tok Tryd.func33 rfl rfl rfl fun n0 cx => vc_ok tok ?_
  repeat ((conv => whnf); first | (refine And.intro (by first | omega | exact Nat.le_of_ble_eq_true rfl | (dsimp only [inK]; omega) | (simp only [mulS_eq]; omega) | (simp only [mulS_eq, setL_length]; omega) | (simp only [setL_length]; omega) | (simp only [setL_length, List.length_map]; omega) | (exact ⟨by omega, by omega, by first | exact Nat.le_of_ble_eq_true rfl | (dsimp only; omega) | (simp only [setL_length]; omega) | (simp only [setL_length, List.length_map]; omega)⟩) | (exact ⟨by omega, by first | rfl | omega, by omega, Nat.le_of_ble_eq_true rfl, Nat.le_of_ble_eq_true rfl⟩) | (exact ⟨rfl, rfl, rfl, Nat.le_of_ble_eq_true rfl, by first | rfl | omega | exact Nat.le_of_ble_eq_true rfl | (dsimp only; omega) | (simp; done) | (simp; omega), by first | rfl | omega | exact Nat.le_of_ble_eq_true rfl | (dsimp only; omega) | (simp; done) | (simp; omega), by omega, Nat.le_of_ble_eq_true rfl⟩) | exact Eq.refl true) ?_) | refine Exists.intro _ (And.intro rfl ?_) | refine And.intro (And.intro rfl (chk_rowI _ _ _ _)) ?_ | refine br_t (by omega) ?_ | refine br_f (by omega) ?_ | refine bs_t (by omega) ?_ | refine bs_f (by omega) ?_ | refine fun (K' : K3) hK' => ?_ | (refine hK' _ _ _ ?_; clear hK' K') | refine draw_auto tok mixed (by kernel_rfl) ?_ | refine CallK.val (R := []) hva (by kernel_rfl) rfl (by simp [V.wf, A.wf, C.wf]) ⟨roE_f (flat_c _) (l := 0) rfl (by omega) rfl (.inr rfl), trivial⟩ rfl rfl trivial ?_ | refine bs_f hle ?_ | refine br_f hle ?_ | refine bs_bt (Eq.refl true) ?_ | refine bs_bf (Eq.refl false) ?_ | refine br_bt (Eq.refl true) ?_ | refine br_bf (Eq.refl false) ?_ | refine CallK.m ?_ | refine Two.l ?_ | refine And.intro (And.intro rfl rfl) ?_)
  refine Tri.loop (γ := Nat) (fun k => k ≤ qs.length) (fun k => [(1, V.c (.sl 1 bs.length)), (2, V.c (.ptr 2 0)), (4, V.c .ff), (5, V.i 0), (6, V.c (.sl 3 n)), (27, V.c (.sl 0 (castP qs).length)), (28, V.i (castP qs).length), (29, V.i (k : Nat))])
    (fun k => [⟨3, .vec 75 1, (fstK n qs bs k).map C.u⟩, ⟨2, .own 24, [C.i n, .sl 0 (castP qs).length]⟩, ⟨0, .ro 2, cellC (castP qs)⟩, ⟨1, .ro 0, bs.map C.bool⟩]) 4 (fun k => qs.length - k) 0 (R0 := []) ?_ ?_ ?_
  · omega
  · skip
    refine ⟨?_, ?_, rfl, rfl, by first | exact Nat.le_of_ble_eq_true rfl | exact Nat.le_refl _ | omega⟩
    · repeat (first | exact trivial | (refine And.intro (covS_syn (by rfl) rfl (by first | exact trivial | exact Nat.le_of_ble_eq_true rfl | exact hy | exact (fun p hp => nomatch hp) | (show (_ : Nat) < _; omega))) ?_) | refine And.intro (covS_bool rfl rfl (by rfl)) ?_)
    · repeat (first | exact trivial | (refine And.intro (covE_id (Nat.le_of_ble_eq_true rfl) (by first | exact wf_ints _ _ | exact wf_bools _ _ | first | exact wf_us _ _ | exact wf_cells _ _ | exact wf_bools _ _ | (simp [C.wf]; done) | simp [C.wf]) rfl (by first | rfl | exact hrep)) ?_))
  · intro k hkl
    refine vc_ok tok ?_
    by_cases hlt : k < qs.length
    · have hld := cellT (l := castP qs) (k := k) rfl (by omega)
      change takeC (cellC (castP qs)) (mulS ((k : Nat) : Int).toNat 2) 2 = some [C.i ((castP qs).getD k cz).1, C.i ((castP qs).getD k cz).2] at hld
      rw [castP_get hlt] at hld
      have hpq := hk.ok _ (getD_mem hlt)
      have htl := fstK_len n qs bs k
      have htb := fstK_lt hk bs k hkl
      have hsucc : fstK n qs bs (k + 1) = fst1 (fstK n qs bs k) (qs.getD k (0, 0)) (bs.getD k false) := rfl
      have hlb : (bs.map C.bool)[mulS ((k : Nat) : Int).toNat 1]? = some (C.bool (bs.getD k false)) := boolL (by omega)
      obtain ⟨p, hp⟩ : ∃ p, p = qs.getD k (0, 0) := ⟨_, rfl⟩
      obtain ⟨t, ht⟩ : ∃ t, t = fstK n qs bs k := ⟨_, rfl⟩
      rw [← hp] at hld hsucc hpq
      rw [← ht] at hsucc htl htb ⊢
      obtain ⟨a, b⟩ := p
      simp only at hld hpq
      have hlm : (t.map C.u).length = n := by rw [List.length_map, htl]
      cases hb : bs.getD k false with
      | true =>
        rw [hb] at hsucc hlb
        have ha := getD_lt (by omega) htb b
        have hl1 : (t.map C.u)[mulS ((b : Nat) : Int).toNat 1]? = some (C.u (t.getD b 0)) := uLz rfl (by omega)
        have hw1 := with_spec (t.getD b 0) a ha (by omega)
        have hfin : setL (t.map C.u) (mulS ((b : Nat) : Int).toNat 1) [C.int .u64 ((t.getD b 0 ||| 2 ^ a : Nat) : Int)] = (fstK n qs bs (k + 1)).map C.u := by
          rw [setU rfl rfl, hsucc]; rfl
        repeat ((conv => whnf); first | (refine And.intro (by first | omega | exact Nat.le_of_ble_eq_true rfl | (dsimp only [inK]; omega) | (simp only [mulS_eq]; omega) | (simp only [mulS_eq, setL_length]; omega) | (simp only [setL_length]; omega) | (simp only [setL_length, List.length_map]; omega) | (exact ⟨by omega, by omega, by first | exact Nat.le_of_ble_eq_true rfl | (dsimp only; omega) | (simp only [setL_length]; omega) | (simp only [setL_length, List.length_map]; omega)⟩) | (exact ⟨by omega, by first | rfl | omega, by omega, Nat.le_of_ble_eq_true rfl, Nat.le_of_ble_eq_true rfl⟩) | (exact ⟨rfl, rfl, rfl, Nat.le_of_ble_eq_true rfl, by first | rfl | omega | exact Nat.le_of_ble_eq_true rfl | (dsimp only; omega) | (simp; done) | (simp; omega), by first | rfl | omega | exact Nat.le_of_ble_eq_true rfl | (dsimp only; omega) | (simp; done) | (simp; omega), by omega, Nat.le_of_ble_eq_true rfl⟩) | exact Eq.refl true) ?_) | with_reducible refine ld (hld) ?_ | with_reducible refine ld (hlb) ?_ | with_reducible refine ld (hl1) ?_ | refine Exists.intro _ (And.intro rfl ?_) | refine And.intro (And.intro rfl (chk_rowI _ _ _ _)) ?_ | refine br_t (by omega) ?_ | refine br_f (by omega) ?_ | refine bs_t (by omega) ?_ | refine bs_f (by omega) ?_ | refine fun (K' : K3) hK' => ?_ | (refine hK' _ _ _ ?_; clear hK' K') | refine draw_auto tok mixed (by kernel_rfl) ?_ | refine HD_mk (fun _ h => CallK.val (R := []) hw1 (by kernel_rfl) rfl (by simp [V.wf, A.wf, C.wf, V.i]) trivial rfl rfl trivial h) ?_ | refine bs_bt (Eq.refl true) ?_ | refine bs_bf (Eq.refl false) ?_ | refine br_bt (Eq.refl true) ?_ | refine br_bf (Eq.refl false) ?_ | refine CallK.m ?_ | refine Two.l ?_ | refine And.intro (And.intro rfl rfl) ?_)
        refine ⟨k + 1, [], by omega, by omega, ?_⟩
        refine ⟨?_, ?_, rfl, rfl, by first | exact Nat.le_of_ble_eq_true rfl | exact Nat.le_refl _ | omega⟩
        · repeat (first | exact trivial | (refine And.intro (covS_syn (by first | rfl | (refine congrArg some (congrArg V.i ?_); omega)) rfl (by first | exact trivial | exact Nat.le_of_ble_eq_true rfl | exact hy | exact (fun p hp => nomatch hp) | (show (_ : Nat) < _; omega))) ?_) | refine And.intro (covS_bool rfl rfl (by rfl)) ?_)
        · repeat (first | exact trivial | (refine And.intro (covE_id (Nat.le_of_ble_eq_true rfl) (by first | exact wf_ints _ _ | exact wf_bools _ _ | first | exact wf_us _ _ | exact wf_cells _ _ | exact wf_bools _ _ | (simp [C.wf]; done) | simp [C.wf]) rfl (by first | rfl | exact hfin)) ?_))
      | false =>
        rw [hb] at hsucc hlb
        have ha := getD_lt (by omega) htb a
        have hl1 : (t.map C.u)[mulS ((a : Nat) : Int).toNat 1]? = some (C.u (t.getD a 0)) := uLz rfl (by omega)
        have hw1 := with_spec (t.getD a 0) b ha (by omega)
        have hfin : setL (t.map C.u) (mulS ((a : Nat) : Int).toNat 1) [C.int .u64 ((t.getD a 0 ||| 2 ^ b : Nat) : Int)] = (fstK n qs bs (k + 1)).map C.u := by
          rw [setU rfl rfl, hsucc]; rfl
        repeat ((conv => whnf); first | (refine And.intro (by first | omega | exact Nat.le_of_ble_eq_true rfl | (dsimp only [inK]; omega) | (simp only [mulS_eq]; omega) | (simp only [mulS_eq, setL_length]; omega) | (simp only [setL_length]; omega) | (simp only [setL_length, List.length_map]; omega) | (exact ⟨by omega, by omega, by first | exact Nat.le_of_ble_eq_true rfl | (dsimp only; omega) | (simp only [setL_length]; omega) | (simp only [setL_length, List.length_map]; omega)⟩) | (exact ⟨by omega, by first | rfl | omega, by omega, Nat.le_of_ble_eq_true rfl, Nat.le_of_ble_eq_true rfl⟩) | (exact ⟨rfl, rfl, rfl, Nat.le_of_ble_eq_true rfl, by first | rfl | omega | exact Nat.le_of_ble_eq_true rfl | (dsimp only; omega) | (simp; done) | (simp; omega), by first | rfl | omega | exact Nat.le_of_ble_eq_true rfl | (dsimp only; omega) | (simp; done) | (simp; omega), by omega, Nat.le_of_ble_eq_true rfl⟩) | exact Eq.refl true) ?_) | with_reducible refine ld (hld) ?_ | with_reducible refine ld (hlb) ?_ | with_reducible refine ld (hl1) ?_ | refine Exists.intro _ (And.intro rfl ?_) | refine And.intro (And.intro rfl (chk_rowI _ _ _ _)) ?_ | refine br_t (by omega) ?_ | refine br_f (by omega) ?_ | refine bs_t (by omega) ?_ | refine bs_f (by omega) ?_ | refine fun (K' : K3) hK' => ?_ | (refine hK' _ _ _ ?_; clear hK' K') | refine draw_auto tok mixed (by kernel_rfl) ?_ | refine HD_mk (fun _ h => CallK.val (R := []) hw1 (by kernel_rfl) rfl (by simp [V.wf, A.wf, C.wf, V.i]) trivial rfl rfl trivial h) ?_ | refine bs_bt (Eq.refl true) ?_ | refine bs_bf (Eq.refl false) ?_ | refine br_bt (Eq.refl true) ?_ | refine br_bf (Eq.refl false) ?_ | refine CallK.m ?_ | refine Two.l ?_ | refine And.intro (And.intro rfl rfl) ?_)
        refine ⟨k + 1, [], by omega, by omega, ?_⟩
        refine ⟨?_, ?_, rfl, rfl, by first | exact Nat.le_of_ble_eq_true rfl | exact Nat.le_refl _ | omega⟩
        · repeat (first | exact trivial | (refine And.intro (covS_syn (by first | rfl | (refine congrArg some (congrArg V.i ?_); omega)) rfl (by first | exact trivial | exact Nat.le_of_ble_eq_true rfl | exact hy | exact (fun p hp => nomatch hp) | (show (_ : Nat) < _; omega))) ?_) | refine And.intro (covS_bool rfl rfl (by rfl)) ?_)
        · repeat (first | exact trivial | (refine And.intro (covE_id (Nat.le_of_ble_eq_true rfl) (by first | exact wf_ints _ _ | exact wf_bools _ _ | first | exact wf_us _ _ | exact wf_cells _ _ | exact wf_bools _ _ | (simp [C.wf]; done) | simp [C.wf]) rfl (by first | rfl | exact hfin)) ?_))
    · obtain rfl : k = qs.length := by omega
      have htl := fstK_len n qs bs qs.length
      have htb := fstK_lt hk bs qs.length (Nat.le_refl _)
      have hres : isLd n qs bs = decide ((((bitsL (ldR (fstK n qs bs qs.length) n n)).length : Nat) : Int) = n) := rfl
      obtain ⟨t, ht⟩ : ∃ t, t = fstK n qs bs qs.length := ⟨_, rfl⟩
      rw [← ht] at htl htb hres ⊢
      have hlm : (t.map C.u).length = n := by rw [List.length_map, htl]
      repeat ((conv => whnf); first | (refine And.intro (by first | omega | exact Nat.le_of_ble_eq_true rfl | (dsimp only [inK]; omega) | (simp only [mulS_eq]; omega) | (simp only [mulS_eq, setL_length]; omega) | (simp only [setL_length]; omega) | (simp only [setL_length, List.length_map]; omega) | (exact ⟨by omega, by omega, by first | exact Nat.le_of_ble_eq_true rfl | (dsimp only; omega) | (simp only [setL_length]; omega) | (simp only [setL_length, List.length_map]; omega)⟩) | (exact ⟨by omega, by first | rfl | omega, by omega, Nat.le_of_ble_eq_true rfl, Nat.le_of_ble_eq_true rfl⟩) | (exact ⟨rfl, rfl, rfl, Nat.le_of_ble_eq_true rfl, by first | rfl | omega | exact Nat.le_of_ble_eq_true rfl | (dsimp only; omega) | (simp; done) | (simp; omega), by first | rfl | omega | exact Nat.le_of_ble_eq_true rfl | (dsimp only; omega) | (simp; done) | (simp; omega), by omega, Nat.le_of_ble_eq_true rfl⟩) | exact Eq.refl true) ?_) | refine Exists.intro _ (And.intro rfl ?_) | refine And.intro (And.intro rfl (chk_rowI _ _ _ _)) ?_ | refine br_t (by omega) ?_ | refine br_f (by omega) ?_ | refine bs_t (by omega) ?_ | refine bs_f (by omega) ?_ | refine fun (K' : K3) hK' => ?_ | (refine hK' _ _ _ ?_; clear hK' K') | refine draw_auto tok mixed (by kernel_rfl) ?_ | refine bs_bt (Eq.refl true) ?_ | refine bs_bf (Eq.refl false) ?_ | refine br_bt (Eq.refl true) ?_ | refine br_bf (Eq.refl false) ?_ | refine CallK.m ?_ | refine Two.l ?_ | refine And.intro (And.intro rfl rfl) ?_)
      refine Tri.loop (γ := Nat) (fun i => i ≤ n) (fun i => [(2, V.c (.ptr 2 0)), (6, V.c (.sl 3 n)), (9, V.u (ldR t n i)), (64, V.i n), (65, V.i (i : Nat))])
        (fun i => [⟨3, .vec 75 1, t.map C.u⟩, ⟨2, .own 24, [C.i n, .sl 0 (castP qs).length]⟩, ⟨0, .ro 2, cellC (castP qs)⟩, ⟨1, .ro 0, bs.map C.bool⟩]) 4 (fun i => n - i) 0 (R0 := []) ?_ ?_ ?_
      · omega
      · skip
        refine ⟨?_, ?_, rfl, rfl, by first | exact Nat.le_of_ble_eq_true rfl | exact Nat.le_refl _ | omega⟩
        · repeat (first | exact trivial | (refine And.intro (covS_syn (by rfl) rfl (by first | exact trivial | exact Nat.le_of_ble_eq_true rfl | exact hy | exact (fun p hp => nomatch hp) | (show (_ : Nat) < _; omega))) ?_) | refine And.intro (covS_bool rfl rfl (by rfl)) ?_)
        · repeat (first | exact trivial | (refine And.intro (covE_id (Nat.le_of_ble_eq_true rfl) (by first | exact wf_ints _ _ | exact wf_bools _ _ | first | exact wf_us _ _ | exact wf_cells _ _ | exact wf_bools _ _ | (simp [C.wf]; done) | simp [C.wf]) rfl (by rfl)) ?_))
      · intro i hi
        refine vc_ok tok ?_
        by_cases hin : i < n
        · have hL := ldR_256 t hn.2 i
          have hRs : ldR t n (i + 1) = ldA t (ldR t n i) n := rfl
          obtain ⟨L, hLL⟩ : ∃ L, L = ldR t n i := ⟨_, rfl⟩
          rw [← hLL] at hL hRs ⊢
          repeat ((conv => whnf); first | (refine And.intro (by first | omega | exact Nat.le_of_ble_eq_true rfl | (dsimp only [inK]; omega) | (simp only [mulS_eq]; omega) | (simp only [mulS_eq, setL_length]; omega) | (simp only [setL_length]; omega) | (simp only [setL_length, List.length_map]; omega) | (exact ⟨by omega, by omega, by first | exact Nat.le_of_ble_eq_true rfl | (dsimp only; omega) | (simp only [setL_length]; omega) | (simp only [setL_length, List.length_map]; omega)⟩) | (exact ⟨by omega, by first | rfl | omega, by omega, Nat.le_of_ble_eq_true rfl, Nat.le_of_ble_eq_true rfl⟩) | (exact ⟨rfl, rfl, rfl, Nat.le_of_ble_eq_true rfl, by first | rfl | omega | exact Nat.le_of_ble_eq_true rfl | (dsimp only; omega) | (simp; done) | (simp; omega), by first | rfl | omega | exact Nat.le_of_ble_eq_true rfl | (dsimp only; omega) | (simp; done) | (simp; omega), by omega, Nat.le_of_ble_eq_true rfl⟩) | exact Eq.refl true) ?_) | refine Exists.intro _ (And.intro rfl ?_) | refine And.intro (And.intro rfl (chk_rowI _ _ _ _)) ?_ | refine br_t (by omega) ?_ | refine br_f (by omega) ?_ | refine bs_t (by omega) ?_ | refine bs_f (by omega) ?_ | refine fun (K' : K3) hK' => ?_ | (refine hK' _ _ _ ?_; clear hK' K') | refine draw_auto tok mixed (by kernel_rfl) ?_ | refine bs_bt (Eq.refl true) ?_ | refine bs_bf (Eq.refl false) ?_ | refine br_bt (Eq.refl true) ?_ | refine br_bf (Eq.refl false) ?_ | refine CallK.m ?_ | refine Two.l ?_ | refine And.intro (And.intro rfl rfl) ?_)
          refine Tri.loop (γ := Nat) (fun a => a ≤ n) (fun a => [(2, V.c (.ptr 2 0)), (6, V.c (.sl 3 n)), (9, V.u (ldA t L a)), (64, V.i n), (65, V.i (i : Nat)), (67, V.c (.sl 3 n)), (68, V.i n), (69, V.i (a : Nat))])
            (fun a => [⟨3, .vec 75 1, t.map C.u⟩, ⟨2, .own 24, [C.i n, .sl 0 (castP qs).length]⟩, ⟨0, .ro 2, cellC (castP qs)⟩, ⟨1, .ro 0, bs.map C.bool⟩]) 4 (fun a => n - a) 0 (R0 := []) ?_ ?_ ?_
          · omega
          · skip
            refine ⟨?_, ?_, rfl, rfl, by first | exact Nat.le_of_ble_eq_true rfl | exact Nat.le_refl _ | omega⟩
            · repeat (first | exact trivial | (refine And.intro (covS_syn (by rfl) rfl (by first | exact trivial | exact Nat.le_of_ble_eq_true rfl | exact hy | exact (fun p hp => nomatch hp) | (show (_ : Nat) < _; omega))) ?_) | refine And.intro (covS_bool rfl rfl (by rfl)) ?_)
            · repeat (first | exact trivial | (refine And.intro (covE_id (Nat.le_of_ble_eq_true rfl) (by first | exact wf_ints _ _ | exact wf_bools _ _ | first | exact wf_us _ _ | exact wf_cells _ _ | exact wf_bools _ _ | (simp [C.wf]; done) | simp [C.wf]) rfl (by rfl)) ?_))
          · intro a ha
            refine vc_ok tok ?_
            by_cases han : a < n
            · have hla : (t.map C.u)[mulS ((a : Nat) : Int).toNat 1]? = some (C.u (t.getD a 0)) := uLz rfl (by omega)
              have hta := getD_lt (by omega) htb a
              have hA := ldA_256 (t := t) hL a (by omega)
              have hAs : ldA t L (a + 1) = if dif (t.getD a 0) (ldA t L a) = 0 then ldA t L a ||| 2 ^ a else ldA t L a := rfl
              obtain ⟨A0, hA0⟩ : ∃ A0, A0 = ldA t L a := ⟨_, rfl⟩
              rw [← hA0] at hA hAs ⊢
              have hand := bit_andNot (x := t.getD a 0) (y := A0) (by omega) (by omega)
              have hw := with_spec A0 a hA (by omega)
              by_cases hz : bitI .andNot .u64 ((t.getD a 0 : Nat) : Int) (A0 : Int) = 0
              · have hst : ldA t L (a + 1) = A0 ||| 2 ^ a := by rw [hAs, if_pos (by rw [hand] at hz; omega)]
                repeat ((conv => whnf); first | (refine And.intro (by first | omega | exact Nat.le_of_ble_eq_true rfl | (dsimp only [inK]; omega) | (simp only [mulS_eq]; omega) | (simp only [mulS_eq, setL_length]; omega) | (simp only [setL_length]; omega) | (simp only [setL_length, List.length_map]; omega) | (exact ⟨by omega, by omega, by first | exact Nat.le_of_ble_eq_true rfl | (dsimp only; omega) | (simp only [setL_length]; omega) | (simp only [setL_length, List.length_map]; omega)⟩) | (exact ⟨by omega, by first | rfl | omega, by omega, Nat.le_of_ble_eq_true rfl, Nat.le_of_ble_eq_true rfl⟩) | (exact ⟨rfl, rfl, rfl, Nat.le_of_ble_eq_true rfl, by first | rfl | omega | exact Nat.le_of_ble_eq_true rfl | (dsimp only; omega) | (simp; done) | (simp; omega), by first | rfl | omega | exact Nat.le_of_ble_eq_true rfl | (dsimp only; omega) | (simp; done) | (simp; omega), by omega, Nat.le_of_ble_eq_true rfl⟩) | exact Eq.refl true) ?_) | with_reducible refine ld (hla) ?_ | refine Exists.intro _ (And.intro rfl ?_) | refine And.intro (And.intro rfl (chk_rowI _ _ _ _)) ?_ | refine br_t (by omega) ?_ | refine br_f (by omega) ?_ | refine bs_t (by omega) ?_ | refine bs_f (by omega) ?_ | refine fun (K' : K3) hK' => ?_ | (refine hK' _ _ _ ?_; clear hK' K') | refine draw_auto tok mixed (by kernel_rfl) ?_ | refine bs_t hz ?_ | refine br_t hz ?_ | refine CallK.val (R := []) hw (by kernel_rfl) rfl (by simp [V.wf, A.wf, C.wf, V.i]) trivial rfl rfl trivial ?_ | refine bs_bt (Eq.refl true) ?_ | refine bs_bf (Eq.refl false) ?_ | refine br_bt (Eq.refl true) ?_ | refine br_bf (Eq.refl false) ?_ | refine CallK.m ?_ | refine Two.l ?_ | refine And.intro (And.intro rfl rfl) ?_)
                refine ⟨a + 1, [], by omega, by omega, ?_⟩
                refine ⟨?_, ?_, rfl, rfl, by first | exact Nat.le_of_ble_eq_true rfl | exact Nat.le_refl _ | omega⟩
                · repeat (first | exact trivial | (refine And.intro (covS_syn (by first | rfl | (refine congrArg some (congrArg V.i ?_); omega) | (rw [hst]; rfl)) rfl (by first | exact trivial | exact Nat.le_of_ble_eq_true rfl | exact hy | exact (fun p hp => nomatch hp) | (show (_ : Nat) < _; omega))) ?_) | refine And.intro (covS_bool rfl rfl (by rfl)) ?_)
                · repeat (first | exact trivial | (refine And.intro (covE_id (Nat.le_of_ble_eq_true rfl) (by first | exact wf_ints _ _ | exact wf_bools _ _ | first | exact wf_us _ _ | exact wf_cells _ _ | exact wf_bools _ _ | (simp [C.wf]; done) | simp [C.wf]) rfl (by rfl)) ?_))
              · have hst : ldA t L (a + 1) = A0 := by rw [hAs, if_neg (by rw [hand] at hz; omega)]
                repeat ((conv => whnf); first | (refine And.intro (by first | omega | exact Nat.le_of_ble_eq_true rfl | (dsimp only [inK]; omega) | (simp only [mulS_eq]; omega) | (simp only [mulS_eq, setL_length]; omega) | (simp only [setL_length]; omega) | (simp only [setL_length, List.length_map]; omega) | (exact ⟨by omega, by omega, by first | exact Nat.le_of_ble_eq_true rfl | (dsimp only; omega) | (simp only [setL_length]; omega) | (simp only [setL_length, List.length_map]; omega)⟩) | (exact ⟨by omega, by first | rfl | omega, by omega, Nat.le_of_ble_eq_true rfl, Nat.le_of_ble_eq_true rfl⟩) | (exact ⟨rfl, rfl, rfl, Nat.le_of_ble_eq_true rfl, by first | rfl | omega | exact Nat.le_of_ble_eq_true rfl | (dsimp only; omega) | (simp; done) | (simp; omega), by first | rfl | omega | exact Nat.le_of_ble_eq_true rfl | (dsimp only; omega) | (simp; done) | (simp; omega), by omega, Nat.le_of_ble_eq_true rfl⟩) | exact Eq.refl true) ?_) | with_reducible refine ld (hla) ?_ | refine Exists.intro _ (And.intro rfl ?_) | refine And.intro (And.intro rfl (chk_rowI _ _ _ _)) ?_ | refine br_t (by omega) ?_ | refine br_f (by omega) ?_ | refine bs_t (by omega) ?_ | refine bs_f (by omega) ?_ | refine fun (K' : K3) hK' => ?_ | (refine hK' _ _ _ ?_; clear hK' K') | refine draw_auto tok mixed (by kernel_rfl) ?_ | refine bs_f hz ?_ | refine br_f hz ?_ | refine bs_bt (Eq.refl true) ?_ | refine bs_bf (Eq.refl false) ?_ | refine br_bt (Eq.refl true) ?_ | refine br_bf (Eq.refl false) ?_ | refine CallK.m ?_ | refine Two.l ?_ | refine And.intro (And.intro rfl rfl) ?_)
                refine ⟨a + 1, [], by omega, by omega, ?_⟩
                refine ⟨?_, ?_, rfl, rfl, by first | exact Nat.le_of_ble_eq_true rfl | exact Nat.le_refl _ | omega⟩
                · repeat (first | exact trivial | (refine And.intro (covS_syn (by first | rfl | (refine congrArg some (congrArg V.i ?_); omega) | (rw [hst]; rfl)) rfl (by first | exact trivial | exact Nat.le_of_ble_eq_true rfl | exact hy | exact (fun p hp => nomatch hp) | (show (_ : Nat) < _; omega))) ?_) | refine And.intro (covS_bool rfl rfl (by rfl)) ?_)
                · repeat (first | exact trivial | (refine And.intro (covE_id (Nat.le_of_ble_eq_true rfl) (by first | exact wf_ints _ _ | exact wf_bools _ _ | first | exact wf_us _ _ | exact wf_cells _ _ | exact wf_bools _ _ | (simp [C.wf]; done) | simp [C.wf]) rfl (by rfl)) ?_))
            · obtain rfl : a = n := by omega
              rw [← hRs]
              repeat ((conv => whnf); first | (refine And.intro (by first | omega | exact Nat.le_of_ble_eq_true rfl | (dsimp only [inK]; omega) | (simp only [mulS_eq]; omega) | (simp only [mulS_eq, setL_length]; omega) | (simp only [setL_length]; omega) | (simp only [setL_length, List.length_map]; omega) | (exact ⟨by omega, by omega, by first | exact Nat.le_of_ble_eq_true rfl | (dsimp only; omega) | (simp only [setL_length]; omega) | (simp only [setL_length, List.length_map]; omega)⟩) | (exact ⟨by omega, by first | rfl | omega, by omega, Nat.le_of_ble_eq_true rfl, Nat.le_of_ble_eq_true rfl⟩) | (exact ⟨rfl, rfl, rfl, Nat.le_of_ble_eq_true rfl, by first | rfl | omega | exact Nat.le_of_ble_eq_true rfl | (dsimp only; omega) | (simp; done) | (simp; omega), by first | rfl | omega | exact Nat.le_of_ble_eq_true rfl | (dsimp only; omega) | (simp; done) | (simp; omega), by omega, Nat.le_of_ble_eq_true rfl⟩) | exact Eq.refl true) ?_) | refine Exists.intro _ (And.intro rfl ?_) | refine And.intro (And.intro rfl (chk_rowI _ _ _ _)) ?_ | refine br_t (by omega) ?_ | refine br_f (by omega) ?_ | refine bs_t (by omega) ?_ | refine bs_f (by omega) ?_ | refine fun (K' : K3) hK' => ?_ | (refine hK' _ _ _ ?_; clear hK' K') | refine draw_auto tok mixed (by kernel_rfl) ?_ | refine bs_bt (Eq.refl true) ?_ | refine bs_bf (Eq.refl false) ?_ | refine br_bt (Eq.refl true) ?_ | refine br_bf (Eq.refl false) ?_ | refine CallK.m ?_ | refine Two.l ?_ | refine And.intro (And.intro rfl rfl) ?_)
              refine ⟨i + 1, [], by omega, by omega, ?_⟩
              refine ⟨?_, ?_, rfl, rfl, by first | exact Nat.le_of_ble_eq_true rfl | exact Nat.le_refl _ | omega⟩
              · repeat (first | exact trivial | (refine And.intro (covS_syn (by first | rfl | (refine congrArg some (congrArg V.i ?_); omega)) rfl (by first | exact trivial | exact Nat.le_of_ble_eq_true rfl | exact hy | exact (fun p hp => nomatch hp) | (show (_ : Nat) < _; omega))) ?_) | refine And.intro (covS_bool rfl rfl (by rfl)) ?_)
              · repeat (first | exact trivial | (refine And.intro (covE_id (Nat.le_of_ble_eq_true rfl) (by first | exact wf_ints _ _ | exact wf_bools _ _ | first | exact wf_us _ _ | exact wf_cells _ _ | exact wf_bools _ _ | (simp [C.wf]; done) | simp [C.wf]) rfl (by rfl)) ?_))
        · obtain rfl : i = n := by omega
          have hsz := size_spec (ldR t i i) (ldR_256 t hn.2 i)
          repeat ((conv => whnf); first | (refine And.intro (by first | omega | exact Nat.le_of_ble_eq_true rfl | (dsimp only [inK]; omega) | (simp only [mulS_eq]; omega) | (simp only [mulS_eq, setL_length]; omega) | (simp only [setL_length]; omega) | (simp only [setL_length, List.length_map]; omega) | (exact ⟨by omega, by omega, by first | exact Nat.le_of_ble_eq_true rfl | (dsimp only; omega) | (simp only [setL_length]; omega) | (simp only [setL_length, List.length_map]; omega)⟩) | (exact ⟨by omega, by first | rfl | omega, by omega, Nat.le_of_ble_eq_true rfl, Nat.le_of_ble_eq_true rfl⟩) | (exact ⟨rfl, rfl, rfl, Nat.le_of_ble_eq_true rfl, by first | rfl | omega | exact Nat.le_of_ble_eq_true rfl | (dsimp only; omega) | (simp; done) | (simp; omega), by first | rfl | omega | exact Nat.le_of_ble_eq_true rfl | (dsimp only; omega) | (simp; done) | (simp; omega), by omega, Nat.le_of_ble_eq_true rfl⟩) | exact Eq.refl true) ?_) | refine Exists.intro _ (And.intro rfl ?_) | refine And.intro (And.intro rfl (chk_rowI _ _ _ _)) ?_ | refine br_t (by omega) ?_ | refine br_f (by omega) ?_ | refine bs_t (by omega) ?_ | refine bs_f (by omega) ?_ | refine fun (K' : K3) hK' => ?_ | (refine hK' _ _ _ ?_; clear hK' K') | refine draw_auto tok mixed (by kernel_rfl) ?_ | refine HD_mk (fun _ h => CallK.val (R := []) hsz (by kernel_rfl) rfl (by simp [V.wf, A.wf, C.wf]) trivial rfl rfl trivial h) ?_ | refine bs_bt (Eq.refl true) ?_ | refine bs_bf (Eq.refl false) ?_ | refine br_bt (Eq.refl true) ?_ | refine br_bf (Eq.refl false) ?_ | refine CallK.m ?_ | refine Two.l ?_ | refine And.intro (And.intro rfl rfl) ?_)
          intro ρ; rw [hres]; rfl
end Go.Proofs.YtijnimgmpocmaaaDoor

/- Waste, plain: a right filling clears a right order of loading. -/
namespace Go.Proofs.YtijnimgmpocmaaaDoor
open Go.RowKit
set_option linter.unusedVariables false
set_option linter.unusedSimpArgs false
theorem getD_setN (t : List Nat) (i v k : Nat) : (t.set i v).getD k 0 = if i = k ∧ k < t.length then v else t.getD k 0 := getD_set t i v k
theorem dif_zero {s f : Nat} (h : ∀ b, s.testBit b = true → f.testBit b = true) : dif s f = 0 := by
  apply Nat.eq_of_testBit_eq; intro b
  rw [Nat.zero_testBit, dif_bit]
  cases hs : s.testBit b with
  | false => rfl
  | true => rw [h b hs]; rfl
theorem ldA_mono (t : List Nat) (L : Nat) {b : Nat} : ∀ (a a' : Nat), a ≤ a' → (ldA t L a).testBit b = true → (ldA t L a').testBit b = true
  | a, 0, h, hb => by obtain rfl : a = 0 := by omega
                      exact hb
  | a, a' + 1, h, hb => by
    rcases Nat.lt_or_ge a (a' + 1) with h1 | h1
    · have := ldA_mono t L a a' (by omega) hb
      simp only [ldA]
      split
      · rw [Nat.testBit_or, this]; rfl
      · exact this
    · obtain rfl : a = a' + 1 := by omega
      exact hb
theorem ldA_set {t : List Nat} {L a n : Nat} (ha : a < n) (h : ∀ b, (t.getD a 0).testBit b = true → (ldA t L a).testBit b = true) : (ldA t L n).testBit a = true := by
  refine ldA_mono t L (a + 1) n ha ?_
  simp only [ldA]
  rw [if_pos (dif_zero h), Nat.testBit_or, Nat.testBit_two_pow_self]; simp
theorem ldA_high {t : List Nat} {L n b : Nat} (hL : L.testBit b = true → b < n) : ∀ a, a ≤ n → (ldA t L a).testBit b = true → b < n
  | 0, _, h => hL h
  | a + 1, ha, h => by
    simp only [ldA] at h
    split at h
    · rw [Nat.testBit_or, Nat.testBit_two_pow, Bool.or_eq_true, decide_eq_true_iff] at h
      rcases h with h | h
      · exact ldA_high hL a (by omega) h
      · omega
    · exact ldA_high hL a (by omega) h
theorem ldR_high {t : List Nat} {n b : Nat} : ∀ k, (ldR t n k).testBit b = true → b < n
  | 0, h => by simp [ldR] at h
  | k + 1, h => ldA_high (ldR_high k) n (Nat.le_refl _) h
theorem rank_lt {n : Nat} {l : Nat → Int} {a b : Nat} (hb : b < n) (h : l b < l a) : ((List.range n).filter fun c => decide (l c < l b)).length < ((List.range n).filter fun c => decide (l c < l a)).length := by
  have := nodup_len (l := b :: (List.range n).filter fun c => decide (l c < l b)) (m := (List.range n).filter fun c => decide (l c < l a)) (List.nodup_cons.2 ⟨by simp, List.nodup_range.filter _⟩) fun x hx => by
    rcases List.mem_cons.1 hx with rfl | hx
    · simp [hb, h]
    · simp only [List.mem_filter, List.mem_range, decide_eq_true_iff] at hx ⊢
      exact ⟨hx.1, by omega⟩
  rw [List.length_cons] at this; omega
theorem rank_n {n : Nat} {l : Nat → Int} {a : Nat} (ha : a < n) : ((List.range n).filter fun c => decide (l c < l a)).length < n := by
  have := nodup_len (l := a :: (List.range n).filter fun c => decide (l c < l a)) (m := List.range n) (List.nodup_cons.2 ⟨by simp, List.nodup_range.filter _⟩) fun x hx => by
    rcases List.mem_cons.1 hx with rfl | hx
    · simpa using ha
    · exact (List.mem_filter.1 hx).1
  rw [List.length_cons, List.length_range] at this; omega
theorem ldR_all {t : List Nat} {n : Nat} {l : Nat → Int} (h : ∀ a b, a < n → (t.getD a 0).testBit b = true → b < n ∧ l b < l a) : ∀ k a, a < n → ((List.range n).filter fun c => decide (l c < l a)).length < k → (ldR t n k).testBit a = true
  | 0, a, _, hr => by omega
  | k + 1, a, ha, hr => by
    show (ldA t (ldR t n k) n).testBit a = true
    refine ldA_set ha fun b hb => ?_
    obtain ⟨h1, h2⟩ := h a b ha hb
    have := rank_lt (a := a) h1 h2
    exact ldA_mono t _ 0 a (Nat.zero_le _) (ldR_all h k b h1 (by omega))
theorem bits_all {X n : Nat} (hn : n ≤ 8) (h1 : ∀ a, a < n → X.testBit a = true) (h2 : ∀ b, X.testBit b = true → b < n) : (bitsL X).length = n := by
  have a := nodup_len (bitsL_nodup X) (m := List.range n) fun b hb => List.mem_range.2 (h2 b (mem_bitsL.1 hb).2)
  have b := nodup_len (List.nodup_range (n := n)) (m := bitsL X) fun b hb => by
    have := List.mem_range.1 hb
    exact mem_bitsL.2 ⟨by omega, h1 b this⟩
  rw [List.length_range] at a b
  omega
/-- Orders that rise by some numbers are right. -/
theorem isLd_rise {n : Nat} {qs : List (Nat × Nat)} (hk : Knd n qs) {bs : List Bool} {l : Nat → Int} (h : ∀ k, k < qs.length → if bs.getD k false = true then l (qs.getD k (0, 0)).1 < l (qs.getD k (0, 0)).2 else l (qs.getD k (0, 0)).2 < l (qs.getD k (0, 0)).1) : isLd n qs bs = true := by
  have key : ∀ k, k ≤ qs.length → ∀ a b, ((fstK n qs bs k).getD a 0).testBit b = true → b < n ∧ l b < l a := by
    intro k
    induction k with
    | zero =>
      intro _ a b hb
      simp only [fstK] at hb
      rw [List.getD_eq_getElem?_getD, List.getElem?_replicate] at hb
      split at hb <;> simp at hb
    | succ k ih =>
      intro hkk a b hb
      have hp := hk.ok _ (getD_mem (show k < qs.length by omega))
      have hh := h k (by omega)
      have ih := ih (by omega)
      simp only [fstK, fst1] at hb
      split at hb
      · rename_i hbs
        rw [if_pos hbs] at hh
        rw [getD_setN] at hb
        split at hb
        · rename_i he
          rw [Nat.testBit_or, Nat.testBit_two_pow, Bool.or_eq_true, decide_eq_true_iff] at hb
          rcases hb with hb | hb
          · rw [← he.1]; exact ih _ b hb
          · rw [← hb, ← he.1]; exact ⟨by omega, hh⟩
        · exact ih a b hb
      · rename_i hbs
        rw [if_neg hbs] at hh
        rw [getD_setN] at hb
        split at hb
        · rename_i he
          rw [Nat.testBit_or, Nat.testBit_two_pow, Bool.or_eq_true, decide_eq_true_iff] at hb
          rcases hb with hb | hb
          · rw [← he.1]; exact ih _ b hb
          · rw [← hb, ← he.1]; exact ⟨by omega, hh⟩
        · exact ih a b hb
  unfold isLd
  rw [decide_eq_true_iff]
  have := bits_all (X := ldR (fstK n qs bs qs.length) n n) hk.rng.2 (fun a ha => ldR_all (l := l) (fun a b _ hb => key _ (Nat.le_refl _) a b hb) n a ha (rank_n ha)) (fun b hb => ldR_high n hb)
  rw [this]
theorem clears_right {n : Nat} {qs : List (Nat × Nat)} (hk : Knd n qs) {l : List Int} (hr : rgtP qs l = true) : isLd n qs (clrL qs l) = true := by
  refine isLd_rise (l := fun a => l.getD a 0) hk fun k hkl => ?_
  have hg : (clrL qs l).getD k false = decide (l.getD (qs.getD k (0, 0)).1 0 < l.getD (qs.getD k (0, 0)).2 0) := by
    simp [clrL, List.getD_eq_getElem?_getD, hkl]
  unfold rgtP at hr
  rw [List.all_eq_true] at hr
  have h1 := hr _ (getD_mem hkl)
  simp only [Bool.not_eq_true', decide_eq_false_iff_not] at h1
  rw [hg]
  by_cases h : l.getD (qs.getD k (0, 0)).1 0 < l.getD (qs.getD k (0, 0)).2 0
  · rw [decide_eq_true h, if_pos rfl]; exact h
  · rw [decide_eq_false h, if_neg (by simp)]; show l.getD (qs.getD k (0, 0)).2 0 < l.getD (qs.getD k (0, 0)).1 0; omega
end Go.Proofs.YtijnimgmpocmaaaDoor

/- Waste: the law of orders of loading and of fillings. -/
namespace Go.Proofs.YtijnimgmpocmaaaDoor
open Go.RowKit
set_option linter.unusedVariables false
set_option linter.unusedSimpArgs false
section
variable (N : Int) (ps : List Cell) (l : List Int)
theorem clr_long (hps : ps.length < 9223372036854775808) (hll : l.length < 9223372036854775808) (h : (ps.length : Int) > 60 ∨ (l.length : Int) > 60) :
    Spec Tryd.prog 9 [kV N ps, V.c (.sl 1 l.length)] [⟨0, .ro 2, cellC ps⟩, ⟨1, .ro 0, l.map C.i⟩] 2 (Is (V.c (.bool true))) := by
  refine Spec.of tok Tryd.func9 rfl rfl rfl fun n0 cx => vc_ok tok ?_
  by_cases h1 : (ps.length : Int) > 60
  · repeat ((conv => whnf); first | (refine And.intro (by first | omega | exact Nat.le_of_ble_eq_true rfl | (dsimp only [inK]; omega) | (simp only [mulS_eq]; omega) | (simp only [mulS_eq, setL_length]; omega) | (simp only [setL_length]; omega) | (simp only [setL_length, List.length_map]; omega) | (exact ⟨by omega, by omega, by first | exact Nat.le_of_ble_eq_true rfl | (dsimp only; omega) | (simp only [setL_length]; omega) | (simp only [setL_length, List.length_map]; omega)⟩) | (exact ⟨by omega, by first | rfl | omega, by omega, Nat.le_of_ble_eq_true rfl, Nat.le_of_ble_eq_true rfl⟩) | (exact ⟨rfl, rfl, rfl, Nat.le_of_ble_eq_true rfl, by first | rfl | omega | exact Nat.le_of_ble_eq_true rfl | (dsimp only; omega) | (simp; done) | (simp; omega), by first | rfl | omega | exact Nat.le_of_ble_eq_true rfl | (dsimp only; omega) | (simp; done) | (simp; omega), by omega, Nat.le_of_ble_eq_true rfl⟩) | exact Eq.refl true) ?_) | refine Exists.intro _ (And.intro rfl ?_) | refine And.intro (And.intro rfl (chk_rowI _ _ _ _)) ?_ | refine br_t (by omega) ?_ | refine br_f (by omega) ?_ | refine bs_t (by omega) ?_ | refine bs_f (by omega) ?_ | refine fun (K' : K3) hK' => ?_ | (refine hK' _ _ _ ?_; clear hK' K') | refine draw_auto tok mixed (by kernel_rfl) ?_ | refine wide_k hps ?_ | refine bs_t h1 ?_ | refine br_t h1 ?_ | refine awake_k ?_ | refine bs_bt (Eq.refl true) ?_ | refine bs_bf (Eq.refl false) ?_ | refine br_bt (Eq.refl true) ?_ | refine br_bf (Eq.refl false) ?_ | refine CallK.m ?_ | refine Two.l ?_ | refine And.intro (And.intro rfl rfl) ?_)
    intro ρ; rfl
  · have h2 : (l.length : Int) > 60 := by omega
    repeat ((conv => whnf); first | (refine And.intro (by first | omega | exact Nat.le_of_ble_eq_true rfl | (dsimp only [inK]; omega) | (simp only [mulS_eq]; omega) | (simp only [mulS_eq, setL_length]; omega) | (simp only [setL_length]; omega) | (simp only [setL_length, List.length_map]; omega) | (exact ⟨by omega, by omega, by first | exact Nat.le_of_ble_eq_true rfl | (dsimp only; omega) | (simp only [setL_length]; omega) | (simp only [setL_length, List.length_map]; omega)⟩) | (exact ⟨by omega, by first | rfl | omega, by omega, Nat.le_of_ble_eq_true rfl, Nat.le_of_ble_eq_true rfl⟩) | (exact ⟨rfl, rfl, rfl, Nat.le_of_ble_eq_true rfl, by first | rfl | omega | exact Nat.le_of_ble_eq_true rfl | (dsimp only; omega) | (simp; done) | (simp; omega), by first | rfl | omega | exact Nat.le_of_ble_eq_true rfl | (dsimp only; omega) | (simp; done) | (simp; omega), by omega, Nat.le_of_ble_eq_true rfl⟩) | exact Eq.refl true) ?_) | refine Exists.intro _ (And.intro rfl ?_) | refine And.intro (And.intro rfl (chk_rowI _ _ _ _)) ?_ | refine br_t (by omega) ?_ | refine br_f (by omega) ?_ | refine bs_t (by omega) ?_ | refine bs_f (by omega) ?_ | refine fun (K' : K3) hK' => ?_ | (refine hK' _ _ _ ?_; clear hK' K') | refine draw_auto tok mixed (by kernel_rfl) ?_ | refine wide_k hps ?_ | refine bs_f h1 ?_ | refine br_f h1 ?_ | refine long_k hll ?_ | refine bs_t h2 ?_ | refine br_t h2 ?_ | refine awake_k ?_ | refine bs_bt (Eq.refl true) ?_ | refine bs_bf (Eq.refl false) ?_ | refine br_bt (Eq.refl true) ?_ | refine br_bf (Eq.refl false) ?_ | refine CallK.m ?_ | refine Two.l ?_ | refine And.intro (And.intro rfl rfl) ?_)
    intro ρ; rfl
set_option maxRecDepth 10000 in
theorem clr_no (h1 : ¬ (ps.length : Int) > 60) (h2 : ¬ (l.length : Int) > 60) (hv : okK' N ps = false) :
    Spec Tryd.prog 9 [kV N ps, V.c (.sl 1 l.length)] [⟨0, .ro 2, cellC ps⟩, ⟨1, .ro 0, l.map C.i⟩] 2 (Is (V.c (.bool true))) := by
  have k6 := rvalid_spec N ps (by omega)
  rw [hv] at k6
  refine Spec.of tok Tryd.func9 rfl rfl rfl fun n0 cx => vc_ok tok ?_
  repeat ((conv => whnf); first | (refine And.intro (by first | omega | exact Nat.le_of_ble_eq_true rfl | (dsimp only [inK]; omega) | (simp only [mulS_eq]; omega) | (simp only [mulS_eq, setL_length]; omega) | (simp only [setL_length]; omega) | (simp only [setL_length, List.length_map]; omega) | (exact ⟨by omega, by omega, by first | exact Nat.le_of_ble_eq_true rfl | (dsimp only; omega) | (simp only [setL_length]; omega) | (simp only [setL_length, List.length_map]; omega)⟩) | (exact ⟨by omega, by first | rfl | omega, by omega, Nat.le_of_ble_eq_true rfl, Nat.le_of_ble_eq_true rfl⟩) | (exact ⟨rfl, rfl, rfl, Nat.le_of_ble_eq_true rfl, by first | rfl | omega | exact Nat.le_of_ble_eq_true rfl | (dsimp only; omega) | (simp; done) | (simp; omega), by first | rfl | omega | exact Nat.le_of_ble_eq_true rfl | (dsimp only; omega) | (simp; done) | (simp; omega), by omega, Nat.le_of_ble_eq_true rfl⟩) | exact Eq.refl true) ?_) | refine Exists.intro _ (And.intro rfl ?_) | refine And.intro (And.intro rfl (chk_rowI _ _ _ _)) ?_ | refine br_t (by omega) ?_ | refine br_f (by omega) ?_ | refine bs_t (by omega) ?_ | refine bs_f (by omega) ?_ | refine fun (K' : K3) hK' => ?_ | (refine hK' _ _ _ ?_; clear hK' K') | refine draw_auto tok mixed (by kernel_rfl) ?_ | refine wide_k (by omega) ?_ | refine bs_f h1 ?_ | refine br_f h1 ?_ | refine long_k (by omega) ?_ | refine bs_f h2 ?_ | refine br_f h2 ?_ | refine CallK.val (R := []) k6 (by kernel_rfl) rfl (by simp [V.wf, A.wf, C.wf]) ⟨roE_f (flat_c _) (l := 0) rfl (by omega) rfl (.inr rfl), trivial⟩ rfl rfl trivial ?_ | refine awake_k ?_ | refine bs_bt (Eq.refl true) ?_ | refine bs_bf (Eq.refl false) ?_ | refine br_bt (Eq.refl true) ?_ | refine br_bf (Eq.refl false) ?_ | refine CallK.m ?_ | refine Two.l ?_ | refine And.intro (And.intro rfl rfl) ?_)
  intro ρ; rfl
end
section
variable (n : Nat) (qs : List (Nat × Nat)) (l : List Int) (hk : Knd n qs) (h2 : ¬ (l.length : Int) > 60)
include hk h2
set_option maxRecDepth 10000 in
set_option maxHeartbeats 16000000 in
theorem clr_yes : Spec Tryd.prog 9 [kV n (castP qs), V.c (.sl 1 l.length)] [⟨0, .ro 2, cellC (castP qs)⟩, ⟨1, .ro 0, l.map C.i⟩] 2 (Is (V.c (.bool true))) := by
  have hpl : (castP qs).length ≤ 28 := by rw [castP_len]; exact knd_len hk
  have h1 : ¬ ((castP qs).length : Int) > 60 := by omega
  have k6 := rvalid_spec n (castP qs) (by omega)
  rw [knd_ok hk] at k6
  have k1 := Loadings_spec n qs hk
  have k2 := count_spec n (-1) qs hk
  rw [if_pos (by omega), cnt_pv hk] at k2
  have hLD : LD (tabS n qs) (2 ^ n - 1) = ldn (clP qs) n := LD_ldn hk.rng.2 fun a b => tabS_cl hk a b
  have hbd := LD_bd (tabS n qs) _ (2 ^ n - 1) (Nat.lt_succ_self _) (by have := pow_8 hk.rng.2; have := Nat.two_pow_pos n; omega)
  have hfp := fubS_pos (2 ^ n - 1) (by have := pow_8 hk.rng.2; have := Nat.two_pow_pos n; omega)
  have hpos := ldn_pos n (clP qs)
  rw [hLD] at k1 hbd
  have hsg : ((n : Int) % 2 = 1 → ldn (clP qs) n = -pv (clP qs) n (-1)) ∧ (¬ (n : Int) % 2 = 1 → ldn (clP qs) n = pv (clP qs) n (-1)) := by
    unfold ldn sg
    constructor
    · intro h; rw [if_neg (by omega)]; omega
    · intro h; rw [if_pos (by omega)]; omega
  obtain ⟨x, hx⟩ : ∃ x, x = ldn (clP qs) n := ⟨_, rfl⟩
  obtain ⟨y, hy⟩ : ∃ y, y = pv (clP qs) n (-1) := ⟨_, rfl⟩
  rw [← hx, ← hy] at hsg
  rw [← hx] at k1 hbd hpos
  rw [← hy] at k2
  clear hLD
  have tail : ∀ (y' : Int), y' = x → True := fun _ _ => trivial
  have k3 := Right_spec n qs l hk (by omega)
  have hxx : ¬ x ≠ x := fun h => h rfl
  have hx1 : ¬ x < 1 := by omega
  -- what the filling does
  have cases3 : (∃ (Er : Int) (b : Int), Er ≠ 0 ∧ rightO n qs l = V.tup [A.c .ff, A.c (C.i b)] ∧ Spec Tryd.prog 19 [kV n (castP qs), V.c (.sl 1 l.length)] [⟨0, .ro 2, cellC (castP qs)⟩, ⟨1, .ro 0, l.map C.i⟩] 2 (Is (V.tup [A.c .nil, A.c (C.i Er)]))) ∨
      (∃ (Er : Int) (b : Int), Er ≠ 0 ∧ rightO n qs l = V.tup [A.c (.bool false), A.c (C.i b)] ∧ Spec Tryd.prog 19 [kV n (castP qs), V.c (.sl 1 l.length)] [⟨0, .ro 2, cellC (castP qs)⟩, ⟨1, .ro 0, l.map C.i⟩] 2 (Is (V.tup [A.c .nil, A.c (C.i Er)]))) ∨
      (isF n l = true ∧ rgtP qs l = true) := by
    cases hf : isF n l with
    | false => exact .inl ⟨71, 71, by omega, by unfold rightO; rw [hf]; rfl, Clears_err n qs l hk (by omega) 71 (.inl ⟨hf, rfl⟩)⟩
    | true =>
      cases hr : rgtP qs l with
      | false => exact .inr (.inl ⟨5, 0, by omega, by unfold rightO; rw [hf, hr]; rfl, Clears_err n qs l hk (by omega) 5 (.inr ⟨hf, hr, rfl⟩)⟩)
      | true => exact .inr (.inr ⟨rfl, rfl⟩)
  by_cases ho : (n : Int) % 2 = 1
  · obtain rfl : y = -x := by have := hsg.1 ho; omega
    have hnn : ¬ x ≠ -(-x) := by omega
    refine Spec.of tok Tryd.func9 rfl rfl rfl fun n0 cx => vc_ok tok ?_
    rcases cases3 with ⟨Er, b, hE, hro, k4⟩ | ⟨Er, b, hE, hro, k4⟩ | ⟨hf, hr⟩
    · rw [hro] at k3
      repeat ((conv => whnf); first | (refine And.intro (by first | omega | exact Nat.le_of_ble_eq_true rfl | (dsimp only [inK]; omega) | (simp only [mulS_eq]; omega) | (simp only [mulS_eq, setL_length]; omega) | (simp only [setL_length]; omega) | (simp only [setL_length, List.length_map]; omega) | (exact ⟨by omega, by omega, by first | exact Nat.le_of_ble_eq_true rfl | (dsimp only; omega) | (simp only [setL_length]; omega) | (simp only [setL_length, List.length_map]; omega)⟩) | (exact ⟨by omega, by first | rfl | omega, by omega, Nat.le_of_ble_eq_true rfl, Nat.le_of_ble_eq_true rfl⟩) | (exact ⟨rfl, rfl, rfl, Nat.le_of_ble_eq_true rfl, by first | rfl | omega | exact Nat.le_of_ble_eq_true rfl | (dsimp only; omega) | (simp; done) | (simp; omega), by first | rfl | omega | exact Nat.le_of_ble_eq_true rfl | (dsimp only; omega) | (simp; done) | (simp; omega), by omega, Nat.le_of_ble_eq_true rfl⟩) | exact Eq.refl true) ?_) | refine Exists.intro _ (And.intro rfl ?_) | refine And.intro (And.intro rfl (chk_rowI _ _ _ _)) ?_ | refine br_t (by omega) ?_ | refine br_f (by omega) ?_ | refine bs_t (by omega) ?_ | refine bs_f (by omega) ?_ | refine fun (K' : K3) hK' => ?_ | (refine hK' _ _ _ ?_; clear hK' K') | refine draw_auto tok mixed (by kernel_rfl) ?_ | refine wide_k (by omega) ?_ | refine bs_f h1 ?_ | refine br_f h1 ?_ | refine long_k (by omega) ?_ | refine bs_f h2 ?_ | refine br_f h2 ?_ | refine CallK.val (R := []) k6 (by kernel_rfl) rfl (by simp [V.wf, A.wf, C.wf]) ⟨roE_f (flat_c _) (l := 0) rfl (by omega) rfl (.inr rfl), trivial⟩ rfl rfl trivial ?_ | refine CallK.val (R := []) k1 (by kernel_rfl) rfl (by simp [V.wf, A.wf, C.wf]) ⟨roE_f (flat_c _) (l := 0) rfl (by omega) rfl (.inr rfl), trivial⟩ rfl rfl (by simp [V.wf, A.wf, C.wf]) ?_ | refine CallK.val (R := []) k2 (by kernel_rfl) rfl (by simp [V.wf, A.wf, C.wf, V.i]) ⟨roE_f (flat_c _) (l := 0) rfl (by omega) rfl (.inr rfl), trivial⟩ rfl rfl (by simp [V.wf, A.wf, C.wf]) ?_ | refine bs_t ho ?_ | refine br_t ho ?_ | refine bs_f hnn ?_ | refine br_f hnn ?_ | refine bs_f hx1 ?_ | refine br_f hx1 ?_ | refine CallK.val (R := []) k4 (by kernel_rfl) rfl (by simp [V.wf, A.wf, C.wf]) ⟨roE_f (flat_c _) (l := 0) rfl (by omega) rfl (.inr rfl), roE_f (flat_i _) (l := 1) rfl (by omega) rfl (.inl rfl), trivial⟩ rfl rfl (by simp [V.wf, A.wf, C.wf]) ?_ | refine CallK.val (R := []) k3 (by kernel_rfl) rfl (by simp [V.wf, A.wf, C.wf]) ⟨roE_f (flat_c _) (l := 0) rfl (by omega) rfl (.inr rfl), roE_f (flat_i _) (l := 1) rfl (by omega) rfl (.inl rfl), trivial⟩ rfl rfl (by simp [V.wf, A.wf, C.wf]) ?_ | refine bs_t hE ?_ | refine br_t hE ?_ | refine awake_k ?_ | refine bs_bt (Eq.refl true) ?_ | refine bs_bf (Eq.refl false) ?_ | refine br_bt (Eq.refl true) ?_ | refine br_bf (Eq.refl false) ?_ | refine CallK.m ?_ | refine Two.l ?_ | refine And.intro (And.intro rfl rfl) ?_)
      intro ρ; rfl
    · rw [hro] at k3
      repeat ((conv => whnf); first | (refine And.intro (by first | omega | exact Nat.le_of_ble_eq_true rfl | (dsimp only [inK]; omega) | (simp only [mulS_eq]; omega) | (simp only [mulS_eq, setL_length]; omega) | (simp only [setL_length]; omega) | (simp only [setL_length, List.length_map]; omega) | (exact ⟨by omega, by omega, by first | exact Nat.le_of_ble_eq_true rfl | (dsimp only; omega) | (simp only [setL_length]; omega) | (simp only [setL_length, List.length_map]; omega)⟩) | (exact ⟨by omega, by first | rfl | omega, by omega, Nat.le_of_ble_eq_true rfl, Nat.le_of_ble_eq_true rfl⟩) | (exact ⟨rfl, rfl, rfl, Nat.le_of_ble_eq_true rfl, by first | rfl | omega | exact Nat.le_of_ble_eq_true rfl | (dsimp only; omega) | (simp; done) | (simp; omega), by first | rfl | omega | exact Nat.le_of_ble_eq_true rfl | (dsimp only; omega) | (simp; done) | (simp; omega), by omega, Nat.le_of_ble_eq_true rfl⟩) | exact Eq.refl true) ?_) | refine Exists.intro _ (And.intro rfl ?_) | refine And.intro (And.intro rfl (chk_rowI _ _ _ _)) ?_ | refine br_t (by omega) ?_ | refine br_f (by omega) ?_ | refine bs_t (by omega) ?_ | refine bs_f (by omega) ?_ | refine fun (K' : K3) hK' => ?_ | (refine hK' _ _ _ ?_; clear hK' K') | refine draw_auto tok mixed (by kernel_rfl) ?_ | refine wide_k (by omega) ?_ | refine bs_f h1 ?_ | refine br_f h1 ?_ | refine long_k (by omega) ?_ | refine bs_f h2 ?_ | refine br_f h2 ?_ | refine CallK.val (R := []) k6 (by kernel_rfl) rfl (by simp [V.wf, A.wf, C.wf]) ⟨roE_f (flat_c _) (l := 0) rfl (by omega) rfl (.inr rfl), trivial⟩ rfl rfl trivial ?_ | refine CallK.val (R := []) k1 (by kernel_rfl) rfl (by simp [V.wf, A.wf, C.wf]) ⟨roE_f (flat_c _) (l := 0) rfl (by omega) rfl (.inr rfl), trivial⟩ rfl rfl (by simp [V.wf, A.wf, C.wf]) ?_ | refine CallK.val (R := []) k2 (by kernel_rfl) rfl (by simp [V.wf, A.wf, C.wf, V.i]) ⟨roE_f (flat_c _) (l := 0) rfl (by omega) rfl (.inr rfl), trivial⟩ rfl rfl (by simp [V.wf, A.wf, C.wf]) ?_ | refine bs_t ho ?_ | refine br_t ho ?_ | refine bs_f hnn ?_ | refine br_f hnn ?_ | refine bs_f hx1 ?_ | refine br_f hx1 ?_ | refine CallK.val (R := []) k4 (by kernel_rfl) rfl (by simp [V.wf, A.wf, C.wf]) ⟨roE_f (flat_c _) (l := 0) rfl (by omega) rfl (.inr rfl), roE_f (flat_i _) (l := 1) rfl (by omega) rfl (.inl rfl), trivial⟩ rfl rfl (by simp [V.wf, A.wf, C.wf]) ?_ | refine CallK.val (R := []) k3 (by kernel_rfl) rfl (by simp [V.wf, A.wf, C.wf]) ⟨roE_f (flat_c _) (l := 0) rfl (by omega) rfl (.inr rfl), roE_f (flat_i _) (l := 1) rfl (by omega) rfl (.inl rfl), trivial⟩ rfl rfl (by simp [V.wf, A.wf, C.wf]) ?_ | refine bs_t hE ?_ | refine br_t hE ?_ | refine awake_k ?_ | refine bs_bt (Eq.refl true) ?_ | refine bs_bf (Eq.refl false) ?_ | refine br_bt (Eq.refl true) ?_ | refine br_bf (Eq.refl false) ?_ | refine CallK.m ?_ | refine Two.l ?_ | refine And.intro (And.intro rfl rfl) ?_)
      intro ρ; rfl
    · have hro : rightO n qs l = V.tup [A.c (.bool true), A.c (C.i 0)] := by unfold rightO; rw [hf, hr]; rfl
      rw [hro] at k3
      have k4 := Clears_ok n qs l hk (by omega) hf hr
      have k5 := isLoading_spec n qs hk (clrL qs l) (clrL_len qs l)
      rw [clears_right hk hr, clrL_len] at k5
      repeat ((conv => whnf); first | (refine And.intro (by first | omega | exact Nat.le_of_ble_eq_true rfl | (dsimp only [inK]; omega) | (simp only [mulS_eq]; omega) | (simp only [mulS_eq, setL_length]; omega) | (simp only [setL_length]; omega) | (simp only [setL_length, List.length_map]; omega) | (exact ⟨by omega, by omega, by first | exact Nat.le_of_ble_eq_true rfl | (dsimp only; omega) | (simp only [setL_length]; omega) | (simp only [setL_length, List.length_map]; omega)⟩) | (exact ⟨by omega, by first | rfl | omega, by omega, Nat.le_of_ble_eq_true rfl, Nat.le_of_ble_eq_true rfl⟩) | (exact ⟨rfl, rfl, rfl, Nat.le_of_ble_eq_true rfl, by first | rfl | omega | exact Nat.le_of_ble_eq_true rfl | (dsimp only; omega) | (simp; done) | (simp; omega), by first | rfl | omega | exact Nat.le_of_ble_eq_true rfl | (dsimp only; omega) | (simp; done) | (simp; omega), by omega, Nat.le_of_ble_eq_true rfl⟩) | exact Eq.refl true) ?_) | refine Exists.intro _ (And.intro rfl ?_) | refine And.intro (And.intro rfl (chk_rowI _ _ _ _)) ?_ | refine br_t (by omega) ?_ | refine br_f (by omega) ?_ | refine bs_t (by omega) ?_ | refine bs_f (by omega) ?_ | refine fun (K' : K3) hK' => ?_ | (refine hK' _ _ _ ?_; clear hK' K') | refine draw_auto tok mixed (by kernel_rfl) ?_ | refine wide_k (by omega) ?_ | refine bs_f h1 ?_ | refine br_f h1 ?_ | refine long_k (by omega) ?_ | refine bs_f h2 ?_ | refine br_f h2 ?_ | refine CallK.val (R := []) k6 (by kernel_rfl) rfl (by simp [V.wf, A.wf, C.wf]) ⟨roE_f (flat_c _) (l := 0) rfl (by omega) rfl (.inr rfl), trivial⟩ rfl rfl trivial ?_ | refine CallK.val (R := []) k1 (by kernel_rfl) rfl (by simp [V.wf, A.wf, C.wf]) ⟨roE_f (flat_c _) (l := 0) rfl (by omega) rfl (.inr rfl), trivial⟩ rfl rfl (by simp [V.wf, A.wf, C.wf]) ?_ | refine CallK.val (R := []) k2 (by kernel_rfl) rfl (by simp [V.wf, A.wf, C.wf, V.i]) ⟨roE_f (flat_c _) (l := 0) rfl (by omega) rfl (.inr rfl), trivial⟩ rfl rfl (by simp [V.wf, A.wf, C.wf]) ?_ | refine bs_t ho ?_ | refine br_t ho ?_ | refine bs_f hnn ?_ | refine br_f hnn ?_ | refine bs_f hx1 ?_ | refine br_f hx1 ?_ | refine CallK.optE (R := []) (sim_b _) k4 (by kernel_rfl) rfl (by simp [V.wf, A.wf, C.wf]) ⟨roE_f (flat_c _) (l := 0) rfl (by omega) rfl (.inr rfl), roE_f (flat_i _) (l := 1) rfl (by omega) rfl (.inl rfl), trivial⟩ rfl ?_ | refine CallK.val (R := []) k3 (by kernel_rfl) rfl (by simp [V.wf, A.wf, C.wf]) ⟨roE_f (flat_c _) (l := 0) rfl (by omega) rfl (.inr rfl), roE_f (flat_i _) (l := 1) rfl (by omega) rfl (.inl rfl), trivial⟩ rfl rfl (by simp [V.wf, A.wf, C.wf]) ?_ | refine CallK.val (R := [(0, some 0), (1, some 3)]) k5 (by kernel_rfl) rfl (by simp [V.wf, A.wf, C.wf]) ⟨roE_f (flat_c _) (l := 0) rfl (by omega) rfl (.inr rfl), roE_s (sim_b _) (l := 3) rfl (by omega) rfl (.inl rfl), trivial⟩ rfl rfl (by simp [V.wf, A.wf, C.wf]) ?_ | refine awake_k ?_ | refine bs_bt (Eq.refl true) ?_ | refine bs_bf (Eq.refl false) ?_ | refine br_bt (Eq.refl true) ?_ | refine br_bf (Eq.refl false) ?_ | refine CallK.m ?_ | refine Two.l ?_ | refine And.intro (And.intro rfl rfl) ?_)
      intro ρ; rfl
  · obtain rfl : y = x := by have := hsg.2 ho; omega
    refine Spec.of tok Tryd.func9 rfl rfl rfl fun n0 cx => vc_ok tok ?_
    rcases cases3 with ⟨Er, b, hE, hro, k4⟩ | ⟨Er, b, hE, hro, k4⟩ | ⟨hf, hr⟩
    · rw [hro] at k3
      repeat ((conv => whnf); first | (refine And.intro (by first | omega | exact Nat.le_of_ble_eq_true rfl | (dsimp only [inK]; omega) | (simp only [mulS_eq]; omega) | (simp only [mulS_eq, setL_length]; omega) | (simp only [setL_length]; omega) | (simp only [setL_length, List.length_map]; omega) | (exact ⟨by omega, by omega, by first | exact Nat.le_of_ble_eq_true rfl | (dsimp only; omega) | (simp only [setL_length]; omega) | (simp only [setL_length, List.length_map]; omega)⟩) | (exact ⟨by omega, by first | rfl | omega, by omega, Nat.le_of_ble_eq_true rfl, Nat.le_of_ble_eq_true rfl⟩) | (exact ⟨rfl, rfl, rfl, Nat.le_of_ble_eq_true rfl, by first | rfl | omega | exact Nat.le_of_ble_eq_true rfl | (dsimp only; omega) | (simp; done) | (simp; omega), by first | rfl | omega | exact Nat.le_of_ble_eq_true rfl | (dsimp only; omega) | (simp; done) | (simp; omega), by omega, Nat.le_of_ble_eq_true rfl⟩) | exact Eq.refl true) ?_) | refine Exists.intro _ (And.intro rfl ?_) | refine And.intro (And.intro rfl (chk_rowI _ _ _ _)) ?_ | refine br_t (by omega) ?_ | refine br_f (by omega) ?_ | refine bs_t (by omega) ?_ | refine bs_f (by omega) ?_ | refine fun (K' : K3) hK' => ?_ | (refine hK' _ _ _ ?_; clear hK' K') | refine draw_auto tok mixed (by kernel_rfl) ?_ | refine wide_k (by omega) ?_ | refine bs_f h1 ?_ | refine br_f h1 ?_ | refine long_k (by omega) ?_ | refine bs_f h2 ?_ | refine br_f h2 ?_ | refine CallK.val (R := []) k6 (by kernel_rfl) rfl (by simp [V.wf, A.wf, C.wf]) ⟨roE_f (flat_c _) (l := 0) rfl (by omega) rfl (.inr rfl), trivial⟩ rfl rfl trivial ?_ | refine CallK.val (R := []) k1 (by kernel_rfl) rfl (by simp [V.wf, A.wf, C.wf]) ⟨roE_f (flat_c _) (l := 0) rfl (by omega) rfl (.inr rfl), trivial⟩ rfl rfl (by simp [V.wf, A.wf, C.wf]) ?_ | refine CallK.val (R := []) k2 (by kernel_rfl) rfl (by simp [V.wf, A.wf, C.wf, V.i]) ⟨roE_f (flat_c _) (l := 0) rfl (by omega) rfl (.inr rfl), trivial⟩ rfl rfl (by simp [V.wf, A.wf, C.wf]) ?_ | refine bs_f ho ?_ | refine br_f ho ?_ | refine bs_f hxx ?_ | refine br_f hxx ?_ | refine bs_f hx1 ?_ | refine br_f hx1 ?_ | refine CallK.val (R := []) k4 (by kernel_rfl) rfl (by simp [V.wf, A.wf, C.wf]) ⟨roE_f (flat_c _) (l := 0) rfl (by omega) rfl (.inr rfl), roE_f (flat_i _) (l := 1) rfl (by omega) rfl (.inl rfl), trivial⟩ rfl rfl (by simp [V.wf, A.wf, C.wf]) ?_ | refine CallK.val (R := []) k3 (by kernel_rfl) rfl (by simp [V.wf, A.wf, C.wf]) ⟨roE_f (flat_c _) (l := 0) rfl (by omega) rfl (.inr rfl), roE_f (flat_i _) (l := 1) rfl (by omega) rfl (.inl rfl), trivial⟩ rfl rfl (by simp [V.wf, A.wf, C.wf]) ?_ | refine bs_t hE ?_ | refine br_t hE ?_ | refine awake_k ?_ | refine bs_bt (Eq.refl true) ?_ | refine bs_bf (Eq.refl false) ?_ | refine br_bt (Eq.refl true) ?_ | refine br_bf (Eq.refl false) ?_ | refine CallK.m ?_ | refine Two.l ?_ | refine And.intro (And.intro rfl rfl) ?_)
      intro ρ; rfl
    · rw [hro] at k3
      repeat ((conv => whnf); first | (refine And.intro (by first | omega | exact Nat.le_of_ble_eq_true rfl | (dsimp only [inK]; omega) | (simp only [mulS_eq]; omega) | (simp only [mulS_eq, setL_length]; omega) | (simp only [setL_length]; omega) | (simp only [setL_length, List.length_map]; omega) | (exact ⟨by omega, by omega, by first | exact Nat.le_of_ble_eq_true rfl | (dsimp only; omega) | (simp only [setL_length]; omega) | (simp only [setL_length, List.length_map]; omega)⟩) | (exact ⟨by omega, by first | rfl | omega, by omega, Nat.le_of_ble_eq_true rfl, Nat.le_of_ble_eq_true rfl⟩) | (exact ⟨rfl, rfl, rfl, Nat.le_of_ble_eq_true rfl, by first | rfl | omega | exact Nat.le_of_ble_eq_true rfl | (dsimp only; omega) | (simp; done) | (simp; omega), by first | rfl | omega | exact Nat.le_of_ble_eq_true rfl | (dsimp only; omega) | (simp; done) | (simp; omega), by omega, Nat.le_of_ble_eq_true rfl⟩) | exact Eq.refl true) ?_) | refine Exists.intro _ (And.intro rfl ?_) | refine And.intro (And.intro rfl (chk_rowI _ _ _ _)) ?_ | refine br_t (by omega) ?_ | refine br_f (by omega) ?_ | refine bs_t (by omega) ?_ | refine bs_f (by omega) ?_ | refine fun (K' : K3) hK' => ?_ | (refine hK' _ _ _ ?_; clear hK' K') | refine draw_auto tok mixed (by kernel_rfl) ?_ | refine wide_k (by omega) ?_ | refine bs_f h1 ?_ | refine br_f h1 ?_ | refine long_k (by omega) ?_ | refine bs_f h2 ?_ | refine br_f h2 ?_ | refine CallK.val (R := []) k6 (by kernel_rfl) rfl (by simp [V.wf, A.wf, C.wf]) ⟨roE_f (flat_c _) (l := 0) rfl (by omega) rfl (.inr rfl), trivial⟩ rfl rfl trivial ?_ | refine CallK.val (R := []) k1 (by kernel_rfl) rfl (by simp [V.wf, A.wf, C.wf]) ⟨roE_f (flat_c _) (l := 0) rfl (by omega) rfl (.inr rfl), trivial⟩ rfl rfl (by simp [V.wf, A.wf, C.wf]) ?_ | refine CallK.val (R := []) k2 (by kernel_rfl) rfl (by simp [V.wf, A.wf, C.wf, V.i]) ⟨roE_f (flat_c _) (l := 0) rfl (by omega) rfl (.inr rfl), trivial⟩ rfl rfl (by simp [V.wf, A.wf, C.wf]) ?_ | refine bs_f ho ?_ | refine br_f ho ?_ | refine bs_f hxx ?_ | refine br_f hxx ?_ | refine bs_f hx1 ?_ | refine br_f hx1 ?_ | refine CallK.val (R := []) k4 (by kernel_rfl) rfl (by simp [V.wf, A.wf, C.wf]) ⟨roE_f (flat_c _) (l := 0) rfl (by omega) rfl (.inr rfl), roE_f (flat_i _) (l := 1) rfl (by omega) rfl (.inl rfl), trivial⟩ rfl rfl (by simp [V.wf, A.wf, C.wf]) ?_ | refine CallK.val (R := []) k3 (by kernel_rfl) rfl (by simp [V.wf, A.wf, C.wf]) ⟨roE_f (flat_c _) (l := 0) rfl (by omega) rfl (.inr rfl), roE_f (flat_i _) (l := 1) rfl (by omega) rfl (.inl rfl), trivial⟩ rfl rfl (by simp [V.wf, A.wf, C.wf]) ?_ | refine bs_t hE ?_ | refine br_t hE ?_ | refine awake_k ?_ | refine bs_bt (Eq.refl true) ?_ | refine bs_bf (Eq.refl false) ?_ | refine br_bt (Eq.refl true) ?_ | refine br_bf (Eq.refl false) ?_ | refine CallK.m ?_ | refine Two.l ?_ | refine And.intro (And.intro rfl rfl) ?_)
      intro ρ; rfl
    · have hro : rightO n qs l = V.tup [A.c (.bool true), A.c (C.i 0)] := by unfold rightO; rw [hf, hr]; rfl
      rw [hro] at k3
      have k4 := Clears_ok n qs l hk (by omega) hf hr
      have k5 := isLoading_spec n qs hk (clrL qs l) (clrL_len qs l)
      rw [clears_right hk hr, clrL_len] at k5
      repeat ((conv => whnf); first | (refine And.intro (by first | omega | exact Nat.le_of_ble_eq_true rfl | (dsimp only [inK]; omega) | (simp only [mulS_eq]; omega) | (simp only [mulS_eq, setL_length]; omega) | (simp only [setL_length]; omega) | (simp only [setL_length, List.length_map]; omega) | (exact ⟨by omega, by omega, by first | exact Nat.le_of_ble_eq_true rfl | (dsimp only; omega) | (simp only [setL_length]; omega) | (simp only [setL_length, List.length_map]; omega)⟩) | (exact ⟨by omega, by first | rfl | omega, by omega, Nat.le_of_ble_eq_true rfl, Nat.le_of_ble_eq_true rfl⟩) | (exact ⟨rfl, rfl, rfl, Nat.le_of_ble_eq_true rfl, by first | rfl | omega | exact Nat.le_of_ble_eq_true rfl | (dsimp only; omega) | (simp; done) | (simp; omega), by first | rfl | omega | exact Nat.le_of_ble_eq_true rfl | (dsimp only; omega) | (simp; done) | (simp; omega), by omega, Nat.le_of_ble_eq_true rfl⟩) | exact Eq.refl true) ?_) | refine Exists.intro _ (And.intro rfl ?_) | refine And.intro (And.intro rfl (chk_rowI _ _ _ _)) ?_ | refine br_t (by omega) ?_ | refine br_f (by omega) ?_ | refine bs_t (by omega) ?_ | refine bs_f (by omega) ?_ | refine fun (K' : K3) hK' => ?_ | (refine hK' _ _ _ ?_; clear hK' K') | refine draw_auto tok mixed (by kernel_rfl) ?_ | refine wide_k (by omega) ?_ | refine bs_f h1 ?_ | refine br_f h1 ?_ | refine long_k (by omega) ?_ | refine bs_f h2 ?_ | refine br_f h2 ?_ | refine CallK.val (R := []) k6 (by kernel_rfl) rfl (by simp [V.wf, A.wf, C.wf]) ⟨roE_f (flat_c _) (l := 0) rfl (by omega) rfl (.inr rfl), trivial⟩ rfl rfl trivial ?_ | refine CallK.val (R := []) k1 (by kernel_rfl) rfl (by simp [V.wf, A.wf, C.wf]) ⟨roE_f (flat_c _) (l := 0) rfl (by omega) rfl (.inr rfl), trivial⟩ rfl rfl (by simp [V.wf, A.wf, C.wf]) ?_ | refine CallK.val (R := []) k2 (by kernel_rfl) rfl (by simp [V.wf, A.wf, C.wf, V.i]) ⟨roE_f (flat_c _) (l := 0) rfl (by omega) rfl (.inr rfl), trivial⟩ rfl rfl (by simp [V.wf, A.wf, C.wf]) ?_ | refine bs_f ho ?_ | refine br_f ho ?_ | refine bs_f hxx ?_ | refine br_f hxx ?_ | refine bs_f hx1 ?_ | refine br_f hx1 ?_ | refine CallK.optE (R := []) (sim_b _) k4 (by kernel_rfl) rfl (by simp [V.wf, A.wf, C.wf]) ⟨roE_f (flat_c _) (l := 0) rfl (by omega) rfl (.inr rfl), roE_f (flat_i _) (l := 1) rfl (by omega) rfl (.inl rfl), trivial⟩ rfl ?_ | refine CallK.val (R := []) k3 (by kernel_rfl) rfl (by simp [V.wf, A.wf, C.wf]) ⟨roE_f (flat_c _) (l := 0) rfl (by omega) rfl (.inr rfl), roE_f (flat_i _) (l := 1) rfl (by omega) rfl (.inl rfl), trivial⟩ rfl rfl (by simp [V.wf, A.wf, C.wf]) ?_ | refine CallK.val (R := [(0, some 0), (1, some 3)]) k5 (by kernel_rfl) rfl (by simp [V.wf, A.wf, C.wf]) ⟨roE_f (flat_c _) (l := 0) rfl (by omega) rfl (.inr rfl), roE_s (sim_b _) (l := 3) rfl (by omega) rfl (.inl rfl), trivial⟩ rfl rfl (by simp [V.wf, A.wf, C.wf]) ?_ | refine awake_k ?_ | refine bs_bt (Eq.refl true) ?_ | refine bs_bf (Eq.refl false) ?_ | refine br_bt (Eq.refl true) ?_ | refine br_bf (Eq.refl false) ?_ | refine CallK.m ?_ | refine Two.l ?_ | refine And.intro (And.intro rfl rfl) ?_)
      intro ρ; rfl
end
theorem clr_any (N : Int) (ps : List Cell) (l : List Int) (ao bo : Option Addr) (c d : Nat) (w : World) (h : CellsAt w ao c ps) (hb : IntsAt w bo l) (hF : Fct w.heap.size w) :
    Calls Tryd.prog 9 #[.agg #[.int .i64 N, .slice ao ps.length c], .slice bo l.length d] w fun e w' => e = .returned (.bool true) ∧ Below w.heap.size w w' := by
  by_cases hl : (ps.length : Int) > 60 ∨ (l.length : Int) > 60
  · exact isTrue_any (vs := [kV N ps, V.c (.sl 1 l.length)]) (clr_long N ps l h.2.2 hb.2 hl) (hp_ki (d := d) h hb hF) (by simp [V.wf, A.wf, C.wf]) rfl
  · have h1 : ¬ (ps.length : Int) > 60 := fun h => hl (.inl h)
    have h2 : ¬ (l.length : Int) > 60 := fun h => hl (.inr h)
    cases hv : okK' N ps with
    | false => exact isTrue_any (vs := [kV N ps, V.c (.sl 1 l.length)]) (clr_no N ps l h1 h2 hv) (hp_ki (d := d) h hb hF) (by simp [V.wf, A.wf, C.wf]) rfl
    | true =>
      obtain ⟨n, qs, rfl, rfl, hk⟩ := knd_of hv
      exact isTrue_any (vs := [kV n (castP qs), V.c (.sl 1 l.length)]) (clr_yes n qs l hk h2) (hp_ki (d := d) h hb hF) (by simp [V.wf, A.wf, C.wf]) rfl
end Go.Proofs.YtijnimgmpocmaaaDoor

/- Waste: what the listed variables give; a start that meets the condition. -/
namespace Go.Proofs.YtijnimgmpocmaaaDoor
open Go.RowKit
set_option linter.unusedVariables false
set_option linter.unusedSimpArgs false
open Go.ChangeShapes Go.WideShapes Go.ChangeAt Go.RowKit Go.Deep Go.Joins
abbrev laidV : List (String × DataW Unit) := [("math/bits.deBruijn32tab", Rows.laid_math_bits_deBruijn32tab), ("math/bits.deBruijn64tab", Rows.laid_math_bits_deBruijn64tab)]
theorem gTab : Tryd.prog.globalNamed "math/bits.deBruijn64tab" = some 1 := by kernel_rfl
theorem tTab : (Tryd.prog.globals[1]?).map (·.type) = some 120 := by kernel_rfl
theorem tabDat : (Rows.laid_math_bits_deBruijn64tab (H := Unit)) = .agg (Lib.deBruijn64tab.map fun n : Nat => .lit (.int .u8 n)) := rfl
set_option maxRecDepth 10000 in
theorem fct_of_laid {W : World} (h : laidMetH Tryd.prog laidV W) : Fct W.heap.size W := by
  have h' : laidMet Tryd.prog laidV W := h
  obtain ⟨ps, ⟨_, _, _, _, _, _, _, _, _, _, ⟨g, t, cs, fuel, p, q, hg, ht, hv, hd, _⟩, _⟩, _⟩ := h'
  obtain rfl := Option.some.inj (gTab.symm.trans hg)
  obtain rfl := Option.some.inj (tTab.symm.trans ht)
  rw [tabDat] at hd
  obtain ⟨xs, m, _, hx, hl, hxl, hgo⟩ := DataW.trod_array Tryd.underlying120 hd
  have hc1 : Tryd.prog.cellsOf 5 = 1 := by kernel_rfl
  have hc64 : Tryd.prog.cellsOf 120 = 64 := by kernel_rfl
  rw [hc64] at hl
  have hcell : ∀ j, j < Lib.deBruijn64tab.length → W.cell? ⟨1, j, none⟩ = some (.int .u8 (Lib.deBruijn64tab.getD j 0)) := by
    intro j hj
    have hj64 : j < 64 := hj
    have h3 := hgo j hj64
    rw [hc1, Nat.mul_one] at h3
    obtain ⟨y, hy⟩ : ∃ y, xs[j]? = some y := ⟨xs[j]'(by omega), List.getElem?_eq_getElem _⟩
    rw [hy] at h3
    obtain ⟨u, hu⟩ : ∃ u, cs.toList[j]? = some u := ⟨cs.toList[j]'(by omega), List.getElem?_eq_getElem _⟩
    have e1 : (cs.toList.drop j).take 1 = [u] := by
      rw [List.take_one, List.head?_drop, hu]; rfl
    rw [e1] at h3
    obtain ⟨z, e0, e2, _⟩ := DataW.trod_int Tryd.underlying5 h3
    have e0 : u = .int .u8 z := by simpa using e0
    have hxm : xs.map (·.1) = Lib.deBruijn64tab.map fun n : Nat => (DataW.lit (.int .u8 n) : DataW Unit) := by
      have := congrArg Prod.fst hx
      simp only [DataW.agg.injEq] at this
      exact this.symm
    have hym : (xs.map (·.1))[j]? = some y.1 := by rw [List.getElem?_map, hy]; rfl
    rw [hxm, List.getElem?_map] at hym
    have hz : (DataW.lit (.int .u8 (Lib.deBruijn64tab.getD j 0 : Nat)) : DataW Unit) = y.1 := by
      rw [List.getElem?_eq_getElem hj] at hym
      simp only [Option.map_some, Option.some.injEq] at hym
      rw [← hym, List.getD_eq_getElem?_getD, List.getElem?_eq_getElem hj]; rfl
    have hzz : (Lib.deBruijn64tab.getD j 0 : Int) = z := by
      rw [e2] at hz
      simpa using hz
    have hw := World.var?_cell gTab hv j
    rw [hw]
    have : cs[j]? = some u := by rw [← Array.getElem?_toList]; exact hu
    rw [this, e0, hzz]
  have h0 := hcell 0 (by decide)
  have hlt := World.block_lt_of_cell? _ _ h0
  refine ⟨hlt, ?_⟩
  have h1 := h0
  unfold World.cell? at h1
  cases hb : W.heap[1]? with
  | none => simp [hb] at h1
  | some o =>
    cases o with
    | cells c t fr => exact ⟨c, t, fr, rfl, hcell⟩
    | _ => simp [hb] at h1
theorem door_met (os : Os) (args : Array Value) : laidMetH Tryd.prog laidV ((World.doorLaid Tryd.prog 19 os).forCall (fun _ _ => 0) ⟨#[], args, []⟩).memory :=
  laidMetH_of_parts3 (fuel := 8) (laidMet_of_run' 8 (by kernel_rfl) (by kernel_rfl)) (by kernel_rfl) (by kernel_rfl)
end Go.Proofs.YtijnimgmpocmaaaDoor

