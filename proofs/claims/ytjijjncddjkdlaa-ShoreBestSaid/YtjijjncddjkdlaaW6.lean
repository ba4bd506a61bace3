/- Texts of the proof, part 6: F4, L3, L7. -/
import Derived.Test.YtjijjncddjkdlaaW5
import Derived.WalkKit
import Derived.Below
import Derived.Laws.OwnMore
import Derived.Maps.AppendAt
import Derived.Laws.IdiomCopy
import Derived.Laws.CopyRow
import Derived.IntWalk
import Derived.StillTail
import Derived.Scope
import Derived.ChangeKeysEq
import Derived.Laws.Small
import Derived.OrdersIn
import Derived.TacticsIn
import Derived.OwnWalkIn
import Derived.RangeFuncNested
import Derived.RangeFuncLeaves
import Derived.RangeFuncRecord
import Derived.Maps.Keyed
import Derived.Maps.RangeRun
import Derived.DeepKeys4
import Derived.Test.YtjijjncddjkdlaaRows
import Derived.KernelRfl
import Derived.ProofKit
import Derived.OpenShut
import Derived.Lib.SmallJoins
import Derived.Deep.Slices
import Derived.PlainAid
import Derived.StillTailTactics
import Derived.WalkSpells
import Derived.OwnWalk
import Derived.Lib.AppendZerosOnto
import Derived.Lib.AppendZeros
import Derived.Deep.AppendSrc
import Derived.Lib.SliceRun
import Derived.Lib.Walk
/- Shore: the reference's Bound, walked. -/
namespace Go.Proofs.Ytjijjncddjkdlaa
open Go.RowKit
set_option linter.unusedVariables false
set_option linter.unusedSimpArgs false
theorem rtailF_bd {j : Coast} (hc : CoastOk j) {b i k : Nat} (hb : b < j.length) (hi : i + 1 + k < (j.getD b []).length) : 0 ≤ rtailF j b i k ∧ rtailF j b i k ≤ 10000 := by
  have h1 := jobA_bd hc hb (show i < _ by omega)
  have h2 := jobA_bd hc hb hi
  exact mul_bd (A := 100) (B := 100) (by omega) h1.2.1 h2.2.2.1 h2.2.2.2
theorem rrowF_bd {j : Coast} (hc : CoastOk j) (h12 : ∀ b, b < j.length → (j.getD b []).length ≤ 12) (h6 : j.length ≤ 6) {b i : Nat} (hb : b < j.length) (hi : i < (j.getD b []).length) : 0 ≤ rrowF j b i ∧ rrowF j b i ≤ 1000000 := by
  have h0 := jobA_bd hc hb hi
  have h0' := mul_bd (a := (jobA j b i).2) (b := (jobA j b i).1) (A := 100) (B := 100) h0.2.2.1 h0.2.2.2 (by omega) h0.2.1
  have h1 := sumZ_bd (n := (j.getD b []).length - (i + 1)) (F := rtailF j b i) (M := 10000) (fun k hk => rtailF_bd hc hb (by omega))
  have h2 := small_mul (n := (j.getD b []).length - (i + 1)) (N := 12) (M := 10000) (by have := h12 b hb; omega) (by omega)
  have h3 := sumZ_bd (n := j.length - (b + 1)) (F := rpairF j b i) (M := 120000) (fun c hcb => pairF_bd hc h12 hb hi (by omega))
  have h4 := small_mul (n := j.length - (b + 1)) (N := 6) (M := 120000) (by omega) (by omega)
  unfold rrowF; omega
theorem rbeachF_bd {j : Coast} (hc : CoastOk j) (h12 : ∀ b, b < j.length → (j.getD b []).length ≤ 12) (h6 : j.length ≤ 6) {b : Nat} (hb : b < j.length) : 0 ≤ rbeachF j b ∧ rbeachF j b ≤ 12000000 := by
  have h1 := sumZ_bd (n := (j.getD b []).length) (F := rrowF j b) (M := 1000000) (fun i hi => rrowF_bd hc h12 h6 hb hi)
  have h2 := small_mul (n := (j.getD b []).length) (N := 12) (M := 1000000) (by have := h12 b hb; omega) (by omega)
  unfold rbeachF; omega
set_option maxHeartbeats 2000000 in
set_option maxRecDepth 100000 in
theorem rbound_spec (j : Coast) (hj : Sized j) : Spec Try.prog 37 [V.c (.sl 0 j.length)] (⟨0, .ro 1, slsC 1 j⟩ :: entC 1 j) 32 (Is (if validL j then .tup [.c (.i (boundO j)), .c (.i 0)] else .tup [.c (.i 0), .c (.i 60)])) := by
  have hj20 := hj.len
  have hlen := slsC_len (b := 1) (j := j)
  have h4 := rvalid_spec j hj
  cases hv : validL j with
  | false =>
    rw [hv] at h4
    refine Spec.of tok Try.func37 rfl rfl rfl fun n0 cx => vc_ok tok ?_
    repeat ((conv => whnf); first | refine fun (K' : K3) hK' => ?_ | (refine hK' _ _ _ ?_; clear hK' K') | refine CallK.val (R := []) h4 (by kernel_rfl) rfl (by simp [V.wf, A.wf, C.wf]) (HasC.ro ⟨rfl, fun k hk => by (repeat (first | rw [find_skip (by omega)] | rw [find_hi (by omega) (by rfl)])); exact entC_find hk⟩ hj) (injC hj) rfl trivial ?_ | refine br_bt (Eq.refl true) ?_ | refine CallK.m ?_)
    intro ρ; rfl
  | true =>
  rw [hv] at h4
  have hc := validL_coast hj hv
  have hm := validL_many hv
  have h6 := (validL_len hv).2
  have h12 : ∀ b, b < j.length → (j.getD b []).length ≤ 12 := fun b hb => by have := beach_many hb; omega
  rw [← rbound_eq]
  refine Spec.of tok Try.func37 rfl rfl rfl fun n0 cx => vc_ok tok ?_
  repeat ((conv => whnf); first | refine fun (K' : K3) hK' => ?_ | (refine hK' _ _ _ ?_; clear hK' K') | refine CallK.val (R := []) h4 (by kernel_rfl) rfl (by simp [V.wf, A.wf, C.wf]) (HasC.ro ⟨rfl, fun k hk => by (repeat (first | rw [find_skip (by omega)] | rw [find_hi (by omega) (by rfl)])); exact entC_find hk⟩ hj) (injC hj) rfl trivial ?_ | refine br_bf (Eq.refl false) ?_ | refine CallK.m ?_)
  refine Tri.loop (γ := Nat) (fun b => b ≤ j.length) (fun b => [(0, V.c (.sl 0 j.length)), (4, V.i (sumZ b (rbeachF j))), (5, V.i (b : Nat))])
    (fun b => ⟨0, .ro 1, slsC 1 j⟩ :: entC 1 j) 32 (fun b => j.length - b) 0 (R0 := []) ?_ ?_ ?_
  · omega
  · skip
    refine ⟨?_, ?_, injB_ent (p := [_]) (by omega) rfl rfl, rfl, by exact Nat.le_of_ble_eq_true rfl⟩
    · repeat (first | exact trivial | (refine And.intro (covS_syn (by rfl) rfl (by first | exact trivial | exact Nat.le_of_ble_eq_true rfl)) ?_))
    · repeat (first | (exact covL_ent (by omega) (fun k hk => by (try simp only [flatN, List.cons_append, List.nil_append]); (repeat (first | rw [find_skip (by omega)] | rw [find_hi (by omega) (by rfl)])))) | refine And.intro (covE_id (Nat.le_of_ble_eq_true rfl) (by first | exact wf_sls _ _ _ (by omega) | exact wf_jobs _ _) rfl (by rfl)) ?_)
  · rintro b hb
    refine vc_ok tok ?_
    by_cases hbl : b < j.length
    · have hjl := jobC_len (j.getD b [])
      have hl12 := h12 b hbl
      have bd1 := sumZ_bd (n := b) (F := rbeachF j) (M := 12000000) (fun c hcb => rbeachF_bd hc h12 h6 (by omega))
      have bd1' := small_mul (n := b) (N := 6) (M := 12000000) (by omega) (by omega)
      repeat ((conv => whnf); first | refine br_t (by omega) ?_ | refine fun (K' : K3) hK' => ?_ | (refine hK' _ _ _ ?_; clear hK' K'))
      refine Tri.loop (γ := Nat) (fun i => i ≤ (j.getD b []).length) (fun i => [(0, V.c (.sl 0 j.length)), (4, V.i (sumZ b (rbeachF j) + sumZ i (rrowF j b))), (5, V.i (b : Nat)), (6, V.i (i : Nat))])
        (fun i => ⟨0, .ro 1, slsC 1 j⟩ :: entC 1 j) 32 (fun i => (j.getD b []).length - i) 0 (R0 := []) ?_ ?_ ?_
      · omega
      · skip
        refine ⟨?_, ?_, injB_ent (p := [_]) (by omega) rfl rfl, rfl, by exact Nat.le_of_ble_eq_true rfl⟩
        · repeat (first | exact trivial | (refine And.intro (covS_syn (by first | rfl | (refine congrArg some (congrArg V.i ?_); exact (Int.add_zero _).symm)) rfl (by first | exact trivial | exact Nat.le_of_ble_eq_true rfl)) ?_))
        · repeat (first | (exact covL_ent (by omega) (fun k hk => by (try simp only [flatN, List.cons_append, List.nil_append]); (repeat (first | rw [find_skip (by omega)] | rw [find_hi (by omega) (by rfl)])))) | refine And.intro (covE_id (Nat.le_of_ble_eq_true rfl) (by first | exact wf_sls _ _ _ (by omega) | exact wf_jobs _ _) rfl (by rfl)) ?_)
      · rintro i hi
        refine vc_ok tok ?_
        by_cases hil : i < (j.getD b []).length
        · have bd2 := sumZ_bd (n := i) (F := rrowF j b) (M := 1000000) (fun i' hi' => rrowF_bd hc h12 h6 hbl (by omega))
          have bd2' := small_mul (n := i) (N := 12) (M := 1000000) (by omega) (by omega)
          have g1 := jobA_bd hc hbl hil
          have g0 : 0 ≤ ((j.getD b []).getD i (0, 0)).2 * ((j.getD b []).getD i (0, 0)).1 ∧ ((j.getD b []).getD i (0, 0)).2 * ((j.getD b []).getD i (0, 0)).1 ≤ 100 * 100 := mul_bd (a := (jobA j b i).2) (b := (jobA j b i).1) (A := 100) (B := 100) g1.2.2.1 g1.2.2.2 (by omega) g1.2.1
          repeat ((conv => whnf); first | (refine And.intro (by first | omega | exact Nat.le_of_ble_eq_true rfl | (dsimp only [inK]; omega)) ?_) | with_reducible refine ld (slL hbl) ?_ | with_reducible refine ld (jobT rfl hil) ?_ | refine Exists.intro _ (And.intro rfl ?_) | refine br_t (by omega) ?_ | refine fun (K' : K3) hK' => ?_ | (refine hK' _ _ _ ?_; clear hK' K') | refine onV_ld (c := ⟨1 + b, .ro 2, jobC (j.getD b [])⟩) (by ((try (conv => lhs; arg 1; whnf)); (repeat (first | rw [find_skip (by omega)] | rw [find_hi (by omega) (by rfl)])); exact entC_find hbl)) ?_ | with_reducible refine updK_ent (by omega) ?_)
          refine Tri.loop (γ := Nat) (fun k => i + 1 ≤ k ∧ k ≤ (j.getD b []).length) (fun k => [(0, V.c (.sl 0 j.length)), (4, V.i (sumZ b (rbeachF j) + sumZ i (rrowF j b) + (jobA j b i).2 * (jobA j b i).1 + sumZ (k - (i + 1)) (rtailF j b i))), (5, V.i (b : Nat)), (6, V.i (i : Nat)), (7, V.c (.ptr 32 0)), (8, V.i (k : Nat))])
            (fun k => ⟨32, .own 47, [C.i (jobA j b i).1, C.i (jobA j b i).2]⟩ :: ⟨0, .ro 1, slsC 1 j⟩ :: entC 1 j) 33 (fun k => (j.getD b []).length - k) (i + 1) (R0 := []) ?_ ?_ ?_
          · omega
          · rw [Nat.sub_self, sumZ]
            refine ⟨?_, ?_, injB_ent (p := [_, _]) (by omega) rfl rfl, rfl, by exact Nat.le_of_ble_eq_true rfl⟩
            · repeat (first | exact trivial | (refine And.intro (covS_syn (by first | rfl | (refine congrArg some (congrArg V.i ?_); exact (Int.add_zero _).symm)) rfl (by first | exact trivial | exact Nat.le_of_ble_eq_true rfl)) ?_))
            · repeat (first | (exact covL_ent (by omega) (fun k hk => by (try simp only [flatN, List.cons_append, List.nil_append]); (repeat (first | rw [find_skip (by omega)] | rw [find_hi (by omega) (by rfl)])))) | (refine And.intro (covE_id (Nat.le_of_ble_eq_true rfl) (by first | first | exact wf_sls _ _ _ (by omega) | exact wf_jobs _ _ | simp [C.wf]) rfl (by rfl)) ?_))
          · rintro k ⟨hk1, hk⟩
            refine vc_ok tok ?_
            have bd3 := sumZ_bd (n := k - (i + 1)) (F := rtailF j b i) (M := 10000) (fun k' hk' => rtailF_bd hc hbl (by omega))
            have bd3' := small_mul (n := k - (i + 1)) (N := 12) (M := 10000) (by omega) (by omega)
            have g0' : 0 ≤ (jobA j b i).2 * (jobA j b i).1 ∧ (jobA j b i).2 * (jobA j b i).1 ≤ 100 * 100 := g0
            by_cases hkl : k < (j.getD b []).length
            · have g2 := jobA_bd hc hbl hkl
              have p2 : 0 ≤ (jobA j b i).1 * ((j.getD b []).getD k (0, 0)).2 ∧ (jobA j b i).1 * ((j.getD b []).getD k (0, 0)).2 ≤ 100 * 100 := mul_bd (a := (jobA j b i).1) (b := (jobA j b k).2) (A := 100) (B := 100) (by omega) g1.2.1 g2.2.2.1 g2.2.2.2
              have hst : sumZ (k + 1 - (i + 1)) (rtailF j b i) = sumZ (k - (i + 1)) (rtailF j b i) + (jobA j b i).1 * ((j.getD b []).getD k (0, 0)).2 := by
                rw [show k + 1 - (i + 1) = (k - (i + 1)) + 1 by omega, sumZ, rtailF, show i + 1 + (k - (i + 1)) = k by omega]; rfl
              repeat ((conv => whnf); first | (refine And.intro (by first | omega | exact Nat.le_of_ble_eq_true rfl | (dsimp only [inK]; omega)) ?_) | with_reducible refine ld (slL hbl) ?_ | with_reducible refine ld (jobL1 hkl) ?_ | refine Exists.intro _ (And.intro rfl ?_) | refine br_t (by omega) ?_ | refine fun (K' : K3) hK' => ?_ | (refine hK' _ _ _ ?_; clear hK' K') | refine draw_auto tok mixed (by kernel_rfl) ?_ | refine onV_ld (c := ⟨1 + b, .ro 2, jobC (j.getD b [])⟩) (by ((try (conv => lhs; arg 1; whnf)); (repeat (first | rw [find_skip (by omega)] | rw [find_hi (by omega) (by rfl)])); exact entC_find hbl)) ?_)
              refine ⟨k + 1, [], by omega, by omega, ?_⟩
              refine ⟨?_, ?_, injB_ent (p := [_, _]) (by omega) rfl rfl, rfl, by exact Nat.le_of_ble_eq_true rfl⟩
              · repeat (first | exact trivial | (refine And.intro (covS_syn (by first | rfl | (refine congrArg some (congrArg V.i ?_); (rw [hst]; omega))) rfl (by first | exact trivial | exact Nat.le_of_ble_eq_true rfl)) ?_))
              · repeat (first | (exact covL_ent (by omega) (fun k hk => by (try simp only [flatN, List.cons_append, List.nil_append]); (repeat (first | rw [find_skip (by omega)] | rw [find_hi (by omega) (by rfl)])))) | (refine And.intro (covE_id (Nat.le_of_ble_eq_true rfl) (by first | first | exact wf_sls _ _ _ (by omega) | exact wf_jobs _ _ | simp [C.wf]) rfl (by rfl)) ?_))
            · obtain rfl : k = (j.getD b []).length := by omega
              repeat ((conv => whnf); first | (refine And.intro (by first | omega | (dsimp only [inK]; omega)) ?_) | with_reducible refine ld (slL hbl) ?_ | refine br_f (by omega) ?_ | refine fun (K' : K3) hK' => ?_ | (refine hK' _ _ _ ?_; clear hK' K'))
              refine Tri.loop (γ := Nat) (fun c => b + 1 ≤ c ∧ c ≤ j.length) (fun c => [(0, V.c (.sl 0 j.length)), (4, V.i (sumZ b (rbeachF j) + sumZ i (rrowF j b) + (jobA j b i).2 * (jobA j b i).1 + sumZ ((j.getD b []).length - (i + 1)) (rtailF j b i) + sumZ (c - (b + 1)) (rpairF j b i))), (5, V.i (b : Nat)), (6, V.i (i : Nat)), (7, V.c (.ptr 32 0)), (9, V.i (c : Nat))])
                (fun c => ⟨32, .own 47, [C.i (jobA j b i).1, C.i (jobA j b i).2]⟩ :: ⟨0, .ro 1, slsC 1 j⟩ :: entC 1 j) 33 (fun c => j.length - c) (b + 1) (R0 := []) ?_ ?_ ?_
              · omega
              · rw [Nat.sub_self, sumZ]
                refine ⟨?_, ?_, injB_ent (p := [_, _]) (by omega) rfl rfl, rfl, by exact Nat.le_of_ble_eq_true rfl⟩
                · repeat (first | exact trivial | (refine And.intro (covS_syn (by first | rfl | (refine congrArg some (congrArg V.i ?_); exact (Int.add_zero _).symm)) rfl (by first | exact trivial | exact Nat.le_of_ble_eq_true rfl)) ?_))
                · repeat (first | (exact covL_ent (by omega) (fun k hk => by (try simp only [flatN, List.cons_append, List.nil_append]); (repeat (first | rw [find_skip (by omega)] | rw [find_hi (by omega) (by rfl)])))) | (refine And.intro (covE_id (Nat.le_of_ble_eq_true rfl) (by first | first | exact wf_sls _ _ _ (by omega) | exact wf_jobs _ _ | simp [C.wf]) rfl (by rfl)) ?_))
              · rintro c ⟨hc1, hcl⟩
                refine vc_ok tok ?_
                have bd4 := sumZ_bd (n := c - (b + 1)) (F := rpairF j b i) (M := 120000) (fun c' hcb => pairF_bd hc h12 hbl hil (by omega))
                have bd4' := small_mul (n := c - (b + 1)) (N := 6) (M := 120000) (by omega) (by omega)
                by_cases hcj : c < j.length
                · have hq12 := h12 c hcj
                  have hjq := jobC_len (j.getD c [])
                  have hst : sumZ (c + 1 - (b + 1)) (rpairF j b i) = sumZ (c - (b + 1)) (rpairF j b i) + sumZ (j.getD c []).length (minF j b i c) := by
                    rw [show c + 1 - (b + 1) = (c - (b + 1)) + 1 by omega, sumZ, rpairF, show b + 1 + (c - (b + 1)) = c by omega]; rfl
                  repeat ((conv => whnf); first | refine br_t (by omega) ?_ | refine fun (K' : K3) hK' => ?_ | (refine hK' _ _ _ ?_; clear hK' K'))
                  refine Tri.loop (γ := Nat) (fun p => p ≤ (j.getD c []).length) (fun p => [(0, V.c (.sl 0 j.length)), (4, V.i (sumZ b (rbeachF j) + sumZ i (rrowF j b) + (jobA j b i).2 * (jobA j b i).1 + sumZ ((j.getD b []).length - (i + 1)) (rtailF j b i) + sumZ (c - (b + 1)) (rpairF j b i) + sumZ p (minF j b i c))), (5, V.i (b : Nat)), (6, V.i (i : Nat)), (7, V.c (.ptr 32 0)), (9, V.i (c : Nat)), (10, V.i (p : Nat))])
                    (fun p => ⟨32, .own 47, [C.i (jobA j b i).1, C.i (jobA j b i).2]⟩ :: ⟨0, .ro 1, slsC 1 j⟩ :: entC 1 j) 33 (fun p => (j.getD c []).length - p) 0 (R0 := []) ?_ ?_ ?_
                  · omega
                  · skip
                    refine ⟨?_, ?_, injB_ent (p := [_, _]) (by omega) rfl rfl, rfl, by exact Nat.le_of_ble_eq_true rfl⟩
                    · repeat (first | exact trivial | (refine And.intro (covS_syn (by first | rfl | (refine congrArg some (congrArg V.i ?_); exact (Int.add_zero _).symm)) rfl (by first | exact trivial | exact Nat.le_of_ble_eq_true rfl)) ?_))
                    · repeat (first | (exact covL_ent (by omega) (fun k hk => by (try simp only [flatN, List.cons_append, List.nil_append]); (repeat (first | rw [find_skip (by omega)] | rw [find_hi (by omega) (by rfl)])))) | (refine And.intro (covE_id (Nat.le_of_ble_eq_true rfl) (by first | first | exact wf_sls _ _ _ (by omega) | exact wf_jobs _ _ | simp [C.wf]) rfl (by rfl)) ?_))
                  · rintro p hp
                    refine vc_ok tok ?_
                    have bd5 := sumZ_bd (n := p) (F := minF j b i c) (M := 10000) (fun k' hk' => minF_bd hc hbl hil hcj (by omega))
                    have bd5' := small_mul (n := p) (N := 12) (M := 10000) (by omega) (by omega)
                    by_cases hpl : p < (j.getD c []).length
                    · have g2 := jobA_bd hc hcj hpl
                      have p1 : 0 ≤ ((j.getD c []).getD p (0, 0)).1 * (jobA j b i).2 ∧ ((j.getD c []).getD p (0, 0)).1 * (jobA j b i).2 ≤ 100 * 100 := mul_bd (a := (jobA j c p).1) (b := (jobA j b i).2) (A := 100) (B := 100) (by omega) g2.2.1 g1.2.2.1 g1.2.2.2
                      have p2 : 0 ≤ (jobA j b i).1 * ((j.getD c []).getD p (0, 0)).2 ∧ (jobA j b i).1 * ((j.getD c []).getD p (0, 0)).2 ≤ 100 * 100 := mul_bd (a := (jobA j b i).1) (b := (jobA j c p).2) (A := 100) (B := 100) (by omega) g1.2.1 g2.2.2.1 g2.2.2.2
                      have hmn : 0 ≤ (if ((j.getD c []).getD p (0, 0)).1 * (jobA j b i).2 < (jobA j b i).1 * ((j.getD c []).getD p (0, 0)).2 then ((j.getD c []).getD p (0, 0)).1 * (jobA j b i).2 else (jobA j b i).1 * ((j.getD c []).getD p (0, 0)).2) ∧ (if ((j.getD c []).getD p (0, 0)).1 * (jobA j b i).2 < (jobA j b i).1 * ((j.getD c []).getD p (0, 0)).2 then ((j.getD c []).getD p (0, 0)).1 * (jobA j b i).2 else (jobA j b i).1 * ((j.getD c []).getD p (0, 0)).2) ≤ 10000 := minF_bd hc hbl hil hcj hpl
                      repeat ((conv => whnf); first | (refine And.intro (by first | omega | exact Nat.le_of_ble_eq_true rfl | (dsimp only [inK]; omega)) ?_) | with_reducible refine ld (slL hcj) ?_ | with_reducible refine ld (jobT rfl hpl) ?_ | refine Exists.intro _ (And.intro rfl ?_) | refine br_t (by omega) ?_ | refine fun (K' : K3) hK' => ?_ | (refine hK' _ _ _ ?_; clear hK' K') | refine onV_ld (c := ⟨1 + c, .ro 2, jobC (j.getD c [])⟩) (by ((try (conv => lhs; arg 1; whnf)); (repeat (first | rw [find_skip (by omega)] | rw [find_hi (by omega) (by rfl)])); exact entC_find hcj)) ?_ | with_reducible refine updK_ent (by omega) ?_)
                      refine ⟨p + 1, [], by omega, by omega, ?_⟩
                      refine ⟨?_, ?_, injB_ent (p := [_, _]) (by omega) rfl rfl, rfl, by exact Nat.le_of_ble_eq_true rfl⟩
                      · repeat (first | exact trivial | (refine And.intro (covS_syn (by first | rfl | (refine congrArg some (congrArg V.i ?_); (rw [sumZ, minF, ← Int.add_assoc]; rfl))) rfl (by first | exact trivial | exact Nat.le_of_ble_eq_true rfl)) ?_))
                      · repeat (first | (exact covL_ent (by omega) (fun k hk => by (try simp only [flatN, List.cons_append, List.nil_append]); (repeat (first | rw [find_skip (by omega)] | rw [find_hi (by omega) (by rfl)])))) | (refine And.intro (covE_id (Nat.le_of_ble_eq_true rfl) (by first | first | exact wf_sls _ _ _ (by omega) | exact wf_jobs _ _ | simp [C.wf]) rfl (by rfl)) ?_))
                    · obtain rfl : p = (j.getD c []).length := by omega
                      repeat ((conv => whnf); first | (refine And.intro (by first | omega | (dsimp only [inK]; omega)) ?_) | with_reducible refine ld (slL hcj) ?_ | refine br_f (by omega) ?_ | refine fun (K' : K3) hK' => ?_ | (refine hK' _ _ _ ?_; clear hK' K'))
                      refine ⟨c + 1, [], by omega, by omega, ?_⟩
                      refine ⟨?_, ?_, injB_ent (p := [_, _]) (by omega) rfl rfl, rfl, by exact Nat.le_of_ble_eq_true rfl⟩
                      · repeat (first | exact trivial | (refine And.intro (covS_syn (by first | rfl | (refine congrArg some (congrArg V.i ?_); (rw [hst]; omega))) rfl (by first | exact trivial | exact Nat.le_of_ble_eq_true rfl)) ?_))
                      · repeat (first | (exact covL_ent (by omega) (fun k hk => by (try simp only [flatN, List.cons_append, List.nil_append]); (repeat (first | rw [find_skip (by omega)] | rw [find_hi (by omega) (by rfl)])))) | (refine And.intro (covE_id (Nat.le_of_ble_eq_true rfl) (by first | first | exact wf_sls _ _ _ (by omega) | exact wf_jobs _ _ | simp [C.wf]) rfl (by rfl)) ?_))
                · obtain rfl : c = j.length := by omega
                  repeat ((conv => whnf); first | (refine And.intro (by first | omega | (dsimp only [inK]; omega)) ?_) | refine br_f (by omega) ?_ | refine fun (K' : K3) hK' => ?_ | (refine hK' _ _ _ ?_; clear hK' K'))
                  refine ⟨i + 1, [], by omega, by omega, ?_⟩
                  refine ⟨?_, ?_, injB_ent (p := [_]) (by omega) rfl rfl, rfl, by exact Nat.le_of_ble_eq_true rfl⟩
                  · repeat (first | exact trivial | (refine And.intro (covS_syn (by first | rfl | (refine congrArg some (congrArg V.i ?_); (rw [sumZ, rrowF]; omega))) rfl (by first | exact trivial | exact Nat.le_of_ble_eq_true rfl)) ?_))
                  · repeat (first | (exact covL_ent (by omega) (fun k hk => by (try simp only [flatN, List.cons_append, List.nil_append]); (repeat (first | rw [find_skip (by omega)] | rw [find_hi (by omega) (by rfl)])))) | refine And.intro (covE_id (Nat.le_of_ble_eq_true rfl) (by first | exact wf_sls _ _ _ (by omega) | exact wf_jobs _ _) rfl (by rfl)) ?_)
        · obtain rfl : i = (j.getD b []).length := by omega
          repeat ((conv => whnf); first | (refine And.intro (by first | omega | (dsimp only [inK]; omega)) ?_) | with_reducible refine ld (slL hbl) ?_ | refine br_f (by omega) ?_ | refine fun (K' : K3) hK' => ?_ | (refine hK' _ _ _ ?_; clear hK' K'))
          refine ⟨b + 1, [], by omega, by omega, ?_⟩
          refine ⟨?_, ?_, injB_ent (p := [_]) (by omega) rfl rfl, rfl, by exact Nat.le_of_ble_eq_true rfl⟩
          · repeat (first | exact trivial | (refine And.intro (covS_syn (by rfl) rfl (by first | exact trivial | exact Nat.le_of_ble_eq_true rfl)) ?_))
          · repeat (first | (exact covL_ent (by omega) (fun k hk => by (try simp only [flatN, List.cons_append, List.nil_append]); (repeat (first | rw [find_skip (by omega)] | rw [find_hi (by omega) (by rfl)])))) | refine And.intro (covE_id (Nat.le_of_ble_eq_true rfl) (by first | exact wf_sls _ _ _ (by omega) | exact wf_jobs _ _) rfl (by rfl)) ?_)
    · obtain rfl : b = j.length := by omega
      repeat ((conv => whnf); first | refine br_f (by omega) ?_ | refine fun (K' : K3) hK' => ?_ | (refine hK' _ _ _ ?_; clear hK' K'))
      intro ρ; rfl
end Go.Proofs.Ytjijjncddjkdlaa

/- The law of the leads. -/
namespace Go.Proofs.Ytjijjncddjkdlaa
open Go.RowKit
set_option linter.unusedVariables false
set_option linter.unusedSimpArgs false
section
variable {n0 nx : Nat} {L : List E} {K : V → List E → Nat → Prop} {j : Coast}
theorem long_k (hj : j.length < 9223372036854775808) (hs : find L 0 = some ⟨0, .ro 1, slsC 1 j⟩) (hK : K (V.c (.bool (longB j))) [] nx) : CallK Try.prog n0 14 [V.c (.sl 0 j.length)] L nx K :=
  CallK.val (R := []) (long_any j hj) (by kernel_rfl) rfl (by simp [V.wf, A.wf, C.wf]) ⟨roE_id (Nat.succ_pos _) (wf_sls _ _ _ (by omega)) hs (.inr rfl) rfl, trivial⟩ rfl rfl trivial hK
theorem sane_k (hK : K (V.c (.bool true)) [] nx) : CallK Try.prog n0 15 [] L nx K :=
  CallK.val (R := []) sane_spec (by kernel_rfl) rfl (by simp) trivial rfl rfl trivial hK
end
theorem isTrue_any {f : FuncId} {vs : List V} {L : List E} {na : Nat} {ρ : Env} {w : World} {args : Array Value} (spec : Spec Try.prog f vs L na (Is (V.c (.bool true)))) (hp : Hp w.heap.size ρ w L na) (hv : ∀ v ∈ vs, v.wf na) (ha : (vs.map (V.den ρ)).toArray = args) :
    Calls Try.prog f args w fun e w' => e = .returned (.bool true) ∧ Below w.heap.size w w' := by
  subst ha
  refine (spec ρ w hp hv).mono ?_
  rintro e w' ⟨v, ρ', L', nx', rfl, h1, h2, h3, h4, h5, h6⟩
  exact ⟨by rw [h6 ρ']; rfl, h4⟩
end Go.Proofs.Ytjijjncddjkdlaa

/- The law of the best order, the ends, the bound and the number. -/
namespace Go.Proofs.Ytjijjncddjkdlaa
open Go.RowKit
set_option linter.unusedVariables false
set_option linter.unusedSimpArgs false
theorem best_long (j : Coast) (hj : j.length < 9223372036854775808) (h : longB j = true) :
    Spec Try.prog 7 [V.c (.sl 0 j.length)] [⟨0, .ro 1, slsC 1 j⟩] (j.length + 32) (Is (V.c (.bool true))) := by
  refine Spec.of tok Try.func7 rfl rfl rfl fun n0 cx => vc_ok tok ?_
  repeat ((conv => whnf); first | refine fun (K' : K3) hK' => ?_ | (refine hK' _ _ _ ?_; clear hK' K') | refine long_k hj rfl ?_ | refine br_bt h ?_ | refine sane_k ?_ | refine CallK.m ?_)
  intro ρ; rfl
set_option maxHeartbeats 4000000 in
set_option maxRecDepth 100000 in
theorem best_law (j : Coast) (hj : Sized j) (hl : longB j = false) :
    Spec Try.prog 7 [V.c (.sl 0 j.length)] (⟨0, .ro 1, slsC 1 j⟩ :: entC 1 j) 32 (Is (V.c (.bool true))) := by
  have hj20 := hj.len
  have hBe := bestE_spec j hj
  have hRe := rbestE_spec j hj
  have hLe := least_spec j hj
  have hRl := rleast_spec j hj
  have hWo := worst_spec j hj
  have hRw := rworst_spec j hj
  have hBo := bound_spec j hj
  have hRb := rbound_spec j hj
  have hRn := rnumber_spec j hj
  cases hv : validL j with
  | false =>
    rw [hv] at hBe hRe hLe hRl hWo hRw hBo hRb hRn
    simp only [Bool.false_eq_true, if_false] at hBe hRe hLe hRl hWo hRw hBo hRb hRn
    have hNu := numberX_spec j hj hv
    have hsame := sameInts_spec ([] : List Int) [] (by simp) (by simp)
    rw [decide_eq_true rfl] at hsame
    refine Spec.of tok Try.func7 rfl rfl rfl fun n0 cx => vc_ok tok ?_
    repeat ((conv => whnf); first | refine br_t (by omega) ?_ | refine br_f (by omega) ?_ | refine bs_f (by omega) ?_ | refine fun (K' : K3) hK' => ?_ | (refine hK' _ _ _ ?_; clear hK' K') | refine long_k (by omega) rfl ?_ | refine br_bf hl ?_ | refine CallK.intsE (R := []) hBe (by kernel_rfl) rfl (by simp [V.wf, A.wf, C.wf]) (HasC.ro ⟨rfl, fun k hk => by (repeat (first | rw [find_skip (by omega)] | rw [find_hi (by omega) (by rfl)])); exact entC_find hk⟩ hj) (injC hj) ?_ | refine CallK.intsE (R := []) hRe (by kernel_rfl) rfl (by simp [V.wf, A.wf, C.wf]) (HasC.ro ⟨rfl, fun k hk => by (repeat (first | rw [find_skip (by omega)] | rw [find_hi (by omega) (by rfl)])); exact entC_find hk⟩ hj) (injC hj) ?_ | refine CallK.val (R := []) hLe (by kernel_rfl) rfl (by simp [V.wf, A.wf, C.wf]) (HasC.ro ⟨rfl, fun k hk => by (repeat (first | rw [find_skip (by omega)] | rw [find_hi (by omega) (by rfl)])); exact entC_find hk⟩ hj) (injC hj) rfl (by simp [V.wf, A.wf, C.wf]) ?_ | refine CallK.val (R := []) hRl (by kernel_rfl) rfl (by simp [V.wf, A.wf, C.wf]) (HasC.ro ⟨rfl, fun k hk => by (repeat (first | rw [find_skip (by omega)] | rw [find_hi (by omega) (by rfl)])); exact entC_find hk⟩ hj) (injC hj) rfl (by simp [V.wf, A.wf, C.wf]) ?_ | (refine CallK.val (R := [(0, some 32), (1, some 33)]) hsame (by kernel_rfl) rfl (by simp [V.wf, A.wf, C.wf]) ⟨⟨by simp only; omega, wf_ints _ _, _, _, rfl, .inl rfl, ren_ints _ _⟩, ⟨by simp only; omega, wf_ints _ _, _, _, rfl, .inl rfl, ren_ints _ _⟩, trivial⟩ rfl rfl trivial ?_) | refine CallK.val (R := []) hWo (by kernel_rfl) rfl (by simp [V.wf, A.wf, C.wf]) (HasC.ro ⟨rfl, fun k hk => by (repeat (first | rw [find_skip (by omega)] | rw [find_hi (by omega) (by rfl)])); exact entC_find hk⟩ hj) (injC hj) rfl (by simp [V.wf, A.wf, C.wf]) ?_ | refine CallK.val (R := []) hRw (by kernel_rfl) rfl (by simp [V.wf, A.wf, C.wf]) (HasC.ro ⟨rfl, fun k hk => by (repeat (first | rw [find_skip (by omega)] | rw [find_hi (by omega) (by rfl)])); exact entC_find hk⟩ hj) (injC hj) rfl (by simp [V.wf, A.wf, C.wf]) ?_ | refine CallK.val (R := []) hBo (by kernel_rfl) rfl (by simp [V.wf, A.wf, C.wf]) (HasC.ro ⟨rfl, fun k hk => by (repeat (first | rw [find_skip (by omega)] | rw [find_hi (by omega) (by rfl)])); exact entC_find hk⟩ hj) (injC hj) rfl (by simp [V.wf, A.wf, C.wf]) ?_ | refine CallK.val (R := []) hRb (by kernel_rfl) rfl (by simp [V.wf, A.wf, C.wf]) (HasC.ro ⟨rfl, fun k hk => by (repeat (first | rw [find_skip (by omega)] | rw [find_hi (by omega) (by rfl)])); exact entC_find hk⟩ hj) (injC hj) rfl (by simp [V.wf, A.wf, C.wf]) ?_ | refine CallK.val (R := []) hNu (by kernel_rfl) rfl (by simp [V.wf, A.wf, C.wf]) (HasC.ro ⟨rfl, fun k hk => by (repeat (first | rw [find_skip (by omega)] | rw [find_hi (by omega) (by rfl)])); exact entC_find hk⟩ hj) (injC hj) rfl (by simp [V.wf, A.wf, C.wf]) ?_ | refine CallK.val (R := []) hRn (by kernel_rfl) rfl (by simp [V.wf, A.wf, C.wf]) (HasC.ro ⟨rfl, fun k hk => by (repeat (first | rw [find_skip (by omega)] | rw [find_hi (by omega) (by rfl)])); exact entC_find hk⟩ hj) (injC hj) rfl (by simp [V.wf, A.wf, C.wf]) ?_ | refine sane_k ?_ | refine bs_bf (Eq.refl false) ?_ | refine CallK.m ?_)
    intro ρ; rfl
  | true =>
    rw [hv] at hBe hRe hLe hRl hWo hRw hBo hRb hRn
    simp only [if_true] at hBe hRe hLe hRl hWo hRw hBo hRb hRn
    have hNu := number_spec j hj hv
    have hm := validL_many hv
    have hc := validL_coast hj hv
    have hbl := bestO_len hc
    have hsame := sameInts_spec (natsC (bestO j)) (natsC (bestO j)) (by rw [natsC_len]; omega) (by rw [natsC_len]; omega)
    rw [decide_eq_true rfl] at hsame
    refine Spec.of tok Try.func7 rfl rfl rfl fun n0 cx => vc_ok tok ?_
    repeat ((conv => whnf); first | refine br_t (by omega) ?_ | refine br_f (by omega) ?_ | refine bs_f (by omega) ?_ | refine fun (K' : K3) hK' => ?_ | (refine hK' _ _ _ ?_; clear hK' K') | refine long_k (by omega) rfl ?_ | refine br_bf hl ?_ | refine CallK.intsE (R := []) hBe (by kernel_rfl) rfl (by simp [V.wf, A.wf, C.wf]) (HasC.ro ⟨rfl, fun k hk => by (repeat (first | rw [find_skip (by omega)] | rw [find_hi (by omega) (by rfl)])); exact entC_find hk⟩ hj) (injC hj) ?_ | refine CallK.intsE (R := []) hRe (by kernel_rfl) rfl (by simp [V.wf, A.wf, C.wf]) (HasC.ro ⟨rfl, fun k hk => by (repeat (first | rw [find_skip (by omega)] | rw [find_hi (by omega) (by rfl)])); exact entC_find hk⟩ hj) (injC hj) ?_ | refine CallK.val (R := []) hLe (by kernel_rfl) rfl (by simp [V.wf, A.wf, C.wf]) (HasC.ro ⟨rfl, fun k hk => by (repeat (first | rw [find_skip (by omega)] | rw [find_hi (by omega) (by rfl)])); exact entC_find hk⟩ hj) (injC hj) rfl (by simp [V.wf, A.wf, C.wf]) ?_ | refine CallK.val (R := []) hRl (by kernel_rfl) rfl (by simp [V.wf, A.wf, C.wf]) (HasC.ro ⟨rfl, fun k hk => by (repeat (first | rw [find_skip (by omega)] | rw [find_hi (by omega) (by rfl)])); exact entC_find hk⟩ hj) (injC hj) rfl (by simp [V.wf, A.wf, C.wf]) ?_ | (refine CallK.val (R := [(0, some 32), (1, some 33)]) hsame (by kernel_rfl) rfl (by simp [V.wf, A.wf, C.wf]) ⟨⟨by simp only; omega, wf_ints _ _, _, _, rfl, .inl rfl, ren_ints _ _⟩, ⟨by simp only; omega, wf_ints _ _, _, _, rfl, .inl rfl, ren_ints _ _⟩, trivial⟩ rfl rfl trivial ?_) | refine CallK.val (R := []) hWo (by kernel_rfl) rfl (by simp [V.wf, A.wf, C.wf]) (HasC.ro ⟨rfl, fun k hk => by (repeat (first | rw [find_skip (by omega)] | rw [find_hi (by omega) (by rfl)])); exact entC_find hk⟩ hj) (injC hj) rfl (by simp [V.wf, A.wf, C.wf]) ?_ | refine CallK.val (R := []) hRw (by kernel_rfl) rfl (by simp [V.wf, A.wf, C.wf]) (HasC.ro ⟨rfl, fun k hk => by (repeat (first | rw [find_skip (by omega)] | rw [find_hi (by omega) (by rfl)])); exact entC_find hk⟩ hj) (injC hj) rfl (by simp [V.wf, A.wf, C.wf]) ?_ | refine CallK.val (R := []) hBo (by kernel_rfl) rfl (by simp [V.wf, A.wf, C.wf]) (HasC.ro ⟨rfl, fun k hk => by (repeat (first | rw [find_skip (by omega)] | rw [find_hi (by omega) (by rfl)])); exact entC_find hk⟩ hj) (injC hj) rfl (by simp [V.wf, A.wf, C.wf]) ?_ | refine CallK.val (R := []) hRb (by kernel_rfl) rfl (by simp [V.wf, A.wf, C.wf]) (HasC.ro ⟨rfl, fun k hk => by (repeat (first | rw [find_skip (by omega)] | rw [find_hi (by omega) (by rfl)])); exact entC_find hk⟩ hj) (injC hj) rfl (by simp [V.wf, A.wf, C.wf]) ?_ | refine CallK.val (R := []) hNu (by kernel_rfl) rfl (by simp [V.wf, A.wf, C.wf]) (HasC.ro ⟨rfl, fun k hk => by (repeat (first | rw [find_skip (by omega)] | rw [find_hi (by omega) (by rfl)])); exact entC_find hk⟩ hj) (injC hj) rfl (by simp [V.wf, A.wf, C.wf]) ?_ | refine CallK.val (R := []) hRn (by kernel_rfl) rfl (by simp [V.wf, A.wf, C.wf]) (HasC.ro ⟨rfl, fun k hk => by (repeat (first | rw [find_skip (by omega)] | rw [find_hi (by omega) (by rfl)])); exact entC_find hk⟩ hj) (injC hj) rfl (by simp [V.wf, A.wf, C.wf]) ?_ | refine sane_k ?_ | refine bs_bf (Eq.refl false) ?_ | refine CallK.m ?_)
    intro ρ; rfl
theorem best_any (j : Coast) (ao : Option Addr) (c : Nat) (bs : Nat → Option Addr × Nat) (w : World) (h : CoastAt w ao c j bs) :
    Calls Try.prog 7 #[.slice ao j.length c] w fun e w' => e = .returned (.bool true) ∧ Below w.heap.size w w' := by
  rcases bool_or (longB j) with hl | hl
  · exact isTrue_any (vs := [V.c (.sl 0 j.length)]) (best_law j (longB_sized hl) hl) (hp_coast h (longB_sized hl)) (by simp [V.wf, A.wf, C.wf]) rfl
  · exact isTrue_any (vs := [V.c (.sl 0 j.length)]) (best_long j h.lt hl) (hp_long h none 0) (by simp [V.wf, A.wf, C.wf]) rfl
end Go.Proofs.Ytjijjncddjkdlaa

