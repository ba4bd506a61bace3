/- Texts of the proof, part 7: L13, D1. -/
import Derived.Test.YtijnimgmpocmaaaDoorDD6
import Derived.WalkKit
import Derived.Below
import Derived.Lib.TrailingZeros
import Derived.Laws.OwnMore
import Derived.Maps.AppendAt
import Derived.Laws.IdiomCopy
import Derived.Laws.CopyRow
import Derived.IntWalk
import Derived.StillTail
import Derived.Scope
import Derived.ChangeKeysEq
import Derived.Laws.Small
import Derived.OrdersIn
import Derived.TacticsIn
import Derived.OwnWalkIn
import Derived.RangeFuncNested
import Derived.RangeFuncLeaves
import Derived.RangeFuncRecord
import Derived.Maps.Keyed
import Derived.Maps.RangeRun
import Derived.DeepKeys4
import Derived.Test.YtijnimgmpocmaaaDoorRows
import Derived.KernelRfl
import Derived.Shelf.Spec.TrailingZeros
import Derived.PlainAid
import Derived.StillTailTactics
import Derived.WalkSpells
import Derived.OwnWalk
import Derived.Deep.RegionLaw
import Derived.Lib.SliceRun
import Derived.Deep.OwnRows
import Derived.LoopTactic
import Derived.Lib.Hide
import Derived.ProofKit
import Derived.OpenShut
import Derived.Lib.SmallJoins
import Derived.Deep.Slices
import Derived.Deep.RegionHeld3
import Derived.Shelf.Sort.Plain
import Derived.Shelf.Slices.In.SortNone
import Derived.Shelf.Slices.CompactI
import Derived.LaidMore
import Derived.Stop.Joined
/- Waste: the law of the lines. -/
namespace Go.Proofs.YtijnimgmpocmaaaDoor
open Go.RowKit
set_option linter.unusedVariables false
set_option linter.unusedSimpArgs false
section
variable (N : Int) (ps : List Cell) (l : List Int)
theorem lines_long (hps : ps.length < 9223372036854775808) (hll : l.length < 9223372036854775808) (h : (ps.length : Int) > 60 ∨ (l.length : Int) > 60) :
    Spec Tryd.prog 13 [V.agg [C.i N, C.sl 0 ps.length], V.c (.sl 1 l.length)] [⟨0, .ro 2, cellC ps⟩, ⟨1, .ro 1, l.map C.i⟩] 2 (Is (V.c (.bool true))) := by
  refine Spec.of tok Tryd.func13 rfl rfl rfl fun n0 cx => vc_ok tok ?_
  by_cases h1 : (ps.length : Int) > 60
  · repeat ((conv => whnf); first | refine Exists.intro _ (And.intro rfl ?_) | refine bs_t (by omega) ?_ | refine fun (K' : K3) hK' => ?_ | (refine hK' _ _ _ ?_; clear hK' K') | refine wide_k hps ?_ | refine awake_k ?_ | refine CallK.m ?_)
    intro ρ; rfl
  · have h2 : (l.length : Int) > 60 := by omega
    repeat ((conv => whnf); first | refine Exists.intro _ (And.intro rfl ?_) | refine bs_t (by omega) ?_ | refine bs_f (by omega) ?_ | refine fun (K' : K3) hK' => ?_ | (refine hK' _ _ _ ?_; clear hK' K') | refine wide_k hps ?_ | refine long_k hll ?_ | refine awake_k ?_ | refine CallK.m ?_)
    intro ρ; rfl
set_option maxRecDepth 10000 in
theorem lines_no (h1 : ¬ (ps.length : Int) > 60) (h2 : ¬ (l.length : Int) > 60) (hv : okK' N ps = false) :
    Spec Tryd.prog 13 [V.agg [C.i N, C.sl 0 ps.length], V.c (.sl 1 l.length)] [⟨0, .ro 2, cellC ps⟩, ⟨1, .ro 1, l.map C.i⟩] 2 (Is (V.c (.bool true))) := by
  have k6 := rvalid_spec N ps (by omega)
  rw [hv] at k6
  refine Spec.of tok Tryd.func13 rfl rfl rfl fun n0 cx => vc_ok tok ?_
  repeat ((conv => whnf); first | refine Exists.intro _ (And.intro rfl ?_) | refine bs_f (by omega) ?_ | refine fun (K' : K3) hK' => ?_ | (refine hK' _ _ _ ?_; clear hK' K') | refine wide_k (by omega) ?_ | refine long_k (by omega) ?_ | (refine CallK.val (R := []) k6 (by kernel_rfl) rfl (by simp [V.wf, A.wf, C.wf, V.i]) ⟨roE_f (flat_c _) (l := 0) rfl (by omega) rfl (.inr rfl), trivial⟩ rfl rfl (by first | trivial | simp [V.wf, A.wf, C.wf]) ?_) | refine awake_k ?_ | refine br_bt (Eq.refl true) ?_ | refine CallK.m ?_)
  intro ρ; rfl
end
/-- An order of kinds makes a right filling, that has its skips; the other lists are told. -/
theorem right_ln {n : Nat} {qs : List (Nat × Nat)} (hk : Knd n qs) {os : List Nat} (ho : Ord n os) : Spec Tryd.prog 17 [V.agg [C.i n, C.sl 0 (castP qs).length], V.c (.sl 1 n)] [⟨0, .ro 2, cellC (castP qs)⟩, ⟨1, .ro 0, (lnL n qs os).map C.i⟩] 2 (Is (V.tup [A.c (.bool true), A.c (C.i 0)])) := by
  have hn := hk.rng
  have h := Right_spec n qs (lnL n qs os) hk (by rw [lnL_len]; omega)
  unfold rightO at h
  rw [lnL_isF hk ho, lnL_rgt hk ho, lnL_len] at h
  exact h
theorem used_ln {n : Nat} {qs : List (Nat × Nat)} (hn : n ≤ 8) (os : List Nat) : Spec Tryd.prog 49 [V.c (.sl 0 n)] [⟨0, .ro 1, (lnL n qs os).map C.i⟩] 1 (Is (V.i (usd (lnL n qs os)))) := by
  have h := used_spec (lnL n qs os) (by rw [lnL_len]; omega)
  rw [lnL_len] at h
  exact h
section
variable (n : Nat) (qs : List (Nat × Nat)) (l : List Int) (hk : Knd n qs) (h2 : ¬ (l.length : Int) > 60)
include hk h2
set_option maxRecDepth 20000 in
set_option maxHeartbeats 64000000 in
theorem lines_yes : Spec Tryd.prog 13 [V.agg [C.i n, C.sl 0 (castP qs).length], V.c (.sl 1 l.length)] [⟨0, .ro 2, cellC (castP qs)⟩, ⟨1, .ro 1, l.map C.i⟩] 2 (Is (V.c (.bool true))) := by
  have hn := hk.rng
  have hpl : (castP qs).length ≤ 28 := by rw [castP_len]; exact knd_len hk
  have h1 : ¬ ((castP qs).length : Int) > 60 := by omega
  have kv := rvalid_spec n (castP qs) (by omega)
  rw [knd_ok hk] at kv
  obtain ⟨k, hf, hk1, hkn, hi⟩ := few_nat hk
  have k1 := Fewest_spec n qs hk
  rw [hf] at k1
  clear hf
  obtain ⟨r, hr, hrl, hrb, hrr⟩ := frst_k hk (Nat.le_refl k) hi
  have k2 := First_some n k qs hk (by omega) r hr
  unfold rowI at k2
  rw [hrl] at k2
  obtain ⟨hbo, hbu⟩ := by_few hk hi hrl hrb hrr
  have k3 := Line_spec n qs hk (byL r n k) hbo
  have k4 := right_ln hk hbo
  have k5 := used_ln (qs := qs) hn.2 (byL r n k)
  rw [hbu] at k5
  have e3 : fnL (fun x => ((lnF (symC (clP qs)) (byL r n k) n x : Nat) : Int)) n = lnL n qs (byL r n k) := rfl
  rw [e3] at k3
  obtain ⟨z1, hz1⟩ : ∃ z, z = lnL n qs (byL r n k) := ⟨_, rfl⟩
  have hzl : z1.length = n := by rw [hz1, lnL_len]
  rw [← hz1] at k3 k4 k5
  clear e3 hz1 hbu
  have hnl : ((natI r).map C.i).length = n := by rw [List.length_map, natI_len, hrl]
  have hld : ∀ a, a < n → ((natI r).map C.i)[mulS ((a : Nat) : Int).toNat 1]? = some (C.i ((r.getD a 0 : Nat) : Int)) := fun a ha => by rw [intLz rfl (by rw [natI_len]; omega), natI_get (by omega)]
  have hbyl : ∀ c, (byL r n c).length ≤ n := fun c => byL_len r n c
  have hbel : ∀ c a, a ≤ n → (byL r n c ++ byC r a c).length ≤ n + n := fun c a ha => by
    rw [List.length_append]
    have h := byL_len r n c
    have h2 : (byC r a c).length ≤ a := by
      unfold byC
      have := List.length_filter_le (fun b => decide (r.getD b 0 = c)) (List.range a)
      rwa [List.length_range] at this
    omega
  have hbon := hbo.1
  have t2 : ¬ (k : Int) > n := by omega
  have t3 : ¬ ((n : Nat) : Int) ≠ (n : Nat) := fun h => h rfl
  have t6 : ¬ ((k : Nat) : Int) ≠ (k : Nat) := fun h => h rfl
  -- what the order does
  have cases2 : (Spec Tryd.prog 52 [V.agg [C.i n, C.sl 0 (castP qs).length], V.c (.sl 1 l.length)] [⟨0, .ro 2, cellC (castP qs)⟩, ⟨1, .ro 0, l.map C.i⟩] 2 (Is (V.tup [A.c .nil, A.c (C.i 2)])) ∧ Spec Tryd.prog 54 [V.agg [C.i n, C.sl 0 (castP qs).length], V.c (.sl 1 l.length)] [⟨0, .ro 2, cellC (castP qs)⟩, ⟨1, .ro 1, l.map C.i⟩] 2 (Is (V.c (.bool false)))) ∨
      ∃ z : List Int, z.length = n ∧ k ≤ usd z ∧ Spec Tryd.prog 52 [V.agg [C.i n, C.sl 0 (castP qs).length], V.c (.sl 1 l.length)] [⟨0, .ro 2, cellC (castP qs)⟩, ⟨1, .ro 0, l.map C.i⟩] 2 (fun v L' _ => ∃ lab, v = V.tup [A.c (.sl lab n), A.c (C.i 0)] ∧ find L' lab = some ⟨lab, .vec 3 1, z.map C.i⟩)
        ∧ Spec Tryd.prog 17 [V.agg [C.i n, C.sl 0 (castP qs).length], V.c (.sl 1 n)] [⟨0, .ro 2, cellC (castP qs)⟩, ⟨1, .ro 0, z.map C.i⟩] 2 (Is (V.tup [A.c (.bool true), A.c (C.i 0)]))
        ∧ Spec Tryd.prog 49 [V.c (.sl 0 n)] [⟨0, .ro 1, z.map C.i⟩] 1 (Is (V.i (usd z))) := by
    cases hob : ordB n l with
    | false =>
      have hio := isOrder_spec n (castP qs).length (castP qs) l (by omega)
      rw [hob] at hio
      exact .inl ⟨line_no n qs hk l (by omega) hob, hio⟩
    | true =>
      obtain ⟨os, rfl, ho⟩ := ordB_nat hob
      have hel : (natI os).length = n := by rw [natI_len, ho.1]
      refine .inr ⟨lnL n qs os, lnL_len _ _ _, usd_ge hk hi (lnL_len _ _ _) (lnL_rgt hk ho), ?_, right_ln hk ho, used_ln hn.2 os⟩
      rw [hel]
      exact Line_spec n qs hk os ho
  refine Spec.of tok Tryd.func13 rfl rfl rfl fun n0 cx => vc_ok tok ?_
  repeat ((conv => whnf); first | (refine And.intro (by first | omega | exact Nat.le_of_ble_eq_true rfl) ?_) | refine Exists.intro _ (And.intro rfl ?_) | refine br_f (by omega) ?_ | refine bs_f (by omega) ?_ | refine fun (K' : K3) hK' => ?_ | (refine hK' _ _ _ ?_; clear hK' K') | refine wide_k (by omega) ?_ | refine long_k (by omega) ?_ | (refine CallK.val (R := []) kv (by kernel_rfl) rfl (by simp [V.wf, A.wf, C.wf, V.i]) ⟨roE_f (flat_c _) (l := 0) rfl (by omega) rfl (.inr rfl), trivial⟩ rfl rfl (by first | trivial | simp [V.wf, A.wf, C.wf]) ?_) | (refine CallK.val (R := []) k1 (by kernel_rfl) rfl (by simp [V.wf, A.wf, C.wf, V.i]) ⟨roE_f (flat_c _) (l := 0) rfl (by omega) rfl (.inr rfl), trivial⟩ rfl rfl (by first | trivial | simp [V.wf, A.wf, C.wf]) ?_) | refine CallK.rowE (R := []) (flat_i _) k2 (by kernel_rfl) rfl (by simp [V.wf, A.wf, C.wf, V.i]) ⟨roE_f (flat_c _) (l := 0) rfl (by omega) rfl (.inr rfl), trivial⟩ rfl ?_ | refine br_bf (Eq.refl false) ?_ | refine CallK.m ?_)
  refine Tri.loop (γ := Nat) (fun c => c ≤ k) (fun c => [(1, V.c (.sl 1 l.length)), (2, V.c (.ptr 2 0)), (5, V.i (k : Nat)), (7, V.c (.sl 3 n)), (9, V.c (.sl 4 (byL r n c).length)), (58, V.i (k : Nat)), (59, V.i (c : Nat))])
    (fun c => [⟨4, .vec 3 1, (natI (byL r n c)).map C.i⟩, ⟨3, .vec 3 1, (natI r).map C.i⟩, ⟨2, .own 24, [C.i n, .sl 0 (castP qs).length]⟩, ⟨0, .ro 2, cellC (castP qs)⟩, ⟨1, .ro 1, l.map C.i⟩]) 5 (fun c => k - c) 0 (R0 := [(4, none)]) ?_ ?_ ?_
  · exact Nat.zero_le _
  · rw [show byL r n 0 = [] from rfl]
    refine ⟨?_, ?_, rfl, rfl, by exact Nat.le_of_ble_eq_true rfl⟩
    · repeat (first | exact trivial | (refine And.intro (covS_syn (by rfl) rfl (by first | exact trivial | exact Nat.le_of_ble_eq_true rfl)) ?_))
    · repeat (first | exact trivial | refine And.intro (covE_i rfl (Nat.le_of_ble_eq_true rfl) rfl rfl) ?_ | refine And.intro ⟨Nat.le_of_ble_eq_true rfl, by simp [C.wf], _, _, rfl, .inl rfl, fun ρ => rfl⟩ ?_ | refine And.intro (covE_c rfl (Nat.le_of_ble_eq_true rfl) rfl rfl) ?_ | refine And.intro (covE_nil rfl (Nat.le_of_ble_eq_true rfl) rfl rfl) ?_)
  · intro c hc
    refine vc_ok tok ?_
    by_cases hlt : c < k
    · have hsc := byL_succ r n c
      have hb0 := hbyl c
      have hbe := hbel c
      obtain ⟨b, hb⟩ : ∃ b, b = byL r n c := ⟨_, rfl⟩
      rw [← hb] at hsc hb0 hbe ⊢
      repeat ((conv => whnf); first | refine br_t (by omega) ?_ | refine fun (K' : K3) hK' => ?_ | (refine hK' _ _ _ ?_; clear hK' K'))
      refine Tri.loop (γ := Nat) (fun a => a ≤ n) (fun a => [(1, V.c (.sl 1 l.length)), (2, V.c (.ptr 2 0)), (5, V.i (k : Nat)), (7, V.c (.sl 3 n)), (9, V.c (.sl 4 (b ++ byC r a c).length)), (10, V.i (c : Nat)), (58, V.i (k : Nat)), (59, V.i (c : Nat)), (62, V.c (.sl 3 n)), (63, V.i (n : Nat)), (64, V.i (a : Nat))])
        (fun a => [⟨4, .vec 3 1, (natI (b ++ byC r a c)).map C.i⟩, ⟨3, .vec 3 1, (natI r).map C.i⟩, ⟨2, .own 24, [C.i n, .sl 0 (castP qs).length]⟩, ⟨0, .ro 2, cellC (castP qs)⟩, ⟨1, .ro 1, l.map C.i⟩]) 5 (fun a => n - a) 0 (R0 := []) ?_ ?_ ?_
      · exact Nat.zero_le _
      · rw [show byC r 0 c = [] from rfl, List.append_nil]
        refine ⟨?_, ?_, rfl, rfl, by exact Nat.le_of_ble_eq_true rfl⟩
        · repeat (first | exact trivial | (refine And.intro (covS_syn (by rfl) rfl (by first | exact trivial | exact Nat.le_of_ble_eq_true rfl)) ?_))
        · repeat (first | exact trivial | (refine And.intro (covE_id (Nat.le_of_ble_eq_true rfl) (by first | exact wf_ints _ _ | first | exact wf_us _ _ | exact wf_cells _ _ | exact wf_ints _ _ | (simp [C.wf]; done)) rfl (by rfl)) ?_))
      · intro a ha
        refine vc_ok tok ?_
        by_cases hal : a < n
        · have hs2 := byC_succ r a c
          have hla := hld a hal
          have hbl := hbe a (by omega)
          have happ0 := natI_app (b ++ byC r a c) a
          have hlen0 : ((natI (b ++ byC r a c)).map C.i).length = (b ++ byC r a c).length := by rw [List.length_map, natI_len]
          by_cases h : ((r.getD a 0 : Nat) : Int) = (c : Nat)
          · rw [if_pos (by omega)] at hs2
            have happ : (natI (b ++ byC r a c)).map C.i ++ [C.i (a : Nat)] = (natI (b ++ byC r (a + 1) c)).map C.i := by rw [happ0, hs2, List.append_assoc]
            have hle : (b ++ byC r (a + 1) c).length = (b ++ byC r a c).length + 1 := by rw [hs2, ← List.append_assoc, List.length_append, List.length_singleton]
            obtain ⟨y', hy'⟩ : ∃ y, y = b ++ byC r (a + 1) c := ⟨_, rfl⟩
            rw [← hy'] at happ hle
            obtain ⟨y, hy⟩ : ∃ y, y = b ++ byC r a c := ⟨_, rfl⟩
            rw [← hy] at happ hle hbl hlen0 ⊢
            repeat ((conv => whnf); first | (refine And.intro (by first | omega | (dsimp only [inK]; omega) | (exact ⟨rfl, rfl, rfl, Nat.le_of_ble_eq_true rfl, by dsimp only; omega, by exact Nat.le_of_ble_eq_true rfl, by omega, Nat.le_of_ble_eq_true rfl⟩)) ?_) | with_reducible refine ld (hla) ?_ | refine br_t (by omega) ?_ | refine fun (K' : K3) hK' => ?_ | (refine hK' _ _ _ ?_; clear hK' K'))
            refine ⟨a + 1, [(4, some 6)], by omega, by omega, ?_⟩
            rw [← hy', hle]
            refine ⟨?_, ?_, rfl, rfl, by exact Nat.le_of_ble_eq_true rfl⟩
            · repeat (first | exact trivial | (refine And.intro (covS_syn (by rfl) rfl (by first | exact trivial | exact Nat.le_of_ble_eq_true rfl)) ?_))
            · repeat (first | exact trivial | refine And.intro (covE_i rfl (Nat.le_of_ble_eq_true rfl) rfl happ) ?_ | refine And.intro (covE_i rfl (Nat.le_of_ble_eq_true rfl) rfl rfl) ?_ | refine And.intro (covE_c rfl (Nat.le_of_ble_eq_true rfl) rfl rfl) ?_ | refine And.intro (covE_some rfl (Nat.le_of_ble_eq_true rfl) (by first | exact wf_us _ _ | exact wf_cells _ _ | exact wf_ints _ _ | (simp [C.wf]; done)) rfl (by rfl)) ?_)
          · rw [if_neg (by omega), List.append_nil] at hs2
            obtain ⟨y, hy⟩ : ∃ y, y = b ++ byC r a c := ⟨_, rfl⟩
            rw [← hy] at hbl hlen0 ⊢
            repeat ((conv => whnf); first | (refine And.intro (by first | omega | (dsimp only [inK]; omega)) ?_) | with_reducible refine ld (hla) ?_ | refine br_t (by omega) ?_ | refine br_f (by omega) ?_ | refine fun (K' : K3) hK' => ?_ | (refine hK' _ _ _ ?_; clear hK' K'))
            refine ⟨a + 1, [], by omega, by omega, ?_⟩
            rw [hs2, ← hy]
            refine ⟨?_, ?_, rfl, rfl, by exact Nat.le_of_ble_eq_true rfl⟩
            · repeat (first | exact trivial | (refine And.intro (covS_syn (by rfl) rfl (by first | exact trivial | exact Nat.le_of_ble_eq_true rfl)) ?_))
            · repeat (first | exact trivial | (refine And.intro (covE_id (Nat.le_of_ble_eq_true rfl) (by first | exact wf_ints _ _ | first | exact wf_us _ _ | exact wf_cells _ _ | exact wf_ints _ _ | (simp [C.wf]; done)) rfl (by rfl)) ?_))
        · obtain rfl : a = n := by omega
          rw [← hsc]
          repeat ((conv => whnf); first | (refine And.intro (by first | omega | (dsimp only [inK]; omega)) ?_) | refine br_f (by omega) ?_ | refine fun (K' : K3) hK' => ?_ | (refine hK' _ _ _ ?_; clear hK' K'))
          refine ⟨c + 1, [], by omega, by omega, ?_⟩
          refine ⟨?_, ?_, rfl, rfl, by exact Nat.le_of_ble_eq_true rfl⟩
          · repeat (first | exact trivial | (refine And.intro (covS_syn (by rfl) rfl (by first | exact trivial | exact Nat.le_of_ble_eq_true rfl)) ?_))
          · repeat (first | exact trivial | (refine And.intro (covE_id (Nat.le_of_ble_eq_true rfl) (by first | exact wf_ints _ _ | first | exact wf_us _ _ | exact wf_cells _ _ | exact wf_ints _ _ | (simp [C.wf]; done)) rfl (by rfl)) ?_))
    · obtain rfl : c = k := by omega
      rw [hbon]
      rcases cases2 with ⟨k6, k7⟩ | ⟨z, hzn, hzu, k6, k7, k8⟩
      · repeat ((conv => whnf); first | refine Exists.intro _ (And.intro rfl ?_) | refine br_t (by omega) ?_ | refine br_f (by omega) ?_ | refine bs_f (by omega) ?_ | refine fun (K' : K3) hK' => ?_ | (refine hK' _ _ _ ?_; clear hK' K') | refine CallK.rowE (R := [(0, some 0), (1, some 4)]) (flat_i _) k3 (by kernel_rfl) rfl (by simp [V.wf, A.wf, C.wf, V.i]) ⟨roE_f (flat_c _) (l := 0) rfl (by omega) rfl (.inr rfl), roE_f (flat_i _) (l := 4) rfl (by omega) rfl (.inl rfl), trivial⟩ rfl ?_ | (refine CallK.val (R := [(0, some 0), (1, some 5)]) k4 (by kernel_rfl) rfl (by simp [V.wf, A.wf, C.wf, V.i]) ⟨roE_f (flat_c _) (l := 0) rfl (by omega) rfl (.inr rfl), roE_f (flat_i _) (l := 5) rfl (by omega) rfl (.inl rfl), trivial⟩ rfl rfl (by first | trivial | simp [V.wf, A.wf, C.wf]) ?_) | (refine CallK.val (R := [(0, some 5)]) k5 (by kernel_rfl) rfl (by simp [V.wf, A.wf, C.wf, V.i]) ⟨roE_f (flat_i _) (l := 5) rfl (by omega) rfl (.inr rfl), trivial⟩ rfl rfl (by first | trivial | simp [V.wf, A.wf, C.wf]) ?_) | (refine CallK.val (R := []) k6 (by kernel_rfl) rfl (by simp [V.wf, A.wf, C.wf, V.i]) ⟨roE_f (flat_c _) (l := 0) rfl (by omega) rfl (.inr rfl), roE_f (flat_i _) (l := 1) rfl (by omega) rfl (.inl rfl), trivial⟩ rfl rfl (by first | trivial | simp [V.wf, A.wf, C.wf]) ?_) | (refine CallK.val (R := []) k7 (by kernel_rfl) rfl (by simp [V.wf, A.wf, C.wf, V.i]) ⟨roE_f (flat_c _) (l := 0) rfl (by omega) rfl (.inr rfl), roE_f (flat_i _) (l := 1) rfl (by omega) rfl (.inr rfl), trivial⟩ rfl rfl (by first | trivial | simp [V.wf, A.wf, C.wf]) ?_) | refine awake_k ?_ | refine bs_bf (Eq.refl false) ?_ | refine br_bt (Eq.refl true) ?_ | refine CallK.m ?_)
        intro ρ; rfl
      · have t8 : ((usd z : Nat) : Int) ≥ (c : Nat) := by omega
        repeat ((conv => whnf); first | refine Exists.intro _ (And.intro rfl ?_) | refine br_t (by omega) ?_ | refine br_f (by omega) ?_ | refine bs_f (by omega) ?_ | refine fun (K' : K3) hK' => ?_ | (refine hK' _ _ _ ?_; clear hK' K') | refine CallK.rowE (R := [(0, some 0), (1, some 4)]) (flat_i _) k3 (by kernel_rfl) rfl (by simp [V.wf, A.wf, C.wf, V.i]) ⟨roE_f (flat_c _) (l := 0) rfl (by omega) rfl (.inr rfl), roE_f (flat_i _) (l := 4) rfl (by omega) rfl (.inl rfl), trivial⟩ rfl ?_ | (refine CallK.val (R := [(0, some 0), (1, some 5)]) k4 (by kernel_rfl) rfl (by simp [V.wf, A.wf, C.wf, V.i]) ⟨roE_f (flat_c _) (l := 0) rfl (by omega) rfl (.inr rfl), roE_f (flat_i _) (l := 5) rfl (by omega) rfl (.inl rfl), trivial⟩ rfl rfl (by first | trivial | simp [V.wf, A.wf, C.wf]) ?_) | (refine CallK.val (R := [(0, some 5)]) k5 (by kernel_rfl) rfl (by simp [V.wf, A.wf, C.wf, V.i]) ⟨roE_f (flat_i _) (l := 5) rfl (by omega) rfl (.inr rfl), trivial⟩ rfl rfl (by first | trivial | simp [V.wf, A.wf, C.wf]) ?_) | refine CallK.rowE (R := []) (flat_i _) k6 (by kernel_rfl) rfl (by simp [V.wf, A.wf, C.wf, V.i]) ⟨roE_f (flat_c _) (l := 0) rfl (by omega) rfl (.inr rfl), roE_f (flat_i _) (l := 1) rfl (by omega) rfl (.inl rfl), trivial⟩ rfl ?_ | (refine CallK.val (R := [(0, some 0), (1, some 6)]) k7 (by kernel_rfl) rfl (by simp [V.wf, A.wf, C.wf, V.i]) ⟨roE_f (flat_c _) (l := 0) rfl (by omega) rfl (.inr rfl), roE_f (flat_i _) (l := 6) rfl (by omega) rfl (.inl rfl), trivial⟩ rfl rfl (by first | trivial | simp [V.wf, A.wf, C.wf]) ?_) | (refine CallK.val (R := [(0, some 6)]) k8 (by kernel_rfl) rfl (by simp [V.wf, A.wf, C.wf, V.i]) ⟨roE_f (flat_i _) (l := 6) rfl (by omega) rfl (.inr rfl), trivial⟩ rfl rfl (by first | trivial | simp [V.wf, A.wf, C.wf]) ?_) | refine awake_k ?_ | refine bs_bf (Eq.refl false) ?_ | refine br_bt (Eq.refl true) ?_ | refine CallK.m ?_)
        intro ρ; rfl
end
theorem lines_any (N : Int) (ps : List Cell) (l : List Int) (ao bo : Option Addr) (c d : Nat) (w : World) (h : CellsAt w ao c ps) (hb : IntsC w bo d l) (hF : Fct w.heap.size w) :
    Calls Tryd.prog 13 #[.agg #[.int .i64 N, .slice ao ps.length c], .slice bo l.length d] w fun e w' => e = .returned (.bool true) ∧ Below w.heap.size w w' := by
  by_cases hl : (ps.length : Int) > 60 ∨ (l.length : Int) > 60
  · exact isTrue_any (vs := [V.agg [C.i N, C.sl 0 ps.length], V.c (.sl 1 l.length)]) (lines_long N ps l h.2.2 hb.1.2 hl) (hp_ki1 h hb hF) (by simp [V.wf, A.wf, C.wf]) rfl
  · have h1 : ¬ (ps.length : Int) > 60 := fun h => hl (.inl h)
    have h2 : ¬ (l.length : Int) > 60 := fun h => hl (.inr h)
    cases hv : okK' N ps with
    | false => exact isTrue_any (vs := [V.agg [C.i N, C.sl 0 ps.length], V.c (.sl 1 l.length)]) (lines_no N ps l h1 h2 hv) (hp_ki1 h hb hF) (by simp [V.wf, A.wf, C.wf]) rfl
    | true =>
      obtain ⟨n, qs, rfl, rfl, hk⟩ := knd_of hv
      exact isTrue_any (vs := [V.agg [C.i n, C.sl 0 (castP qs).length], V.c (.sl 1 l.length)]) (lines_yes n qs l hk h2) (hp_ki1 h hb hF) (by simp [V.wf, A.wf, C.wf]) rfl
end Go.Proofs.YtijnimgmpocmaaaDoor

/- Waste: what the listed variables give; a start that meets the condition. -/
namespace Go.Proofs.YtijnimgmpocmaaaDoor
open Go.RowKit
set_option linter.unusedVariables false
set_option linter.unusedSimpArgs false
open Go.ChangeShapes Go.WideShapes Go.ChangeAt Go.RowKit Go.Deep Go.Joins
abbrev laidV : List (String × DataW Unit) := [("math/bits.deBruijn32tab", Rows.laid_math_bits_deBruijn32tab), ("math/bits.deBruijn64tab", Rows.laid_math_bits_deBruijn64tab)]
theorem gTab : Tryd.prog.globalNamed "math/bits.deBruijn64tab" = some 1 := by kernel_rfl
theorem tTab : (Tryd.prog.globals[1]?).map (·.type) = some 120 := by kernel_rfl
theorem tabDat : (Rows.laid_math_bits_deBruijn64tab (H := Unit)) = .agg (Lib.deBruijn64tab.map fun n : Nat => .lit (.int .u8 n)) := rfl
set_option maxRecDepth 10000 in
theorem fct_of_laid {W : World} (h : laidMetH Tryd.prog laidV W) : Fct W.heap.size W := by
  have h' : laidMet Tryd.prog laidV W := h
  obtain ⟨ps, ⟨_, _, _, _, _, _, _, _, _, _, ⟨g, t, cs, fuel, p, q, hg, ht, hv, hd, _⟩, _⟩, _⟩ := h'
  obtain rfl := Option.some.inj (gTab.symm.trans hg)
  obtain rfl := Option.some.inj (tTab.symm.trans ht)
  rw [tabDat] at hd
  obtain ⟨xs, m, _, hx, hl, hxl, hgo⟩ := DataW.trod_array Tryd.underlying120 hd
  have hc1 : Tryd.prog.cellsOf 5 = 1 := by kernel_rfl
  have hc64 : Tryd.prog.cellsOf 120 = 64 := by kernel_rfl
  rw [hc64] at hl
  have hcell : ∀ j, j < Lib.deBruijn64tab.length → W.cell? ⟨1, j, none⟩ = some (.int .u8 (Lib.deBruijn64tab.getD j 0)) := by
    intro j hj
    have hj64 : j < 64 := hj
    have h3 := hgo j hj64
    rw [hc1, Nat.mul_one] at h3
    obtain ⟨y, hy⟩ : ∃ y, xs[j]? = some y := ⟨xs[j]'(by omega), List.getElem?_eq_getElem _⟩
    rw [hy] at h3
    obtain ⟨u, hu⟩ : ∃ u, cs.toList[j]? = some u := ⟨cs.toList[j]'(by omega), List.getElem?_eq_getElem _⟩
    have e1 : (cs.toList.drop j).take 1 = [u] := by
      rw [List.take_one, List.head?_drop, hu]; rfl
    rw [e1] at h3
    obtain ⟨z, e0, e2, _⟩ := DataW.trod_int Tryd.underlying5 h3
    have e0 : u = .int .u8 z := by simpa using e0
    have hxm : xs.map (·.1) = Lib.deBruijn64tab.map fun n : Nat => (DataW.lit (.int .u8 n) : DataW Unit) := by
      have := congrArg Prod.fst hx
      simp only [DataW.agg.injEq] at this
      exact this.symm
    have hym : (xs.map (·.1))[j]? = some y.1 := by rw [List.getElem?_map, hy]; rfl
    rw [hxm, List.getElem?_map] at hym
    have hz : (DataW.lit (.int .u8 (Lib.deBruijn64tab.getD j 0 : Nat)) : DataW Unit) = y.1 := by
      rw [List.getElem?_eq_getElem hj] at hym
      simp only [Option.map_some, Option.some.injEq] at hym
      rw [← hym, List.getD_eq_getElem?_getD, List.getElem?_eq_getElem hj]; rfl
    have hzz : (Lib.deBruijn64tab.getD j 0 : Int) = z := by
      rw [e2] at hz
      simpa using hz
    have hw := World.var?_cell gTab hv j
    rw [hw]
    have : cs[j]? = some u := by rw [← Array.getElem?_toList]; exact hu
    rw [this, e0, hzz]
  have h0 := hcell 0 (by decide)
  have hlt := World.block_lt_of_cell? _ _ h0
  refine ⟨hlt, ?_⟩
  have h1 := h0
  unfold World.cell? at h1
  cases hb : W.heap[1]? with
  | none => simp [hb] at h1
  | some o =>
    cases o with
    | cells c t fr => exact ⟨c, t, fr, rfl, hcell⟩
    | _ => simp [hb] at h1
theorem door_met (os : Os) (args : Array Value) : laidMetH Tryd.prog laidV ((World.doorLaid Tryd.prog 19 os).forCall (fun _ _ => 0) ⟨#[], args, []⟩).memory :=
  laidMetH_of_parts3 (fuel := 8) (laidMet_of_run' 8 (by kernel_rfl) (by kernel_rfl)) (by kernel_rfl) (by kernel_rfl)
end Go.Proofs.YtijnimgmpocmaaaDoor

