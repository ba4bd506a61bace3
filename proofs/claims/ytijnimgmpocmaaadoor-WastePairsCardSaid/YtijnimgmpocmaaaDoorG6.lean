/- Texts of the proof, part 6: J2, U1, U4, J3, J4, L0, L5, D1. -/
import Derived.Test.YtijnimgmpocmaaaDoorG5
import Derived.WalkKit
import Derived.Below
import Derived.Lib.TrailingZeros
import Derived.Laws.OwnMore
import Derived.Maps.AppendAt
import Derived.Laws.IdiomCopy
import Derived.Laws.CopyRow
import Derived.IntWalk
import Derived.StillTail
import Derived.Scope
import Derived.ChangeKeysEq
import Derived.Laws.Small
import Derived.OrdersIn
import Derived.TacticsIn
import Derived.OwnWalkIn
import Derived.RangeFuncNested
import Derived.RangeFuncLeaves
import Derived.RangeFuncRecord
import Derived.Maps.Keyed
import Derived.Maps.RangeRun
import Derived.DeepKeys4
import Derived.Test.YtijnimgmpocmaaaDoorRows
import Derived.KernelRfl
import Derived.Shelf.Spec.TrailingZeros
import Derived.PlainAid
import Derived.StillTailTactics
import Derived.WalkSpells
import Derived.OwnWalk
import Derived.Deep.RegionLaw
import Derived.Lib.SliceRun
import Derived.ProofKit
import Derived.OpenShut
import Derived.Lib.SmallJoins
import Derived.Deep.Slices
import Derived.Deep.RegionHeld3
import Derived.Lib.Hide
import Derived.LaidMore
import Derived.Stop.Joined
/- Waste: Joined. -/
namespace Go.Proofs.YtijnimgmpocmaaaDoor
open Go.RowKit
set_option linter.unusedVariables false
set_option linter.unusedSimpArgs false
theorem nam_spec (u v a : Nat) (hv : v < 100) (ha : a < 100) : Spec Tryd.prog 67 [V.i a, V.c (.ptr 0 0), V.c (.ptr 1 0)] [⟨0, .ro 0, [C.i v]⟩, ⟨1, .ro 0, [C.i u]⟩] 2 (Is (V.i (nam u v a : Nat))) := by
  refine Spec.of tok Tryd.func67 rfl rfl rfl fun n0 cx => vc_ok tok ?_
  by_cases h1 : (a : Int) = (v : Nat)
  · repeat ((conv => whnf); first | (refine And.intro (by first | omega | exact Nat.le_of_ble_eq_true rfl | (dsimp only [inK]; omega) | (simp only [mulS_eq]; omega) | (simp only [mulS_eq, setL_length]; omega) | (simp only [setL_length]; omega) | (simp only [setL_length, List.length_map]; omega) | (exact ⟨by omega, by omega, by first | exact Nat.le_of_ble_eq_true rfl | (dsimp only; omega) | (simp only [setL_length]; omega) | (simp only [setL_length, List.length_map]; omega)⟩) | (exact ⟨by omega, by first | rfl | omega, by omega, Nat.le_of_ble_eq_true rfl, Nat.le_of_ble_eq_true rfl⟩) | (exact ⟨rfl, rfl, rfl, Nat.le_of_ble_eq_true rfl, by first | rfl | omega | exact Nat.le_of_ble_eq_true rfl | (dsimp only; omega) | (simp; done) | (simp; omega), by first | rfl | omega | exact Nat.le_of_ble_eq_true rfl | (dsimp only; omega) | (simp; done) | (simp; omega), by omega, Nat.le_of_ble_eq_true rfl⟩) | exact Eq.refl true) ?_) | refine Exists.intro _ (And.intro rfl ?_) | refine And.intro (And.intro rfl (chk_rowI _ _ _ _)) ?_ | refine br_t (by omega) ?_ | refine br_f (by omega) ?_ | refine bs_t (by omega) ?_ | refine bs_f (by omega) ?_ | refine fun (K' : K3) hK' => ?_ | (refine hK' _ _ _ ?_; clear hK' K') | refine draw_auto tok mixed (by kernel_rfl) ?_ | refine bs_t h1 ?_ | refine br_t h1 ?_ | refine bs_bt (Eq.refl true) ?_ | refine bs_bf (Eq.refl false) ?_ | refine br_bt (Eq.refl true) ?_ | refine br_bf (Eq.refl false) ?_ | refine CallK.m ?_ | refine Two.l ?_ | refine And.intro (And.intro rfl rfl) ?_)
    intro ρ; rw [show nam u v a = u by unfold nam; rw [if_pos (by omega)]]; rfl
  · by_cases h2 : (a : Int) > (v : Nat)
    · repeat ((conv => whnf); first | (refine And.intro (by first | omega | exact Nat.le_of_ble_eq_true rfl | (dsimp only [inK]; omega) | (simp only [mulS_eq]; omega) | (simp only [mulS_eq, setL_length]; omega) | (simp only [setL_length]; omega) | (simp only [setL_length, List.length_map]; omega) | (exact ⟨by omega, by omega, by first | exact Nat.le_of_ble_eq_true rfl | (dsimp only; omega) | (simp only [setL_length]; omega) | (simp only [setL_length, List.length_map]; omega)⟩) | (exact ⟨by omega, by first | rfl | omega, by omega, Nat.le_of_ble_eq_true rfl, Nat.le_of_ble_eq_true rfl⟩) | (exact ⟨rfl, rfl, rfl, Nat.le_of_ble_eq_true rfl, by first | rfl | omega | exact Nat.le_of_ble_eq_true rfl | (dsimp only; omega) | (simp; done) | (simp; omega), by first | rfl | omega | exact Nat.le_of_ble_eq_true rfl | (dsimp only; omega) | (simp; done) | (simp; omega), by omega, Nat.le_of_ble_eq_true rfl⟩) | exact Eq.refl true) ?_) | refine Exists.intro _ (And.intro rfl ?_) | refine And.intro (And.intro rfl (chk_rowI _ _ _ _)) ?_ | refine br_t (by omega) ?_ | refine br_f (by omega) ?_ | refine bs_t (by omega) ?_ | refine bs_f (by omega) ?_ | refine fun (K' : K3) hK' => ?_ | (refine hK' _ _ _ ?_; clear hK' K') | refine draw_auto tok mixed (by kernel_rfl) ?_ | refine bs_f h1 ?_ | refine br_f h1 ?_ | refine bs_t h2 ?_ | refine br_t h2 ?_ | refine bs_bt (Eq.refl true) ?_ | refine bs_bf (Eq.refl false) ?_ | refine br_bt (Eq.refl true) ?_ | refine br_bf (Eq.refl false) ?_ | refine CallK.m ?_ | refine Two.l ?_ | refine And.intro (And.intro rfl rfl) ?_)
      intro ρ
      show Value.int _ _ = Value.int _ _
      rw [show nam u v a = a - 1 by unfold nam; rw [if_neg (by omega), if_pos (by omega)], show ((a - 1 : Nat) : Int) = (a : Int) - 1 by omega]
    · repeat ((conv => whnf); first | (refine And.intro (by first | omega | exact Nat.le_of_ble_eq_true rfl | (dsimp only [inK]; omega) | (simp only [mulS_eq]; omega) | (simp only [mulS_eq, setL_length]; omega) | (simp only [setL_length]; omega) | (simp only [setL_length, List.length_map]; omega) | (exact ⟨by omega, by omega, by first | exact Nat.le_of_ble_eq_true rfl | (dsimp only; omega) | (simp only [setL_length]; omega) | (simp only [setL_length, List.length_map]; omega)⟩) | (exact ⟨by omega, by first | rfl | omega, by omega, Nat.le_of_ble_eq_true rfl, Nat.le_of_ble_eq_true rfl⟩) | (exact ⟨rfl, rfl, rfl, Nat.le_of_ble_eq_true rfl, by first | rfl | omega | exact Nat.le_of_ble_eq_true rfl | (dsimp only; omega) | (simp; done) | (simp; omega), by first | rfl | omega | exact Nat.le_of_ble_eq_true rfl | (dsimp only; omega) | (simp; done) | (simp; omega), by omega, Nat.le_of_ble_eq_true rfl⟩) | exact Eq.refl true) ?_) | refine Exists.intro _ (And.intro rfl ?_) | refine And.intro (And.intro rfl (chk_rowI _ _ _ _)) ?_ | refine br_t (by omega) ?_ | refine br_f (by omega) ?_ | refine bs_t (by omega) ?_ | refine bs_f (by omega) ?_ | refine fun (K' : K3) hK' => ?_ | (refine hK' _ _ _ ?_; clear hK' K') | refine draw_auto tok mixed (by kernel_rfl) ?_ | refine bs_f h1 ?_ | refine br_f h1 ?_ | refine bs_f h2 ?_ | refine br_f h2 ?_ | refine bs_bt (Eq.refl true) ?_ | refine bs_bf (Eq.refl false) ?_ | refine br_bt (Eq.refl true) ?_ | refine br_bf (Eq.refl false) ?_ | refine CallK.m ?_ | refine Two.l ?_ | refine And.intro (And.intro rfl rfl) ?_)
      intro ρ; rw [show nam u v a = a by unfold nam; rw [if_neg (by omega), if_neg (by omega)]]; rfl
theorem flat_1 (x : Int) : FlatC [C.i x] := fun c hc => ⟨_, _, List.mem_singleton.1 hc⟩
def jn1 (u v : Nat) (t : List Nat) (p : Nat × Nat) : List Nat :=
  if nam u v p.1 = nam u v p.2 then t else (t.set (nam u v p.1) (t.getD (nam u v p.1) 0 ||| 2 ^ nam u v p.2)).set (nam u v p.2) (t.getD (nam u v p.2) 0 ||| 2 ^ nam u v p.1)
def jnK (n u v : Nat) (qs : List (Nat × Nat)) : Nat → List Nat
  | 0 => List.replicate (n - 1) 0
  | k + 1 => jn1 u v (jnK n u v qs k) (qs.getD k (0, 0))
theorem jn1_len (u v : Nat) (t : List Nat) (p : Nat × Nat) : (jn1 u v t p).length = t.length := by unfold jn1; split <;> simp
theorem jnK_len (n u v : Nat) (qs : List (Nat × Nat)) : ∀ k, (jnK n u v qs k).length = n - 1
  | 0 => by simp [jnK]
  | k + 1 => by simp only [jnK]; rw [jn1_len, jnK_len n u v qs k]
theorem nam_lt {n u v a : Nat} (huv : u < v) (hv : v < n) (ha : a < n) : nam u v a < n - 1 := by
  unfold nam
  split
  · omega
  · split <;> omega
theorem jnK_lt {n u v : Nat} {qs : List (Nat × Nat)} (hk : Knd n qs) (huv : u < v) (hv : v < n) : ∀ k, k ≤ qs.length → ∀ x ∈ jnK n u v qs k, x < 256
  | 0, _, x, hx => by simp only [jnK] at hx; rw [List.eq_of_mem_replicate hx]; omega
  | k + 1, hkk, x, hx => by
    have hp := hk.ok _ (getD_mem (show k < qs.length by omega))
    have hn := hk.rng
    have ih := jnK_lt hk huv hv k (by omega)
    have h1 := nam_lt (a := (qs.getD k (0, 0)).1) huv hv (by omega)
    have h2 := nam_lt (a := (qs.getD k (0, 0)).2) huv hv (by omega)
    simp only [jnK, jn1] at hx
    split at hx
    · exact ih x hx
    · rcases List.mem_or_eq_of_mem_set hx with h | rfl
      · rcases List.mem_or_eq_of_mem_set h with h | rfl
        · exact ih x h
        · exact or_256 (getD_lt (by omega) ih _) (pow_256 (by omega))
      · exact or_256 (getD_lt (by omega) ih _) (pow_256 (by omega))
/-- The pairs of the joined kinds. -/
def jnQ (n : Nat) (qs : List (Nat × Nat)) (i : Nat) : List (Nat × Nat) := prK (jnK n (qs.getD i (0, 0)).1 (qs.getD i (0, 0)).2 qs qs.length) (n - 1)
def rowA (t z m : Nat) (N : Int) (cs : List C) (v : V) (L' : List E) : Prop := ∃ lab, v = V.tup [A.agg [C.i N, .sl lab m], A.c (C.i 0)] ∧ find L' lab = some ⟨lab, .vec t z, cs⟩
section
variable {P : Program} {n0 nx nac : Nat} {f : FuncId} {vs vs' : List V} {Lc L : List E} {R : Rn} {K : V → List E → Nat → Prop}
theorem CallK.rowA {t z m : Nat} {N : Int} {cs : List C} (hfl : FlatC cs) (spec : Spec P f vs Lc nac (fun v L' _ => rowA t z m N cs v L')) (hok : callB P f = true)
    (hv : renVs R vs = some vs') (hvw : ∀ v ∈ vs, v.wf nac) (hL : roL R nac L Lc) (hLc : injB [] Lc = true)
    (hK : K (V.tup [A.agg [C.i N, .sl nx m], A.c (C.i 0)]) [⟨nx, .vec t z, cs⟩] (nx + 1)) : CallK P n0 f vs' L nx K := by
  refine CallK.mk' hok spec hv hvw hL hLc ?_
  rintro v L' nx' hw ⟨lab, rfl, hf⟩
  refine ⟨V.tup [A.agg [C.i N, .sl nx m], A.c (C.i 0)], [⟨nx, .vec t z, cs⟩], nx + 1, [(nx, some lab)], ⟨Nat.le_succ _, ?_, ?_, ⟨covE_some (renL_one _ _) (Nat.lt_succ_self nx) (hfl.wf _) hf (hfl.ren _), trivial⟩, rfl, ?_⟩, hK⟩
  · simp [V.ren, A.ren, C.ren, renL_one, C.i, seqO]
  · simp [V.chk, A.chk, C.chk, inLab_one, C.i]
  · simp only [List.all_cons, List.all_nil, Bool.and_true, inLab_one, Kd.isRo, Bool.not_false, Bool.true_and]
    exact hfl.chk _
end
set_option maxRecDepth 10000 in
set_option maxHeartbeats 8000000 in
theorem joined_spec (n : Nat) (qs : List (Nat × Nat)) (hk : Knd n qs) (i : Nat) (hi : i < qs.length) : Spec Tryd.prog 29 [kX n (castP qs), V.i (i : Nat)] [⟨0, .ro 2, cellC (castP qs)⟩] 1
    (fun v L' _ => rowA 59 2 (castP (jnQ n qs i)).length ((n - 1 : Nat) : Int) (cellC (castP (jnQ n qs i))) v L') := by
  have hpl := castP_len qs
  have hcl := cellC_len (castP qs)
  have hql := knd_len hk
  have hn := hk.rng
  have hpd := paired_spec n i (castP qs) (by omega)
  rw [pairE_ok hk hi] at hpd
  have huv := hk.ok _ (getD_mem hi)
  have hJ : jnQ n qs i = prK (jnK n (qs.getD i (0, 0)).1 (qs.getD i (0, 0)).2 qs qs.length) (n - 1) := rfl
  have hl0 := cellL0 (l := castP qs) (k := i) (z := (i : Nat)) rfl (by omega)
  have hl1 := cellL1 (l := castP qs) (k := i) (z := (i : Nat)) rfl (by omega)
  change (cellC _)[addO (mulS ((i : Nat) : Int).toNat 2) (mulS (Int.toNat 0) 1)]? = some (C.i ((castP qs).getD i cz).1) at hl0
  change (cellC _)[addO (mulS ((i : Nat) : Int).toNat 2) (mulS (Int.toNat 1) 1)]? = some (C.i ((castP qs).getD i cz).2) at hl1
  rw [castP_get hi] at hl0 hl1
  obtain ⟨p0, hp0⟩ : ∃ p0, p0 = qs.getD i (0, 0) := ⟨_, rfl⟩
  rw [← hp0] at huv hJ hl0 hl1
  obtain ⟨u, v⟩ := p0
  simp only at huv hJ hl0 hl1
  have hrep := repU (n - 1)
  have hn1 : ((n : Int) - 1).toNat = n - 1 := by omega
  refine Spec.of tok Tryd.func29 rfl rfl rfl fun n0 cx => vc_ok tok ?_
  repeat ((conv => whnf); first | (refine And.intro (by first | omega | exact Nat.le_of_ble_eq_true rfl | (dsimp only [inK]; omega) | (simp only [mulS_eq]; omega) | (simp only [mulS_eq, setL_length]; omega) | (simp only [setL_length]; omega) | (simp only [setL_length, List.length_map]; omega) | (exact ⟨by omega, by omega, by first | exact Nat.le_of_ble_eq_true rfl | (dsimp only; omega) | (simp only [setL_length]; omega) | (simp only [setL_length, List.length_map]; omega)⟩) | (exact ⟨by omega, by first | rfl | omega, by omega, Nat.le_of_ble_eq_true rfl, Nat.le_of_ble_eq_true rfl⟩) | (exact ⟨rfl, rfl, rfl, Nat.le_of_ble_eq_true rfl, by first | rfl | omega | exact Nat.le_of_ble_eq_true rfl | (dsimp only; omega) | (simp; done) | (simp; omega), by first | rfl | omega | exact Nat.le_of_ble_eq_true rfl | (dsimp only; omega) | (simp; done) | (simp; omega), by omega, Nat.le_of_ble_eq_true rfl⟩) | exact Eq.refl true) ?_) | with_reducible refine ld (hl0) ?_ | with_reducible refine ld (hl1) ?_ | refine Exists.intro _ (And.intro rfl ?_) | refine And.intro (And.intro rfl (chk_rowI _ _ _ _)) ?_ | refine br_t (by omega) ?_ | refine br_f (by omega) ?_ | refine bs_t (by omega) ?_ | refine bs_f (by omega) ?_ | refine fun (K' : K3) hK' => ?_ | (refine hK' _ _ _ ?_; clear hK' K') | refine draw_late 16 [3, 4] tok mixed (by decide +kernel) ?_ | refine draw_auto tok mixed (by kernel_rfl) ?_ | refine CallK.val (R := []) hpd (by kernel_rfl) rfl (by simp [V.wf, A.wf, C.wf, V.i]) ⟨roE_f (flat_c _) (l := 0) rfl (by omega) rfl (.inr rfl), trivial⟩ rfl rfl trivial ?_ | refine bs_bt (Eq.refl true) ?_ | refine bs_bf (Eq.refl false) ?_ | refine br_bt (Eq.refl true) ?_ | refine br_bf (Eq.refl false) ?_ | refine CallK.m ?_ | refine Two.l ?_ | refine And.intro (And.intro rfl rfl) ?_)
  refine Tri.loop (γ := Nat) (fun k => k ≤ qs.length) (fun k => [(2, V.c (.ptr 1 0)), (4, V.c (.ptr 2 0)), (9, V.c (.fn 67 [(4, 0), (3, 0)])), (10, V.c (.sl 7 (n - 1))), (40, V.c (.sl 0 (castP qs).length)), (41, V.i (castP qs).length), (42, V.i (k : Nat))])
    (fun k => [⟨7, .vec 75 1, (jnK n u v qs k).map C.u⟩, ⟨4, .own 3, [C.i (v : Nat)]⟩, ⟨3, .own 3, [C.i (u : Nat)]⟩, ⟨2, .own 24, [C.i 0, .nil]⟩, ⟨1, .own 24, [C.i n, .sl 0 (castP qs).length]⟩, ⟨0, .ro 2, cellC (castP qs)⟩]) 8 (fun k => qs.length - k) 0 (R0 := []) ?_ ?_ ?_
  · omega
  · skip
    have hrep' : repC ((n : Int) - 1).toNat [C.int .u64 0] = (jnK n u v qs 0).map C.u := by rw [hn1, hrep]; rfl
    refine ⟨?_, ?_, rfl, rfl, by first | exact Nat.le_of_ble_eq_true rfl | exact Nat.le_refl _ | omega⟩
    · repeat (first | exact trivial | (refine And.intro (covS_syn (by first | rfl | (first | exact congrArg (fun m => some (V.c (.sl 7 m))) hn1)) rfl (by first | exact trivial | exact Nat.le_of_ble_eq_true rfl | exact hy | (first | ((show ∀ p ∈ (_ : List (Nat × Nat)), p.1 < _); decide) | exact (fun p hp => nomatch hp)) | (show (_ : Nat) < _; omega))) ?_) | refine And.intro (covS_bool rfl rfl (by rfl)) ?_)
    · repeat (first | exact trivial | (refine And.intro (covE_id (Nat.le_of_ble_eq_true rfl) (by first | exact wf_ints _ _ | exact wf_bools _ _ | first | exact wf_us _ _ | exact wf_cells _ _ | (simp [C.wf]; done) | simp [C.wf]) rfl (by first | rfl | exact hrep')) ?_))
  · intro k hkl
    refine vc_ok tok ?_
    by_cases hlt : k < qs.length
    · have hld := cellT (l := castP qs) (k := k) rfl (by omega)
      change takeC (cellC (castP qs)) (mulS ((k : Nat) : Int).toNat 2) 2 = some [C.i ((castP qs).getD k cz).1, C.i ((castP qs).getD k cz).2] at hld
      rw [castP_get hlt] at hld
      have hsucc : jnK n u v qs (k + 1) = jn1 u v (jnK n u v qs k) (qs.getD k (0, 0)) := rfl
      have hpq := hk.ok _ (getD_mem hlt)
      have htl := jnK_len n u v qs k
      have htb := jnK_lt hk huv.1 huv.2 k hkl
      obtain ⟨p, hp⟩ : ∃ p, p = qs.getD k (0, 0) := ⟨_, rfl⟩
      obtain ⟨t, ht⟩ : ∃ t, t = jnK n u v qs k := ⟨_, rfl⟩
      rw [← hp] at hld hsucc hpq
      rw [← ht] at hsucc htl htb ⊢
      obtain ⟨a, b⟩ := p
      simp only at hld hpq
      have hlm : (t.map C.u).length = n - 1 := by rw [List.length_map, htl]
      have c1 := nam_spec u v a (by omega) (by omega)
      have c2 := nam_spec u v b (by omega) (by omega)
      have hA := nam_lt (a := a) huv.1 huv.2 (by omega)
      have hB := nam_lt (a := b) huv.1 huv.2 (by omega)
      simp only [jn1] at hsucc
      obtain ⟨x, hAe⟩ : ∃ x, x = nam u v a := ⟨_, rfl⟩
      obtain ⟨y, hBe⟩ : ∃ y, y = nam u v b := ⟨_, rfl⟩
      rw [← hAe] at c1 hA hsucc
      rw [← hBe] at c2 hB hsucc
      by_cases hab : x = y
      · rw [if_pos hab] at hsucc
        have hne : ¬ ((x : Int) ≠ (y : Nat)) := by omega
        repeat ((conv => whnf); first | (refine And.intro (by first | omega | exact Nat.le_of_ble_eq_true rfl | (dsimp only [inK]; omega) | (simp only [mulS_eq]; omega) | (simp only [mulS_eq, setL_length]; omega) | (simp only [setL_length]; omega) | (simp only [setL_length, List.length_map]; omega) | (exact ⟨by omega, by omega, by first | exact Nat.le_of_ble_eq_true rfl | (dsimp only; omega) | (simp only [setL_length]; omega) | (simp only [setL_length, List.length_map]; omega)⟩) | (exact ⟨by omega, by first | rfl | omega, by omega, Nat.le_of_ble_eq_true rfl, Nat.le_of_ble_eq_true rfl⟩) | (exact ⟨rfl, rfl, rfl, Nat.le_of_ble_eq_true rfl, by first | rfl | omega | exact Nat.le_of_ble_eq_true rfl | (dsimp only; omega) | (simp; done) | (simp; omega), by first | rfl | omega | exact Nat.le_of_ble_eq_true rfl | (dsimp only; omega) | (simp; done) | (simp; omega), by omega, Nat.le_of_ble_eq_true rfl⟩) | exact Eq.refl true) ?_) | with_reducible refine ld (hld) ?_ | refine Exists.intro _ (And.intro rfl ?_) | refine And.intro (And.intro rfl (chk_rowI _ _ _ _)) ?_ | refine br_t (by omega) ?_ | refine br_f (by omega) ?_ | refine bs_t (by omega) ?_ | refine bs_f (by omega) ?_ | refine fun (K' : K3) hK' => ?_ | (refine hK' _ _ _ ?_; clear hK' K') | refine draw_auto tok mixed (by kernel_rfl) ?_ | refine HD_mk (fun _ h => CallK.val (R := [(0, some 4), (1, some 3)]) c1 (by kernel_rfl) rfl (by simp [V.wf, A.wf, C.wf, V.i]) ⟨roE_f (flat_1 _) (l := 4) rfl (by omega) rfl (.inl rfl), roE_f (flat_1 _) (l := 3) rfl (by omega) rfl (.inl rfl), trivial⟩ rfl rfl trivial h) ?_ | refine HD_mk (fun _ h => CallK.val (R := [(0, some 4), (1, some 3)]) c2 (by kernel_rfl) rfl (by simp [V.wf, A.wf, C.wf, V.i]) ⟨roE_f (flat_1 _) (l := 4) rfl (by omega) rfl (.inl rfl), roE_f (flat_1 _) (l := 3) rfl (by omega) rfl (.inl rfl), trivial⟩ rfl rfl trivial h) ?_ | refine bs_f hne ?_ | refine br_f hne ?_ | refine bs_bt (Eq.refl true) ?_ | refine bs_bf (Eq.refl false) ?_ | refine br_bt (Eq.refl true) ?_ | refine br_bf (Eq.refl false) ?_ | refine CallK.m ?_ | refine Two.l ?_ | refine And.intro (And.intro rfl rfl) ?_)
        refine ⟨k + 1, [], by omega, by omega, ?_⟩
        rw [hsucc]
        refine ⟨?_, ?_, rfl, rfl, by first | exact Nat.le_of_ble_eq_true rfl | exact Nat.le_refl _ | omega⟩
        · repeat (first | exact trivial | (refine And.intro (covS_syn (by rfl) rfl (by first | exact trivial | exact Nat.le_of_ble_eq_true rfl | exact hy | (first | ((show ∀ p ∈ (_ : List (Nat × Nat)), p.1 < _); decide) | exact (fun p hp => nomatch hp)) | (show (_ : Nat) < _; omega))) ?_) | refine And.intro (covS_bool rfl rfl (by rfl)) ?_)
        · repeat (first | exact trivial | (refine And.intro (covE_id (Nat.le_of_ble_eq_true rfl) (by first | exact wf_ints _ _ | exact wf_bools _ _ | first | exact wf_us _ _ | exact wf_cells _ _ | (simp [C.wf]; done) | simp [C.wf]) rfl (by first | rfl | omega)) ?_))
      · rw [if_neg hab] at hsucc
        have hne : (x : Int) ≠ (y : Nat) := by omega
        have ha := getD_lt (by omega) htb x
        have hb := getD_lt (by omega) htb y
        have hl1 : (t.map C.u)[mulS ((x : Nat) : Int).toNat 1]? = some (C.u (t.getD x 0)) := uLz rfl (by omega)
        have hl2 : (t.map C.u)[mulS ((y : Nat) : Int).toNat 1]? = some (C.u (t.getD y 0)) := uLz rfl (by omega)
        have hw1 := with_spec (t.getD x 0) y ha (by omega)
        have hw2 := with_spec (t.getD y 0) x hb (by omega)
        have hfin : setL (setL (t.map C.u) (mulS ((x : Nat) : Int).toNat 1) [C.int .u64 ((t.getD x 0 ||| 2 ^ y : Nat) : Int)]) (mulS ((y : Nat) : Int).toNat 1) [C.int .u64 ((t.getD y 0 ||| 2 ^ x : Nat) : Int)] = (jnK n u v qs (k + 1)).map C.u := by
          rw [setU rfl rfl, setU rfl rfl, hsucc]
        repeat ((conv => whnf); first | (refine And.intro (by first | omega | exact Nat.le_of_ble_eq_true rfl | (dsimp only [inK]; omega) | (simp only [mulS_eq]; omega) | (simp only [mulS_eq, setL_length]; omega) | (simp only [setL_length]; omega) | (simp only [setL_length, List.length_map]; omega) | (exact ⟨by omega, by omega, by first | exact Nat.le_of_ble_eq_true rfl | (dsimp only; omega) | (simp only [setL_length]; omega) | (simp only [setL_length, List.length_map]; omega)⟩) | (exact ⟨by omega, by first | rfl | omega, by omega, Nat.le_of_ble_eq_true rfl, Nat.le_of_ble_eq_true rfl⟩) | (exact ⟨rfl, rfl, rfl, Nat.le_of_ble_eq_true rfl, by first | rfl | omega | exact Nat.le_of_ble_eq_true rfl | (dsimp only; omega) | (simp; done) | (simp; omega), by first | rfl | omega | exact Nat.le_of_ble_eq_true rfl | (dsimp only; omega) | (simp; done) | (simp; omega), by omega, Nat.le_of_ble_eq_true rfl⟩) | exact Eq.refl true) ?_) | with_reducible refine ld (hld) ?_ | with_reducible refine ld (hl1) ?_ | with_reducible refine ld (hl2) ?_ | refine Exists.intro _ (And.intro rfl ?_) | refine And.intro (And.intro rfl (chk_rowI _ _ _ _)) ?_ | refine br_t (by omega) ?_ | refine br_f (by omega) ?_ | refine bs_t (by omega) ?_ | refine bs_f (by omega) ?_ | refine fun (K' : K3) hK' => ?_ | (refine hK' _ _ _ ?_; clear hK' K') | refine draw_late 18 [7] tok mixed (by decide +kernel) ?_ | refine draw_late 20 [7] tok mixed (by decide +kernel) ?_ | refine draw_auto tok mixed (by kernel_rfl) ?_ | refine HD_mk (fun _ h => CallK.val (R := [(0, some 4), (1, some 3)]) c1 (by kernel_rfl) rfl (by simp [V.wf, A.wf, C.wf, V.i]) ⟨roE_f (flat_1 _) (l := 4) rfl (by omega) rfl (.inl rfl), roE_f (flat_1 _) (l := 3) rfl (by omega) rfl (.inl rfl), trivial⟩ rfl rfl trivial h) ?_ | refine HD_mk (fun _ h => CallK.val (R := [(0, some 4), (1, some 3)]) c2 (by kernel_rfl) rfl (by simp [V.wf, A.wf, C.wf, V.i]) ⟨roE_f (flat_1 _) (l := 4) rfl (by omega) rfl (.inl rfl), roE_f (flat_1 _) (l := 3) rfl (by omega) rfl (.inl rfl), trivial⟩ rfl rfl trivial h) ?_ | refine bs_t hne ?_ | refine br_t hne ?_ | refine HD_mk (fun _ h => CallK.val (R := []) hw1 (by kernel_rfl) rfl (by simp [V.wf, A.wf, C.wf, V.i]) trivial rfl rfl trivial h) ?_ | refine HD_mk (fun _ h => CallK.val (R := []) hw2 (by kernel_rfl) rfl (by simp [V.wf, A.wf, C.wf, V.i]) trivial rfl rfl trivial h) ?_ | refine bs_bt (Eq.refl true) ?_ | refine bs_bf (Eq.refl false) ?_ | refine br_bt (Eq.refl true) ?_ | refine br_bf (Eq.refl false) ?_ | refine CallK.m ?_ | refine Two.l ?_ | refine And.intro (And.intro rfl rfl) ?_)
        refine ⟨k + 1, [], by omega, by omega, ?_⟩
        refine ⟨?_, ?_, rfl, rfl, by first | exact Nat.le_of_ble_eq_true rfl | exact Nat.le_refl _ | omega⟩
        · repeat (first | exact trivial | (refine And.intro (covS_syn (by first | rfl | (refine congrArg some (congrArg V.i ?_); omega)) rfl (by first | exact trivial | exact Nat.le_of_ble_eq_true rfl | exact hy | (first | ((show ∀ p ∈ (_ : List (Nat × Nat)), p.1 < _); decide) | exact (fun p hp => nomatch hp)) | (show (_ : Nat) < _; omega))) ?_) | refine And.intro (covS_bool rfl rfl (by rfl)) ?_)
        · repeat (first | exact trivial | (refine And.intro (covE_id (Nat.le_of_ble_eq_true rfl) (by first | exact wf_ints _ _ | exact wf_bools _ _ | first | exact wf_us _ _ | exact wf_cells _ _ | (simp [C.wf]; done) | simp [C.wf]) rfl (by first | rfl | exact hfin)) ?_))
    · obtain rfl : k = qs.length := by omega
      have hJl := jnK_len n u v qs qs.length
      have hJb := jnK_lt hk huv.1 huv.2 qs.length (Nat.le_refl _)
      have hks := kinds_spec (jnK n u v qs qs.length) (n - 1) hJl (by omega) hJb
      rw [← hJ] at hks
      repeat ((conv => whnf); first | (refine And.intro (by first | omega | exact Nat.le_of_ble_eq_true rfl | (dsimp only [inK]; omega) | (simp only [mulS_eq]; omega) | (simp only [mulS_eq, setL_length]; omega) | (simp only [setL_length]; omega) | (simp only [setL_length, List.length_map]; omega) | (exact ⟨by omega, by omega, by first | exact Nat.le_of_ble_eq_true rfl | (dsimp only; omega) | (simp only [setL_length]; omega) | (simp only [setL_length, List.length_map]; omega)⟩) | (exact ⟨by omega, by first | rfl | omega, by omega, Nat.le_of_ble_eq_true rfl, Nat.le_of_ble_eq_true rfl⟩) | (exact ⟨rfl, rfl, rfl, Nat.le_of_ble_eq_true rfl, by first | rfl | omega | exact Nat.le_of_ble_eq_true rfl | (dsimp only; omega) | (simp; done) | (simp; omega), by first | rfl | omega | exact Nat.le_of_ble_eq_true rfl | (dsimp only; omega) | (simp; done) | (simp; omega), by omega, Nat.le_of_ble_eq_true rfl⟩) | exact Eq.refl true) ?_) | refine Exists.intro _ (And.intro rfl ?_) | refine And.intro (And.intro rfl (chk_rowI _ _ _ _)) ?_ | refine br_t (by omega) ?_ | refine br_f (by omega) ?_ | refine bs_t (by omega) ?_ | refine bs_f (by omega) ?_ | refine fun (K' : K3) hK' => ?_ | (refine hK' _ _ _ ?_; clear hK' K') | refine draw_auto tok mixed (by kernel_rfl) ?_ | refine CallK.optK (R := [(0, some 7)]) hks (by kernel_rfl) rfl (by simp [V.wf, A.wf, C.wf, V.i]) ⟨roE_f (flat_u _) (l := 7) rfl (by omega) rfl (.inl rfl), trivial⟩ rfl ?_ | refine And.intro (And.intro rfl (chk_rowC _ _ _ _)) ?_ | refine bs_bt (Eq.refl true) ?_ | refine bs_bf (Eq.refl false) ?_ | refine br_bt (Eq.refl true) ?_ | refine br_bf (Eq.refl false) ?_ | refine CallK.m ?_ | refine Two.l ?_ | refine And.intro (And.intro rfl rfl) ?_)
      exact rfl
end Go.Proofs.YtijnimgmpocmaaaDoor

/- Waste: orders of loading of a set, as the program counts them. -/
namespace Go.Proofs.YtijnimgmpocmaaaDoor
open Go.RowKit
set_option linter.unusedVariables false
set_option linter.unusedSimpArgs false
def dif (s f : Nat) : Nat := s ^^^ (s &&& f)
/-- The sets below f within s, from f on. -/
def chn (s : Nat) : Nat → Nat → List Nat
  | 0, _ => []
  | n + 1, f => if f = 0 then [] else f :: chn s n ((f - 1) &&& s)
def chS (s : Nat) : List Nat := chn s s s
def sgT (t : List Nat) (f : Nat) (x : Int) : Int := if aptS t f = true then (if (bitsL f).length % 2 = 1 then x else -x) else 0
def LDf (t : List Nat) : Nat → Nat → Int
  | 0, _ => 0
  | n + 1, s => if s = 0 then 1 else sumL (chS s) fun f => sgT t f (LDf t n (dif s f))
def LD (t : List Nat) (s : Nat) : Int := LDf t (s + 1) s
/-- The most. -/
def fub (k : Nat) : Int := [1, 1, 3, 13, 75, 541, 4683, 47293, 545835].getD k 0
def fubS (s : Nat) : Int := fub (bitsL s).length
end Go.Proofs.YtijnimgmpocmaaaDoor

/- Waste, plain: the program's orders of loading are the polynomial's value at -1, but for the sign. -/
namespace Go.Proofs.YtijnimgmpocmaaaDoor
open Go.RowKit
set_option linter.unusedVariables false
set_option linter.unusedSimpArgs false
def spl : List Nat → List (List Nat × List Nat)
  | [] => [([], [])]
  | a :: r => (spl r).map (fun p => (p.1, a :: p.2)) ++ (spl r).map (fun p => (a :: p.1, p.2))
def okH (cl : Nat → Nat → Bool) : List Nat → List Nat → Bool
  | [], _ => true
  | a :: q, h => apt cl a h && okH cl q (a :: h)
def subM : List Nat → List Nat
  | [] => [0]
  | a :: r => subM r ++ (subM r).map fun f => f ||| 2 ^ a
theorem bitsL_nodup (s : Nat) : (bitsL s).Nodup := List.nodup_range.filter _
end Go.Proofs.YtijnimgmpocmaaaDoor

/- Waste, plain: the joined kinds. -/
namespace Go.Proofs.YtijnimgmpocmaaaDoor
open Go.RowKit
set_option linter.unusedVariables false
set_option linter.unusedSimpArgs false
theorem jn1_bit {u v : Nat} {t : List Nat} {p : Nat × Nat} (hA : nam u v p.1 < t.length) (hB : nam u v p.2 < t.length) {i : Nat} (j : Nat) :
    ((jn1 u v t p).getD i 0).testBit j = true ↔ (t.getD i 0).testBit j = true ∨ (nam u v p.1 ≠ nam u v p.2 ∧ ((nam u v p.1 = i ∧ nam u v p.2 = j) ∨ (nam u v p.1 = j ∧ nam u v p.2 = i))) := by
  unfold jn1
  generalize nam u v p.1 = x at *
  generalize nam u v p.2 = y at *
  by_cases h : x = y
  · rw [if_pos h]; simp [h]
  · rw [if_neg h, getD_set, getD_set, List.length_set]
    by_cases h1 : y = i
    · subst h1
      rw [if_pos ⟨rfl, hB⟩, Nat.testBit_or, Bool.or_eq_true, Nat.testBit_two_pow, decide_eq_true_iff]
      constructor
      · rintro (h2 | h2)
        · exact .inl h2
        · exact .inr ⟨h, .inr ⟨h2, rfl⟩⟩
      · rintro (h2 | ⟨_, ⟨h3, h4⟩ | ⟨h3, _⟩⟩)
        · exact .inl h2
        · exact absurd h3 h
        · exact .inr h3
    · rw [if_neg (fun q => h1 q.1)]
      by_cases h2 : x = i
      · subst h2
        rw [if_pos ⟨rfl, hA⟩, Nat.testBit_or, Bool.or_eq_true, Nat.testBit_two_pow, decide_eq_true_iff]
        constructor
        · rintro (h3 | h3)
          · exact .inl h3
          · exact .inr ⟨h, .inl ⟨rfl, h3⟩⟩
        · rintro (h3 | ⟨_, ⟨_, h4⟩ | ⟨_, h4⟩⟩)
          · exact .inl h3
          · exact .inr h4
          · exact absurd h4 h1
      · rw [if_neg (fun q => h2 q.1)]
        constructor
        · exact .inl
        · rintro (h3 | ⟨_, ⟨h4, _⟩ | ⟨_, h4⟩⟩)
          · exact h3
          · exact absurd h4 h2
          · exact absurd h4 h1
theorem jnK_bit {n u v : Nat} {qs : List (Nat × Nat)} (hk : Knd n qs) (huv : u < v) (hv : v < n) (i j : Nat) : ∀ k, k ≤ qs.length →
    (((jnK n u v qs k).getD i 0).testBit j = true ↔ ∃ p ∈ qs.take k, nam u v p.1 ≠ nam u v p.2 ∧ ((nam u v p.1 = i ∧ nam u v p.2 = j) ∨ (nam u v p.1 = j ∧ nam u v p.2 = i)))
  | 0, _ => by
    have : ((List.replicate (n - 1) 0).getD i 0).testBit j = false := by
      rw [List.getD_eq_getElem?_getD, List.getElem?_replicate]; split <;> simp
    simp only [jnK, this, List.take_zero, List.not_mem_nil, false_and, exists_false, Bool.false_eq_true]
  | k + 1, hkk => by
    have hp := hk.ok _ (getD_mem (show k < qs.length by omega))
    have hl := jnK_len n u v qs k
    have ih := jnK_bit hk huv hv i j k (by omega)
    have h1 := nam_lt (a := (qs.getD k (0, 0)).1) huv hv (by omega)
    have h2 := nam_lt (a := (qs.getD k (0, 0)).2) huv hv (by omega)
    have e : qs[k]?.toList = [qs.getD k (0, 0)] := by rw [List.getElem?_eq_getElem (by omega), List.getD_eq_getElem?_getD, List.getElem?_eq_getElem (by omega)]; rfl
    show ((jn1 u v (jnK n u v qs k) (qs.getD k (0, 0))).getD i 0).testBit j = true ↔ _
    rw [jn1_bit (by omega) (by omega), ih, List.take_add_one, e]
    simp only [List.mem_append, List.mem_singleton]
    constructor
    · rintro (⟨p, hp, h⟩ | h)
      · exact ⟨p, .inl hp, h⟩
      · exact ⟨_, .inr rfl, h⟩
    · rintro ⟨p, hp | rfl, h⟩
      · exact .inl ⟨p, hp, h⟩
      · exact .inr h
theorem prI_nodup (s a k : Nat) : (prI s a k).Nodup := by
  unfold prI
  have h1 : (((bitsL s).take k).filter fun b => decide (a < b)).Nodup := ((bitsL_nodup s).sublist (List.take_sublist _ _)).filter _
  rw [List.nodup_iff_pairwise_ne, List.pairwise_map]
  exact (List.nodup_iff_pairwise_ne.1 h1).imp fun h e => h (congrArg Prod.snd e)
theorem prK_nodup (t : List Nat) : ∀ a, (prK t a).Nodup
  | 0 => by simp [prK]
  | a + 1 => by
    rw [prK_succ, List.nodup_append]
    refine ⟨prK_nodup t a, prI_nodup _ _ _, fun p hp q hq e => ?_⟩
    subst e
    have h1 := (mem_prK.1 hp).1
    have h2 := (mem_prI.1 hq).1
    omega
section
variable {n : Nat} {qs : List (Nat × Nat)} {i : Nat}
theorem jnQ_mem (hk : Knd n qs) (hi : i < qs.length) (p : Nat × Nat) : p ∈ jnQ n qs i ↔ p.1 < p.2 ∧ ∃ q ∈ qs, (nam (qs.getD i (0, 0)).1 (qs.getD i (0, 0)).2 q.1 = p.1 ∧ nam (qs.getD i (0, 0)).1 (qs.getD i (0, 0)).2 q.2 = p.2) ∨ (nam (qs.getD i (0, 0)).1 (qs.getD i (0, 0)).2 q.1 = p.2 ∧ nam (qs.getD i (0, 0)).1 (qs.getD i (0, 0)).2 q.2 = p.1) := by
  have huv := hk.ok _ (getD_mem hi)
  have hn := hk.rng
  unfold jnQ
  rw [mem_prK, mem_bitsL, jnK_bit hk huv.1 huv.2 _ _ _ (Nat.le_refl _), List.take_length]
  constructor
  · rintro ⟨_, h2, _, q, hq, _, h⟩
    exact ⟨h2, q, hq, h⟩
  · rintro ⟨h2, q, hq, h⟩
    have hp := hk.ok _ hq
    have h3 := nam_lt (a := q.1) huv.1 huv.2 (by omega)
    have h4 := nam_lt (a := q.2) huv.1 huv.2 (by omega)
    exact ⟨by omega, h2, by omega, q, hq, by omega, h⟩
theorem jnQ_knd (hk : Knd n qs) (hi : i < qs.length) : Knd (n - 1) (jnQ n qs i) := by
  have huv := hk.ok _ (getD_mem hi)
  have hn := hk.rng
  refine ⟨by omega, fun p hp => ?_, prK_nodup _ _⟩
  obtain ⟨h1, q, hq, h⟩ := (jnQ_mem hk hi p).1 hp
  have hp := hk.ok _ hq
  have h3 := nam_lt (a := q.1) huv.1 huv.2 (by omega)
  have h4 := nam_lt (a := q.2) huv.1 huv.2 (by omega)
  omega
theorem jnQ_cl (hk : Knd n qs) (hi : i < qs.length) {a b : Nat} (hab : a < b) : clP (jnQ n qs i) a b = joinP (cutP (clP qs) (qs.getD i (0, 0)).1 (qs.getD i (0, 0)).2) n (qs.getD i (0, 0)).1 (qs.getD i (0, 0)).2 a b := by
  have huv := hk.ok _ (getD_mem hi)
  rw [Bool.eq_iff_iff, clP_iff, jnQ_mem hk hi, joinP_iff]
  constructor
  · rintro ⟨_, q, hq, h⟩
    have hp := hk.ok _ hq
    refine ⟨q.1, q.2, hp.1, hp.2, ?_, h⟩
    unfold cutP
    rw [Bool.and_eq_true, clP_iff, Bool.not_eq_true', Bool.and_eq_false_iff, decide_eq_false_iff_not, decide_eq_false_iff_not]
    refine ⟨hq, ?_⟩
    by_cases h1 : q.1 = (qs.getD i (0, 0)).1
    · right; intro h2
      rw [h1, h2] at h
      have e1 : nam (qs.getD i (0, 0)).1 (qs.getD i (0, 0)).2 (qs.getD i (0, 0)).1 = (qs.getD i (0, 0)).1 := by unfold nam; rw [if_neg (by omega), if_neg (by omega)]
      have e2 : nam (qs.getD i (0, 0)).1 (qs.getD i (0, 0)).2 (qs.getD i (0, 0)).2 = (qs.getD i (0, 0)).1 := by unfold nam; rw [if_pos rfl]
      rw [e1, e2] at h
      simp only at h
      omega
    · exact .inl h1
  · rintro ⟨x, y, h1, h2, h3, h4⟩
    unfold cutP at h3
    rw [Bool.and_eq_true, clP_iff] at h3
    exact ⟨hab, (x, y), h3.1, h4⟩
theorem pair_law (hk : Knd n qs) (hi : i < qs.length) (d : Nat) : pol n qs d = pol n (qs.eraseIdx i) d - pol (n - 1) (jnQ n qs i) d := by
  have huv := hk.ok _ (getD_mem hi)
  obtain ⟨m, rfl⟩ : ∃ m, n = m + 1 := ⟨n - 1, by omega⟩
  rw [pol_pc hk, pol_pc (hk.erase i), pol_pc (jnQ_knd hk hi), clP_erase hk hi, Nat.add_sub_cancel, pc_pair (clP qs) huv.1 (by omega) (clP_iff.2 (getD_mem hi))]
  have : symC (clP (jnQ (m + 1) qs i)) = symC (joinP (cutP (clP qs) (qs.getD i (0, 0)).1 (qs.getD i (0, 0)).2) (m + 1) (qs.getD i (0, 0)).1 (qs.getD i (0, 0)).2) := by
    funext a b
    unfold symC
    split
    · exact jnQ_cl hk hi (by assumption)
    · split
      · exact jnQ_cl hk hi (by assumption)
      · rfl
  unfold pc
  rw [this]
theorem pol_high (hk : Knd n qs) {d : Nat} (h : n < d) : pol n qs d = 0 := polyP_high _ (by rw [tabS_len]; exact h)
theorem pol_bd (hk : Knd n qs) (d : Nat) : -600000 ≤ pol n qs d ∧ pol n qs d ≤ 600000 := polyP_bd _ (by rw [tabS_len]; exact hk.rng.2) d
end
end Go.Proofs.YtijnimgmpocmaaaDoor

/- Waste: light. -/
namespace Go.Proofs.YtijnimgmpocmaaaDoor
open Go.RowKit
set_option linter.unusedVariables false
set_option linter.unusedSimpArgs false
theorem roE_fe {R : Rn} {nx lab l z : Nat} {k : Kd} {L : List E} {cs cs' : List C} (hfl : FlatC cs) (hr : renL R lab = some l) (h1 : lab < nx) (h3 : find L l = some ⟨l, k, cs'⟩) (hz : z = 0 ∨ k.z = some z) (he : cs' = cs) : roE R nx L ⟨lab, .ro z, cs⟩ := by
  subst he; exact roE_f hfl hr h1 h3 hz
set_option maxHeartbeats 4000000 in
theorem light_spec (f : Nat → Int) (n : Nat) (hn : n ≤ 8) (hf : ∀ k, -600000 ≤ f k ∧ f k ≤ 600000) : Spec Tryd.prog 34 [V.c (.sl 0 (n + 1)), V.i (n : Nat)] [⟨0, .ro 0, (fnL f (n + 1)).map C.i⟩] 1 (Is (V.c (.bool true))) := by
  have hfl : (fnL f (n + 1)).length = n + 1 := fnL_len _ _
  refine Spec.of tok Tryd.func34 rfl rfl rfl fun n0 cx => vc_ok tok ?_
  repeat ((conv => whnf); first | (refine And.intro (by first | omega | exact Nat.le_of_ble_eq_true rfl | (dsimp only [inK]; omega) | (simp only [mulS_eq]; omega) | (simp only [mulS_eq, setL_length]; omega) | (simp only [setL_length]; omega) | (simp only [setL_length, List.length_map]; omega) | (exact ⟨by omega, by omega, by first | exact Nat.le_of_ble_eq_true rfl | (dsimp only; omega) | (simp only [setL_length]; omega) | (simp only [setL_length, List.length_map]; omega)⟩) | (exact ⟨by omega, by first | rfl | omega, by omega, Nat.le_of_ble_eq_true rfl, Nat.le_of_ble_eq_true rfl⟩) | (exact ⟨rfl, rfl, rfl, Nat.le_of_ble_eq_true rfl, by first | rfl | omega | exact Nat.le_of_ble_eq_true rfl | (dsimp only; omega) | (simp; done) | (simp; omega), by first | rfl | omega | exact Nat.le_of_ble_eq_true rfl | (dsimp only; omega) | (simp; done) | (simp; omega), by omega, Nat.le_of_ble_eq_true rfl⟩) | exact Eq.refl true) ?_) | refine Exists.intro _ (And.intro rfl ?_) | refine And.intro (And.intro rfl (chk_rowI _ _ _ _)) ?_ | refine br_t (by omega) ?_ | refine br_f (by omega) ?_ | refine bs_t (by omega) ?_ | refine bs_f (by omega) ?_ | refine fun (K' : K3) hK' => ?_ | (refine hK' _ _ _ ?_; clear hK' K') | refine draw_auto tok mixed (by kernel_rfl) ?_ | refine bs_bt (Eq.refl true) ?_ | refine bs_bf (Eq.refl false) ?_ | refine br_bt (Eq.refl true) ?_ | refine br_bf (Eq.refl false) ?_ | refine CallK.m ?_ | refine Two.l ?_ | refine And.intro (And.intro rfl rfl) ?_)
  refine Tri.loop (γ := Nat) (fun k => k ≤ n + 1) (fun k => [(0, V.c (.sl 0 (n + 1))), (1, V.i (n : Nat)), (7, V.c (.sl 0 (n + 1))), (8, V.i ((n + 1 : Nat) : Int)), (9, V.i (k : Nat))])
    (fun k => [⟨0, .ro 0, (fnL f (n + 1)).map C.i⟩]) 1 (fun k => n + 1 - k) 0 (R0 := []) ?_ ?_ ?_
  · omega
  · skip
    refine ⟨?_, ?_, rfl, rfl, by first | exact Nat.le_of_ble_eq_true rfl | exact Nat.le_refl _ | omega⟩
    · repeat (first | exact trivial | (refine And.intro (covS_syn (by rfl) rfl (by first | exact trivial | exact Nat.le_of_ble_eq_true rfl | exact hy | (first | ((show ∀ p ∈ (_ : List (Nat × Nat)), p.1 < _); decide) | exact (fun p hp => nomatch hp)) | (show (_ : Nat) < _; omega))) ?_) | refine And.intro (covS_bool rfl rfl (by rfl)) ?_)
    · repeat (first | exact trivial | (refine And.intro (covE_id (Nat.le_of_ble_eq_true rfl) (by first | exact wf_ints _ _ | exact wf_bools _ _ | first | exact wf_us _ _ | exact wf_cells _ _ | (simp [C.wf]; done) | simp [C.wf]) rfl (by rfl)) ?_))
  · intro k hk
    refine vc_ok tok ?_
    by_cases hlt : k < n + 1
    · have hg : (fnL f (n + 1)).getD k 0 = f k := fnL_get hlt
      have hld : ((fnL f (n + 1)).map C.i)[mulS ((k : Nat) : Int).toNat 1]? = some (C.i (f k)) := by rw [← hg]; exact intLz rfl (by omega)
      have hb := hf k
      have h1 : ¬ f k < -1000000000 := by omega
      have h2 : ¬ f k > 1000000000 := by omega
      repeat ((conv => whnf); first | (refine And.intro (by first | omega | exact Nat.le_of_ble_eq_true rfl | (dsimp only [inK]; omega) | (simp only [mulS_eq]; omega) | (simp only [mulS_eq, setL_length]; omega) | (simp only [setL_length]; omega) | (simp only [setL_length, List.length_map]; omega) | (exact ⟨by omega, by omega, by first | exact Nat.le_of_ble_eq_true rfl | (dsimp only; omega) | (simp only [setL_length]; omega) | (simp only [setL_length, List.length_map]; omega)⟩) | (exact ⟨by omega, by first | rfl | omega, by omega, Nat.le_of_ble_eq_true rfl, Nat.le_of_ble_eq_true rfl⟩) | (exact ⟨rfl, rfl, rfl, Nat.le_of_ble_eq_true rfl, by first | rfl | omega | exact Nat.le_of_ble_eq_true rfl | (dsimp only; omega) | (simp; done) | (simp; omega), by first | rfl | omega | exact Nat.le_of_ble_eq_true rfl | (dsimp only; omega) | (simp; done) | (simp; omega), by omega, Nat.le_of_ble_eq_true rfl⟩) | exact Eq.refl true) ?_) | with_reducible refine ld (hld) ?_ | refine Exists.intro _ (And.intro rfl ?_) | refine And.intro (And.intro rfl (chk_rowI _ _ _ _)) ?_ | refine br_t (by omega) ?_ | refine br_f (by omega) ?_ | refine bs_t (by omega) ?_ | refine bs_f (by omega) ?_ | refine fun (K' : K3) hK' => ?_ | (refine hK' _ _ _ ?_; clear hK' K') | refine draw_auto tok mixed (by kernel_rfl) ?_ | refine bs_f h1 ?_ | refine br_f h1 ?_ | refine bs_f h2 ?_ | refine br_f h2 ?_ | refine bs_bt (Eq.refl true) ?_ | refine bs_bf (Eq.refl false) ?_ | refine br_bt (Eq.refl true) ?_ | refine br_bf (Eq.refl false) ?_ | refine CallK.m ?_ | refine Two.l ?_ | refine And.intro (And.intro rfl rfl) ?_)
      refine ⟨k + 1, [], by omega, by omega, ?_⟩
      refine ⟨?_, ?_, rfl, rfl, by first | exact Nat.le_of_ble_eq_true rfl | exact Nat.le_refl _ | omega⟩
      · repeat (first | exact trivial | (refine And.intro (covS_syn (by first | rfl | (refine congrArg some (congrArg V.i ?_); omega)) rfl (by first | exact trivial | exact Nat.le_of_ble_eq_true rfl | exact hy | (first | ((show ∀ p ∈ (_ : List (Nat × Nat)), p.1 < _); decide) | exact (fun p hp => nomatch hp)) | (show (_ : Nat) < _; omega))) ?_) | refine And.intro (covS_bool rfl rfl (by rfl)) ?_)
      · repeat (first | exact trivial | (refine And.intro (covE_id (Nat.le_of_ble_eq_true rfl) (by first | exact wf_ints _ _ | exact wf_bools _ _ | first | exact wf_us _ _ | exact wf_cells _ _ | (simp [C.wf]; done) | simp [C.wf]) rfl (by rfl)) ?_))
    · obtain rfl : k = n + 1 := by omega
      repeat ((conv => whnf); first | (refine And.intro (by first | omega | exact Nat.le_of_ble_eq_true rfl | (dsimp only [inK]; omega) | (simp only [mulS_eq]; omega) | (simp only [mulS_eq, setL_length]; omega) | (simp only [setL_length]; omega) | (simp only [setL_length, List.length_map]; omega) | (exact ⟨by omega, by omega, by first | exact Nat.le_of_ble_eq_true rfl | (dsimp only; omega) | (simp only [setL_length]; omega) | (simp only [setL_length, List.length_map]; omega)⟩) | (exact ⟨by omega, by first | rfl | omega, by omega, Nat.le_of_ble_eq_true rfl, Nat.le_of_ble_eq_true rfl⟩) | (exact ⟨rfl, rfl, rfl, Nat.le_of_ble_eq_true rfl, by first | rfl | omega | exact Nat.le_of_ble_eq_true rfl | (dsimp only; omega) | (simp; done) | (simp; omega), by first | rfl | omega | exact Nat.le_of_ble_eq_true rfl | (dsimp only; omega) | (simp; done) | (simp; omega), by omega, Nat.le_of_ble_eq_true rfl⟩) | exact Eq.refl true) ?_) | refine Exists.intro _ (And.intro rfl ?_) | refine And.intro (And.intro rfl (chk_rowI _ _ _ _)) ?_ | refine br_t (by omega) ?_ | refine br_f (by omega) ?_ | refine bs_t (by omega) ?_ | refine bs_f (by omega) ?_ | refine fun (K' : K3) hK' => ?_ | (refine hK' _ _ _ ?_; clear hK' K') | refine draw_auto tok mixed (by kernel_rfl) ?_ | refine bs_bt (Eq.refl true) ?_ | refine bs_bf (Eq.refl false) ?_ | refine br_bt (Eq.refl true) ?_ | refine br_bf (Eq.refl false) ?_ | refine CallK.m ?_ | refine Two.l ?_ | refine And.intro (And.intro rfl rfl) ?_)
      intro ρ
      show Value.bool _ = Value.bool _
      simp
end Go.Proofs.YtijnimgmpocmaaaDoor

/- Waste: what the laws share: Wide, Awake. -/
namespace Go.Proofs.YtijnimgmpocmaaaDoor
open Go.RowKit
set_option linter.unusedVariables false
set_option linter.unusedSimpArgs false
theorem wide_spec (N : Int) (n : Nat) (hn : n < 9223372036854775808) : Spec Tryd.prog 14 [V.agg [C.i N, C.sl 0 n]] [] 1 (Is (V.c (.bool (decide ((n : Int) > 60))))) := by
  refine Spec.of tok Tryd.func14 rfl rfl rfl fun n0 cx => vc_ok tok ?_
  repeat ((conv => whnf); first | (refine And.intro (by first | omega | exact Nat.le_of_ble_eq_true rfl | (dsimp only [inK]; omega) | (simp only [mulS_eq]; omega) | (simp only [mulS_eq, setL_length]; omega) | (simp only [setL_length]; omega) | (simp only [setL_length, List.length_map]; omega) | (exact ⟨by omega, by omega, by first | exact Nat.le_of_ble_eq_true rfl | (dsimp only; omega) | (simp only [setL_length]; omega) | (simp only [setL_length, List.length_map]; omega)⟩) | (exact ⟨by omega, by first | rfl | omega, by omega, Nat.le_of_ble_eq_true rfl, Nat.le_of_ble_eq_true rfl⟩) | (exact ⟨rfl, rfl, rfl, Nat.le_of_ble_eq_true rfl, by first | rfl | omega | exact Nat.le_of_ble_eq_true rfl | (dsimp only; omega) | (simp; done) | (simp; omega), by first | rfl | omega | exact Nat.le_of_ble_eq_true rfl | (dsimp only; omega) | (simp; done) | (simp; omega), by omega, Nat.le_of_ble_eq_true rfl⟩) | exact Eq.refl true) ?_) | refine Exists.intro _ (And.intro rfl ?_) | refine And.intro (And.intro rfl (chk_rowI _ _ _ _)) ?_ | refine br_t (by omega) ?_ | refine br_f (by omega) ?_ | refine bs_t (by omega) ?_ | refine bs_f (by omega) ?_ | refine fun (K' : K3) hK' => ?_ | (refine hK' _ _ _ ?_; clear hK' K') | refine draw_auto tok mixed (by kernel_rfl) ?_ | refine bs_bt (Eq.refl true) ?_ | refine bs_bf (Eq.refl false) ?_ | refine br_bt (Eq.refl true) ?_ | refine br_bf (Eq.refl false) ?_ | refine CallK.m ?_ | refine Two.l ?_ | refine And.intro (And.intro rfl rfl) ?_)
  intro ρ; rfl
theorem three_knd : Knd 3 [(0, 1), (1, 2), (0, 2)] := ⟨by omega, fun p hp => by simp only [List.mem_cons, List.not_mem_nil, or_false] at hp; rcases hp with rfl | rfl | rfl <;> simp, by decide⟩
theorem three_cnt : cntO 3 [(0, 1), (1, 2), (0, 2)] 3 = 6 := by decide +kernel
set_option maxRecDepth 10000 in
theorem awake_spec : Spec Tryd.prog 16 [] [] 0 (Is (V.c (.bool true))) := by
  have hc := count_spec 3 3 [(0, 1), (1, 2), (0, 2)] three_knd
  rw [if_pos (by omega), three_cnt] at hc
  have hc : Spec Tryd.prog 25 [V.agg [C.i 3, C.sl 0 3], V.i 3] [⟨0, .ro 2, [C.i 0, C.i 1, C.i 1, C.i 2, C.i 0, C.i 2]⟩] 1 (Is (V.tup [A.c (C.i 6), A.c (C.i 0)])) := hc
  refine Spec.of tok Tryd.func16 rfl rfl rfl fun n0 cx => vc_ok tok ?_
  repeat ((conv => whnf); first | (refine And.intro (by first | omega | exact Nat.le_of_ble_eq_true rfl | (dsimp only [inK]; omega) | (simp only [mulS_eq]; omega) | (simp only [mulS_eq, setL_length]; omega) | (simp only [setL_length]; omega) | (simp only [setL_length, List.length_map]; omega) | (exact ⟨by omega, by omega, by first | exact Nat.le_of_ble_eq_true rfl | (dsimp only; omega) | (simp only [setL_length]; omega) | (simp only [setL_length, List.length_map]; omega)⟩) | (exact ⟨by omega, by first | rfl | omega, by omega, Nat.le_of_ble_eq_true rfl, Nat.le_of_ble_eq_true rfl⟩) | (exact ⟨rfl, rfl, rfl, Nat.le_of_ble_eq_true rfl, by first | rfl | omega | exact Nat.le_of_ble_eq_true rfl | (dsimp only; omega) | (simp; done) | (simp; omega), by first | rfl | omega | exact Nat.le_of_ble_eq_true rfl | (dsimp only; omega) | (simp; done) | (simp; omega), by omega, Nat.le_of_ble_eq_true rfl⟩) | exact Eq.refl true) ?_) | refine Exists.intro _ (And.intro rfl ?_) | refine And.intro (And.intro rfl (chk_rowI _ _ _ _)) ?_ | refine br_t (by omega) ?_ | refine br_f (by omega) ?_ | refine bs_t (by omega) ?_ | refine bs_f (by omega) ?_ | refine fun (K' : K3) hK' => ?_ | (refine hK' _ _ _ ?_; clear hK' K') | refine draw_auto tok mixed (by kernel_rfl) ?_ | refine CallK.val (R := [(0, some 0)]) hc (by kernel_rfl) rfl (by simp [V.wf, A.wf, C.wf, V.i]) ⟨roE_f (k := .vec 59 2) (flat_c [(0, 1), (1, 2), (0, 2)]) (l := 0) rfl (by omega) rfl (.inr rfl), trivial⟩ rfl rfl (by simp [V.wf, A.wf, C.wf]) ?_ | refine bs_bt (Eq.refl true) ?_ | refine bs_bf (Eq.refl false) ?_ | refine br_bt (Eq.refl true) ?_ | refine br_bf (Eq.refl false) ?_ | refine CallK.m ?_ | refine Two.l ?_ | refine And.intro (And.intro rfl rfl) ?_)
  intro ρ; rfl
section
variable {n0 nx : Nat} {L : List E} {K : V → List E → Nat → Prop}
theorem awake_k (hK : K (V.c (.bool true)) [] nx) : CallK Tryd.prog n0 16 [] L nx K :=
  CallK.val (R := []) awake_spec (by kernel_rfl) rfl (by simp) trivial rfl rfl trivial hK
theorem wide_k {N : Int} {n a : Nat} (hn : n < 9223372036854775808) (hK : K (V.c (.bool (decide ((n : Int) > 60)))) [] nx) : CallK Tryd.prog n0 14 [V.agg [C.i N, C.sl a n]] L nx K :=
  CallK.val (R := [(0, some a)]) (wide_spec N n hn) (by kernel_rfl) rfl (by simp [V.wf, A.wf, C.wf]) trivial rfl rfl trivial hK
end
end Go.Proofs.YtijnimgmpocmaaaDoor

/- Waste: the law of pairs. -/
namespace Go.Proofs.YtijnimgmpocmaaaDoor
open Go.RowKit
set_option linter.unusedVariables false
set_option linter.unusedSimpArgs false
section
variable (N x : Int) (ps : List Cell)
theorem pairs_long (hps : ps.length < 9223372036854775808) (h1 : (ps.length : Int) > 60) :
    Spec Tryd.prog 5 [V.agg [C.i N, C.sl 0 ps.length], V.c (.int .u8 x)] [⟨0, .ro 2, cellC ps⟩] 1 (Is (V.c (.bool true))) := by
  refine Spec.of tok Tryd.func5 rfl rfl rfl fun n0 cx => vc_ok tok ?_
  repeat ((conv => whnf); first | (refine And.intro (by first | omega | exact Nat.le_of_ble_eq_true rfl | (dsimp only [inK]; omega) | (simp only [mulS_eq]; omega) | (simp only [mulS_eq, setL_length]; omega) | (simp only [setL_length]; omega) | (simp only [setL_length, List.length_map]; omega) | (exact ⟨by omega, by omega, by first | exact Nat.le_of_ble_eq_true rfl | (dsimp only; omega) | (simp only [setL_length]; omega) | (simp only [setL_length, List.length_map]; omega)⟩) | (exact ⟨by omega, by first | rfl | omega, by omega, Nat.le_of_ble_eq_true rfl, Nat.le_of_ble_eq_true rfl⟩) | (exact ⟨rfl, rfl, rfl, Nat.le_of_ble_eq_true rfl, by first | rfl | omega | exact Nat.le_of_ble_eq_true rfl | (dsimp only; omega) | (simp; done) | (simp; omega), by first | rfl | omega | exact Nat.le_of_ble_eq_true rfl | (dsimp only; omega) | (simp; done) | (simp; omega), by omega, Nat.le_of_ble_eq_true rfl⟩) | exact Eq.refl true) ?_) | refine Exists.intro _ (And.intro rfl ?_) | refine And.intro (And.intro rfl (chk_rowI _ _ _ _)) ?_ | refine br_t (by omega) ?_ | refine br_f (by omega) ?_ | refine bs_t (by omega) ?_ | refine bs_f (by omega) ?_ | refine fun (K' : K3) hK' => ?_ | (refine hK' _ _ _ ?_; clear hK' K') | refine draw_auto tok mixed (by kernel_rfl) ?_ | refine wide_k hps ?_ | refine bs_t h1 ?_ | refine br_t h1 ?_ | refine awake_k ?_ | refine bs_bt (Eq.refl true) ?_ | refine bs_bf (Eq.refl false) ?_ | refine br_bt (Eq.refl true) ?_ | refine br_bf (Eq.refl false) ?_ | refine CallK.m ?_ | refine Two.l ?_ | refine And.intro (And.intro rfl rfl) ?_)
  intro ρ; rfl
set_option maxRecDepth 10000 in
theorem pairs_no (h1 : ¬ (ps.length : Int) > 60) (h : okK' N ps = false ∨ okK' N ps = true ∧ ps.length = 0) :
    Spec Tryd.prog 5 [V.agg [C.i N, C.sl 0 ps.length], V.c (.int .u8 x)] [⟨0, .ro 2, cellC ps⟩] 1 (Is (V.c (.bool true))) := by
  have k6 := rvalid_spec N ps (by omega)
  refine Spec.of tok Tryd.func5 rfl rfl rfl fun n0 cx => vc_ok tok ?_
  rcases h with hv | ⟨hv, h0⟩
  · rw [hv] at k6
    repeat ((conv => whnf); first | (refine And.intro (by first | omega | exact Nat.le_of_ble_eq_true rfl | (dsimp only [inK]; omega) | (simp only [mulS_eq]; omega) | (simp only [mulS_eq, setL_length]; omega) | (simp only [setL_length]; omega) | (simp only [setL_length, List.length_map]; omega) | (exact ⟨by omega, by omega, by first | exact Nat.le_of_ble_eq_true rfl | (dsimp only; omega) | (simp only [setL_length]; omega) | (simp only [setL_length, List.length_map]; omega)⟩) | (exact ⟨by omega, by first | rfl | omega, by omega, Nat.le_of_ble_eq_true rfl, Nat.le_of_ble_eq_true rfl⟩) | (exact ⟨rfl, rfl, rfl, Nat.le_of_ble_eq_true rfl, by first | rfl | omega | exact Nat.le_of_ble_eq_true rfl | (dsimp only; omega) | (simp; done) | (simp; omega), by first | rfl | omega | exact Nat.le_of_ble_eq_true rfl | (dsimp only; omega) | (simp; done) | (simp; omega), by omega, Nat.le_of_ble_eq_true rfl⟩) | exact Eq.refl true) ?_) | refine Exists.intro _ (And.intro rfl ?_) | refine And.intro (And.intro rfl (chk_rowI _ _ _ _)) ?_ | refine br_t (by omega) ?_ | refine br_f (by omega) ?_ | refine bs_t (by omega) ?_ | refine bs_f (by omega) ?_ | refine fun (K' : K3) hK' => ?_ | (refine hK' _ _ _ ?_; clear hK' K') | refine draw_auto tok mixed (by kernel_rfl) ?_ | refine wide_k (by omega) ?_ | refine bs_f h1 ?_ | refine br_f h1 ?_ | refine CallK.val (R := []) k6 (by kernel_rfl) rfl (by simp [V.wf, A.wf, C.wf]) ⟨roE_f (flat_c _) (l := 0) rfl (by omega) rfl (.inr rfl), trivial⟩ rfl rfl trivial ?_ | refine awake_k ?_ | refine bs_bt (Eq.refl true) ?_ | refine bs_bf (Eq.refl false) ?_ | refine br_bt (Eq.refl true) ?_ | refine br_bf (Eq.refl false) ?_ | refine CallK.m ?_ | refine Two.l ?_ | refine And.intro (And.intro rfl rfl) ?_)
    intro ρ; rfl
  · rw [hv] at k6
    have h0' : (ps.length : Int) = 0 := by omega
    repeat ((conv => whnf); first | (refine And.intro (by first | omega | exact Nat.le_of_ble_eq_true rfl | (dsimp only [inK]; omega) | (simp only [mulS_eq]; omega) | (simp only [mulS_eq, setL_length]; omega) | (simp only [setL_length]; omega) | (simp only [setL_length, List.length_map]; omega) | (exact ⟨by omega, by omega, by first | exact Nat.le_of_ble_eq_true rfl | (dsimp only; omega) | (simp only [setL_length]; omega) | (simp only [setL_length, List.length_map]; omega)⟩) | (exact ⟨by omega, by first | rfl | omega, by omega, Nat.le_of_ble_eq_true rfl, Nat.le_of_ble_eq_true rfl⟩) | (exact ⟨rfl, rfl, rfl, Nat.le_of_ble_eq_true rfl, by first | rfl | omega | exact Nat.le_of_ble_eq_true rfl | (dsimp only; omega) | (simp; done) | (simp; omega), by first | rfl | omega | exact Nat.le_of_ble_eq_true rfl | (dsimp only; omega) | (simp; done) | (simp; omega), by omega, Nat.le_of_ble_eq_true rfl⟩) | exact Eq.refl true) ?_) | refine Exists.intro _ (And.intro rfl ?_) | refine And.intro (And.intro rfl (chk_rowI _ _ _ _)) ?_ | refine br_t (by omega) ?_ | refine br_f (by omega) ?_ | refine bs_t (by omega) ?_ | refine bs_f (by omega) ?_ | refine fun (K' : K3) hK' => ?_ | (refine hK' _ _ _ ?_; clear hK' K') | refine draw_auto tok mixed (by kernel_rfl) ?_ | refine wide_k (by omega) ?_ | refine bs_f h1 ?_ | refine br_f h1 ?_ | refine CallK.val (R := []) k6 (by kernel_rfl) rfl (by simp [V.wf, A.wf, C.wf]) ⟨roE_f (flat_c _) (l := 0) rfl (by omega) rfl (.inr rfl), trivial⟩ rfl rfl trivial ?_ | refine bs_t h0' ?_ | refine br_t h0' ?_ | refine awake_k ?_ | refine bs_bt (Eq.refl true) ?_ | refine bs_bf (Eq.refl false) ?_ | refine br_bt (Eq.refl true) ?_ | refine br_bf (Eq.refl false) ?_ | refine CallK.m ?_ | refine Two.l ?_ | refine And.intro (And.intro rfl rfl) ?_)
    intro ρ; rfl
end
set_option maxRecDepth 10000 in
set_option maxHeartbeats 16000000 in
theorem pairs_yes (n : Nat) (x : Int) (qs : List (Nat × Nat)) (hk : Knd n qs) (hx : 0 ≤ x ∧ x ≤ 255) (h0 : 0 < qs.length) :
    Spec Tryd.prog 5 [V.agg [C.i n, C.sl 0 (castP qs).length], V.c (.int .u8 x)] [⟨0, .ro 2, cellC (castP qs)⟩] 1 (Is (V.c (.bool true))) := by
  have hpl := castP_len qs
  have hql := knd_len hk
  have h1 : ¬ ((castP qs).length : Int) > 60 := by omega
  have h2 : ¬ ((castP qs).length : Int) = 0 := by omega
  have k6 := rvalid_spec n (castP qs) (by omega)
  rw [knd_ok hk] at k6
  obtain ⟨i, hi⟩ : ∃ i : Nat, x % ((castP qs).length : Int) = i := ⟨(x % ((castP qs).length : Int)).toNat, by have := Int.emod_nonneg x (show ((castP qs).length : Int) ≠ 0 by omega); omega⟩
  have hil : i < qs.length := by have := Int.emod_lt_of_pos x (show 0 < ((castP qs).length : Int) by omega); omega
  have hil2 : i < (castP qs).length := by omega
  have hpe := pairE_ok hk hil
  rw [← hi] at hpe
  have hke := hk.erase i
  have hkj := jnQ_knd hk hil
  have hrng := hk.rng
  obtain ⟨m, rfl⟩ : ∃ m, n = m + 1 := ⟨n - 1, by omega⟩
  have hp1 := poly_spec (m + 1) qs hk
  have hp2 := poly_spec (m + 1) (qs.eraseIdx i) hke
  have hp3 := poly_spec m (jnQ (m + 1) qs i) hkj
  have hjs := joined_spec (m + 1) qs hk i hil
  rw [Nat.add_sub_cancel] at hjs hkj
  rw [← hi] at hjs
  have hce : (castP qs).eraseIdx i = castP (qs.eraseIdx i) := castP_erase qs i
  have hel : (castP (qs.eraseIdx i)).length = (castP qs).length - 1 := by rw [castP_len, castP_len, List.length_eraseIdx_of_lt hil]
  rw [hel] at hp2
  have hli1 := light_spec (pol (m + 1) qs) (m + 1) hrng.2 (pol_bd hk)
  have hli2 := light_spec (pol (m + 1) (qs.eraseIdx i)) (m + 1) hrng.2 (pol_bd hke)
  have hli3 := light_spec (pol m (jnQ (m + 1) qs i)) m (by omega) (pol_bd hkj)
  have hm1 : ((m : Nat) : Int) = ((m + 1 : Nat) : Int) - 1 := by omega
  rw [show V.i ((m : Nat) : Int) = V.i (((m + 1 : Nat) : Int) - 1) from congrArg V.i hm1] at hli3
  have hlaw := pair_law hk hil
  rw [Nat.add_sub_cancel] at hlaw
  have hhi : pol m (jnQ (m + 1) qs i) (m + 1) = 0 := pol_high hkj (by omega)
  have hb2 : ∀ d, -600000 ≤ pol (m + 1) (qs.eraseIdx i) d ∧ pol (m + 1) (qs.eraseIdx i) d ≤ 600000 := pol_bd hke
  have hb3 : ∀ d, -600000 ≤ pol m (jnQ (m + 1) qs i) d ∧ pol m (jnQ (m + 1) qs i) d ≤ 600000 := pol_bd hkj
  obtain ⟨f1, hf1⟩ : ∃ f, f = pol (m + 1) qs := ⟨_, rfl⟩
  obtain ⟨f2, hf2⟩ : ∃ f, f = pol (m + 1) (qs.eraseIdx i) := ⟨_, rfl⟩
  obtain ⟨f3, hf3⟩ : ∃ f, f = pol m (jnQ (m + 1) qs i) := ⟨_, rfl⟩
  obtain ⟨jq, hjq⟩ : ∃ q, q = castP (jnQ (m + 1) qs i) := ⟨_, rfl⟩
  rw [← hf1] at hp1 hli1 hlaw
  rw [← hf2] at hp2 hli2 hlaw hb2
  rw [← hf3] at hp3 hli3 hlaw hhi hb3
  rw [← hjq] at hp3 hjs
  clear hf1 hf2 hf3 hjq
  have hn1 : ¬ (((m + 1 : Nat) : Int) ≠ ((m + 1 : Nat) : Int)) := fun h => h rfl
  have hn2 : ¬ (((m : Nat) : Int) ≠ ((m + 1 : Nat) : Int) - 1) := by omega
  have hll1 : ((fnL f1 (m + 1 + 1)).map C.i).length = m + 2 := by rw [List.length_map, fnL_len]
  have hll2 : ((fnL f2 (m + 1 + 1)).map C.i).length = m + 2 := by rw [List.length_map, fnL_len]
  have hll3 : ((fnL f3 (m + 1)).map C.i).length = m + 1 := by rw [List.length_map, fnL_len]
  refine Spec.of tok Tryd.func5 rfl rfl rfl fun n0 cx => vc_ok tok ?_
  repeat ((conv => whnf); first | (refine And.intro (by first | omega | exact Nat.le_of_ble_eq_true rfl | (dsimp only [inK]; omega) | (simp only [mulS_eq]; omega) | (simp only [mulS_eq, setL_length]; omega) | (simp only [setL_length]; omega) | (simp only [setL_length, List.length_map]; omega) | (exact ⟨by omega, by omega, by first | exact Nat.le_of_ble_eq_true rfl | (dsimp only; omega) | (simp only [setL_length]; omega) | (simp only [setL_length, List.length_map]; omega)⟩) | (exact ⟨by omega, by first | rfl | omega, by omega, Nat.le_of_ble_eq_true rfl, Nat.le_of_ble_eq_true rfl⟩) | (exact ⟨rfl, rfl, rfl, Nat.le_of_ble_eq_true rfl, by first | rfl | omega | exact Nat.le_of_ble_eq_true rfl | (dsimp only; omega) | (simp; done) | (simp; omega), by first | rfl | omega | exact Nat.le_of_ble_eq_true rfl | (dsimp only; omega) | (simp; done) | (simp; omega), by omega, Nat.le_of_ble_eq_true rfl⟩) | exact Eq.refl true) ?_) | refine Exists.intro _ (And.intro rfl ?_) | refine And.intro (And.intro rfl (chk_rowI _ _ _ _)) ?_ | refine br_t (by omega) ?_ | refine br_f (by omega) ?_ | refine bs_t (by omega) ?_ | refine bs_f (by omega) ?_ | refine fun (K' : K3) hK' => ?_ | (refine hK' _ _ _ ?_; clear hK' K') | refine draw_auto tok mixed (by kernel_rfl) ?_ | refine wide_k (by omega) ?_ | refine bs_f h1 ?_ | refine br_f h1 ?_ | refine CallK.val (R := []) k6 (by kernel_rfl) rfl (by simp [V.wf, A.wf, C.wf]) ⟨roE_f (flat_c _) (l := 0) rfl (by omega) rfl (.inr rfl), trivial⟩ rfl rfl trivial ?_ | refine bs_f h2 ?_ | refine br_f h2 ?_ | refine CallK.rowE (R := []) (flat_i _) hp1 (by kernel_rfl) rfl (by simp [V.wf, A.wf, C.wf]) ⟨roE_f (flat_c _) (l := 0) rfl (by omega) rfl (.inr rfl), trivial⟩ rfl ?_ | refine without_k i hi (by omega) hil2 hpe (.inl rfl) rfl ?_ | refine CallK.rowA (R := []) (flat_c _) hjs (by kernel_rfl) rfl (by simp [V.wf, A.wf, C.wf, V.i]) ⟨roE_f (flat_c _) (l := 0) rfl (by omega) rfl (.inr rfl), trivial⟩ rfl ?_ | refine bs_f hn1 ?_ | refine br_f hn1 ?_ | refine bs_f hn2 ?_ | refine br_f hn2 ?_ | refine CallK.rowE (R := [(0, some 3)]) (flat_i _) hp2 (by kernel_rfl) rfl (by simp [V.wf, A.wf, C.wf]) ⟨roE_fe (flat_c _) (l := 3) rfl (by omega) rfl (.inr rfl) (congrArg cellC hce), trivial⟩ rfl ?_ | refine CallK.rowE (R := [(0, some 5)]) (flat_i _) hp3 (by kernel_rfl) rfl (by simp [V.wf, A.wf, C.wf]) ⟨roE_f (flat_c _) (l := 5) rfl (by omega) rfl (.inr rfl), trivial⟩ rfl ?_ | refine CallK.val (R := [(0, some 2)]) hli1 (by kernel_rfl) rfl (by simp [V.wf, A.wf, C.wf, V.i]) ⟨roE_f (flat_i _) (l := 2) rfl (by omega) rfl (.inl rfl), trivial⟩ rfl rfl trivial ?_ | refine CallK.val (R := [(0, some 7)]) hli2 (by kernel_rfl) rfl (by simp [V.wf, A.wf, C.wf, V.i]) ⟨roE_f (flat_i _) (l := 7) rfl (by omega) rfl (.inl rfl), trivial⟩ rfl rfl trivial ?_ | refine CallK.val (R := [(0, some 8)]) hli3 (by kernel_rfl) rfl (by simp [V.wf, A.wf, C.wf, V.i]) ⟨roE_f (flat_i _) (l := 8) rfl (by omega) rfl (.inl rfl), trivial⟩ rfl rfl trivial ?_ | refine bs_bt (Eq.refl true) ?_ | refine bs_bf (Eq.refl false) ?_ | refine br_bt (Eq.refl true) ?_ | refine br_bf (Eq.refl false) ?_ | refine CallK.m ?_ | refine Two.l ?_ | refine And.intro (And.intro rfl rfl) ?_)
  refine Tri.loop (γ := Nat) (fun k => k ≤ m + 2) (fun k => [(6, V.c (.sl 2 (m + 1 + 1))), (12, V.c (.sl 7 (m + 1 + 1))), (13, V.c (.sl 8 (m + 1))), (117, V.i ((m + 1 + 1 : Nat) : Int)), (118, V.i (k : Nat))])
    (fun k => [⟨8, .vec 3 1, (fnL f3 (m + 1)).map C.i⟩, ⟨7, .vec 3 1, (fnL f2 (m + 1 + 1)).map C.i⟩, ⟨2, .vec 3 1, (fnL f1 (m + 1 + 1)).map C.i⟩]) 9 (fun k => m + 2 - k) 0 (R0 := []) ?_ ?_ ?_
  · omega
  · skip
    refine ⟨?_, ?_, rfl, rfl, by first | exact Nat.le_of_ble_eq_true rfl | exact Nat.le_refl _ | omega⟩
    · repeat (first | exact trivial | (refine And.intro (covS_syn (by rfl) rfl (by first | exact trivial | exact Nat.le_of_ble_eq_true rfl | exact hy | (first | ((show ∀ p ∈ (_ : List (Nat × Nat)), p.1 < _); decide) | exact (fun p hp => nomatch hp)) | (show (_ : Nat) < _; omega))) ?_) | refine And.intro (covS_bool rfl rfl (by rfl)) ?_)
    · repeat (first | exact trivial | (refine And.intro (covE_id (Nat.le_of_ble_eq_true rfl) (by first | exact wf_ints _ _ | exact wf_bools _ _ | first | exact wf_us _ _ | exact wf_cells _ _ | (simp [C.wf]; done) | simp [C.wf]) rfl (by rfl)) ?_))
  · intro k hkl
    refine vc_ok tok ?_
    by_cases hlt : k < m + 2
    · have hd1 : ((fnL f1 (m + 1 + 1)).map C.i)[mulS ((k : Nat) : Int).toNat 1]? = some (C.i (f1 k)) := by rw [← fnL_get (f := f1) hlt]; exact intLz rfl (by rw [fnL_len]; omega)
      have hd2 : ((fnL f2 (m + 1 + 1)).map C.i)[mulS ((k : Nat) : Int).toNat 1]? = some (C.i (f2 k)) := by rw [← fnL_get (f := f2) hlt]; exact intLz rfl (by rw [fnL_len]; omega)
      by_cases hk3 : k < m + 1
      · have hd3 : ((fnL f3 (m + 1)).map C.i)[mulS ((k : Nat) : Int).toNat 1]? = some (C.i (f3 k)) := by rw [← fnL_get (f := f3) hk3]; exact intLz rfl (by rw [fnL_len]; omega)
        have hne : ¬ f1 k ≠ f2 k - f3 k := fun h => h (hlaw k)
        have q2 := hb2 k; have q3 := hb3 k
        have hc : ((k : Nat) : Int) < ((m + 1 : Nat) : Int) := by omega
        repeat ((conv => whnf); first | (refine And.intro (by first | omega | exact Nat.le_of_ble_eq_true rfl | (dsimp only [inK]; omega) | (simp only [mulS_eq]; omega) | (simp only [mulS_eq, setL_length]; omega) | (simp only [setL_length]; omega) | (simp only [setL_length, List.length_map]; omega) | (exact ⟨by omega, by omega, by first | exact Nat.le_of_ble_eq_true rfl | (dsimp only; omega) | (simp only [setL_length]; omega) | (simp only [setL_length, List.length_map]; omega)⟩) | (exact ⟨by omega, by first | rfl | omega, by omega, Nat.le_of_ble_eq_true rfl, Nat.le_of_ble_eq_true rfl⟩) | (exact ⟨rfl, rfl, rfl, Nat.le_of_ble_eq_true rfl, by first | rfl | omega | exact Nat.le_of_ble_eq_true rfl | (dsimp only; omega) | (simp; done) | (simp; omega), by first | rfl | omega | exact Nat.le_of_ble_eq_true rfl | (dsimp only; omega) | (simp; done) | (simp; omega), by omega, Nat.le_of_ble_eq_true rfl⟩) | exact Eq.refl true) ?_) | with_reducible refine ld (hd1) ?_ | with_reducible refine ld (hd2) ?_ | with_reducible refine ld (hd3) ?_ | refine Exists.intro _ (And.intro rfl ?_) | refine And.intro (And.intro rfl (chk_rowI _ _ _ _)) ?_ | refine br_t (by omega) ?_ | refine br_f (by omega) ?_ | refine bs_t (by omega) ?_ | refine bs_f (by omega) ?_ | refine fun (K' : K3) hK' => ?_ | (refine hK' _ _ _ ?_; clear hK' K') | refine draw_auto tok mixed (by kernel_rfl) ?_ | refine bs_t hc ?_ | refine br_t hc ?_ | refine bs_f hne ?_ | refine br_f hne ?_ | refine bs_bt (Eq.refl true) ?_ | refine bs_bf (Eq.refl false) ?_ | refine br_bt (Eq.refl true) ?_ | refine br_bf (Eq.refl false) ?_ | refine CallK.m ?_ | refine Two.l ?_ | refine And.intro (And.intro rfl rfl) ?_)
        refine ⟨k + 1, [], by omega, by omega, ?_⟩
        refine ⟨?_, ?_, rfl, rfl, by first | exact Nat.le_of_ble_eq_true rfl | exact Nat.le_refl _ | omega⟩
        · repeat (first | exact trivial | (refine And.intro (covS_syn (by first | rfl | (refine congrArg some (congrArg V.i ?_); omega)) rfl (by first | exact trivial | exact Nat.le_of_ble_eq_true rfl | exact hy | (first | ((show ∀ p ∈ (_ : List (Nat × Nat)), p.1 < _); decide) | exact (fun p hp => nomatch hp)) | (show (_ : Nat) < _; omega))) ?_) | refine And.intro (covS_bool rfl rfl (by rfl)) ?_)
        · repeat (first | exact trivial | (refine And.intro (covE_id (Nat.le_of_ble_eq_true rfl) (by first | exact wf_ints _ _ | exact wf_bools _ _ | first | exact wf_us _ _ | exact wf_cells _ _ | (simp [C.wf]; done) | simp [C.wf]) rfl (by rfl)) ?_))
      · obtain rfl : k = m + 1 := by omega
        have hne : ¬ f1 (m + 1) ≠ f2 (m + 1) - 0 := fun h => h (by have := hlaw (m + 1); rw [hhi] at this; exact this)
        have q2 := hb2 (m + 1)
        have hc : ¬ ((m + 1 : Nat) : Int) < ((m + 1 : Nat) : Int) := by omega
        repeat ((conv => whnf); first | (refine And.intro (by first | omega | exact Nat.le_of_ble_eq_true rfl | (dsimp only [inK]; omega) | (simp only [mulS_eq]; omega) | (simp only [mulS_eq, setL_length]; omega) | (simp only [setL_length]; omega) | (simp only [setL_length, List.length_map]; omega) | (exact ⟨by omega, by omega, by first | exact Nat.le_of_ble_eq_true rfl | (dsimp only; omega) | (simp only [setL_length]; omega) | (simp only [setL_length, List.length_map]; omega)⟩) | (exact ⟨by omega, by first | rfl | omega, by omega, Nat.le_of_ble_eq_true rfl, Nat.le_of_ble_eq_true rfl⟩) | (exact ⟨rfl, rfl, rfl, Nat.le_of_ble_eq_true rfl, by first | rfl | omega | exact Nat.le_of_ble_eq_true rfl | (dsimp only; omega) | (simp; done) | (simp; omega), by first | rfl | omega | exact Nat.le_of_ble_eq_true rfl | (dsimp only; omega) | (simp; done) | (simp; omega), by omega, Nat.le_of_ble_eq_true rfl⟩) | exact Eq.refl true) ?_) | with_reducible refine ld (hd1) ?_ | with_reducible refine ld (hd2) ?_ | refine Exists.intro _ (And.intro rfl ?_) | refine And.intro (And.intro rfl (chk_rowI _ _ _ _)) ?_ | refine br_t (by omega) ?_ | refine br_f (by omega) ?_ | refine bs_t (by omega) ?_ | refine bs_f (by omega) ?_ | refine fun (K' : K3) hK' => ?_ | (refine hK' _ _ _ ?_; clear hK' K') | refine draw_auto tok mixed (by kernel_rfl) ?_ | refine bs_f hc ?_ | refine br_f hc ?_ | refine bs_f hne ?_ | refine br_f hne ?_ | refine bs_bt (Eq.refl true) ?_ | refine bs_bf (Eq.refl false) ?_ | refine br_bt (Eq.refl true) ?_ | refine br_bf (Eq.refl false) ?_ | refine CallK.m ?_ | refine Two.l ?_ | refine And.intro (And.intro rfl rfl) ?_)
        refine ⟨m + 2, [], by omega, by omega, ?_⟩
        refine ⟨?_, ?_, rfl, rfl, by first | exact Nat.le_of_ble_eq_true rfl | exact Nat.le_refl _ | omega⟩
        · repeat (first | exact trivial | (refine And.intro (covS_syn (by first | rfl | (refine congrArg some (congrArg V.i ?_); omega)) rfl (by first | exact trivial | exact Nat.le_of_ble_eq_true rfl | exact hy | (first | ((show ∀ p ∈ (_ : List (Nat × Nat)), p.1 < _); decide) | exact (fun p hp => nomatch hp)) | (show (_ : Nat) < _; omega))) ?_) | refine And.intro (covS_bool rfl rfl (by rfl)) ?_)
        · repeat (first | exact trivial | (refine And.intro (covE_id (Nat.le_of_ble_eq_true rfl) (by first | exact wf_ints _ _ | exact wf_bools _ _ | first | exact wf_us _ _ | exact wf_cells _ _ | (simp [C.wf]; done) | simp [C.wf]) rfl (by rfl)) ?_))
    · obtain rfl : k = m + 2 := by omega
      repeat ((conv => whnf); first | (refine And.intro (by first | omega | exact Nat.le_of_ble_eq_true rfl | (dsimp only [inK]; omega) | (simp only [mulS_eq]; omega) | (simp only [mulS_eq, setL_length]; omega) | (simp only [setL_length]; omega) | (simp only [setL_length, List.length_map]; omega) | (exact ⟨by omega, by omega, by first | exact Nat.le_of_ble_eq_true rfl | (dsimp only; omega) | (simp only [setL_length]; omega) | (simp only [setL_length, List.length_map]; omega)⟩) | (exact ⟨by omega, by first | rfl | omega, by omega, Nat.le_of_ble_eq_true rfl, Nat.le_of_ble_eq_true rfl⟩) | (exact ⟨rfl, rfl, rfl, Nat.le_of_ble_eq_true rfl, by first | rfl | omega | exact Nat.le_of_ble_eq_true rfl | (dsimp only; omega) | (simp; done) | (simp; omega), by first | rfl | omega | exact Nat.le_of_ble_eq_true rfl | (dsimp only; omega) | (simp; done) | (simp; omega), by omega, Nat.le_of_ble_eq_true rfl⟩) | exact Eq.refl true) ?_) | refine Exists.intro _ (And.intro rfl ?_) | refine And.intro (And.intro rfl (chk_rowI _ _ _ _)) ?_ | refine br_t (by omega) ?_ | refine br_f (by omega) ?_ | refine bs_t (by omega) ?_ | refine bs_f (by omega) ?_ | refine fun (K' : K3) hK' => ?_ | (refine hK' _ _ _ ?_; clear hK' K') | refine draw_auto tok mixed (by kernel_rfl) ?_ | refine awake_k ?_ | refine bs_bt (Eq.refl true) ?_ | refine bs_bf (Eq.refl false) ?_ | refine br_bt (Eq.refl true) ?_ | refine br_bf (Eq.refl false) ?_ | refine CallK.m ?_ | refine Two.l ?_ | refine And.intro (And.intro rfl rfl) ?_)
      intro ρ; rfl
theorem pairs_any (N x : Int) (ps : List Cell) (ao : Option Addr) (c : Nat) (w : World) (h : CellsAt w ao c ps) (hx : 0 ≤ x ∧ x ≤ 255) (hF : Fct w.heap.size w) :
    Calls Tryd.prog 5 #[.agg #[.int .i64 N, .slice ao ps.length c], .int .u8 x] w fun e w' => e = .returned (.bool true) ∧ Below w.heap.size w w' := by
  by_cases hl : (ps.length : Int) > 60
  · exact isTrue_any (vs := [V.agg [C.i N, C.sl 0 ps.length], V.c (.int .u8 x)]) (pairs_long N x ps h.2.2 hl) (hp_k h hF) (by simp [V.wf, A.wf, C.wf]) rfl
  · cases hv : okK' N ps with
    | false => exact isTrue_any (vs := [V.agg [C.i N, C.sl 0 ps.length], V.c (.int .u8 x)]) (pairs_no N x ps hl (.inl hv)) (hp_k h hF) (by simp [V.wf, A.wf, C.wf]) rfl
    | true =>
      by_cases h0 : ps.length = 0
      · exact isTrue_any (vs := [V.agg [C.i N, C.sl 0 ps.length], V.c (.int .u8 x)]) (pairs_no N x ps hl (.inr ⟨hv, h0⟩)) (hp_k h hF) (by simp [V.wf, A.wf, C.wf]) rfl
      · obtain ⟨n, qs, rfl, rfl, hk⟩ := knd_of hv
        rw [castP_len] at h0
        exact isTrue_any (vs := [V.agg [C.i n, C.sl 0 (castP qs).length], V.c (.int .u8 x)]) (pairs_yes n x qs hk hx (by omega)) (hp_k h hF) (by simp [V.wf, A.wf, C.wf]) rfl
end Go.Proofs.YtijnimgmpocmaaaDoor

/- Waste: what the listed variables give; a start that meets the condition. -/
namespace Go.Proofs.YtijnimgmpocmaaaDoor
open Go.RowKit
set_option linter.unusedVariables false
set_option linter.unusedSimpArgs false
open Go.ChangeShapes Go.WideShapes Go.ChangeAt Go.RowKit Go.Deep Go.Joins
abbrev laidV : List (String × DataW Unit) := [("math/bits.deBruijn32tab", Rows.laid_math_bits_deBruijn32tab), ("math/bits.deBruijn64tab", Rows.laid_math_bits_deBruijn64tab)]
theorem gTab : Tryd.prog.globalNamed "math/bits.deBruijn64tab" = some 1 := by kernel_rfl
theorem tTab : (Tryd.prog.globals[1]?).map (·.type) = some 120 := by kernel_rfl
theorem tabDat : (Rows.laid_math_bits_deBruijn64tab (H := Unit)) = .agg (Lib.deBruijn64tab.map fun n : Nat => .lit (.int .u8 n)) := rfl
set_option maxRecDepth 10000 in
theorem fct_of_laid {W : World} (h : laidMetH Tryd.prog laidV W) : Fct W.heap.size W := by
  have h' : laidMet Tryd.prog laidV W := h
  obtain ⟨ps, ⟨_, _, _, _, _, _, _, _, _, _, ⟨g, t, cs, fuel, p, q, hg, ht, hv, hd, _⟩, _⟩, _⟩ := h'
  obtain rfl := Option.some.inj (gTab.symm.trans hg)
  obtain rfl := Option.some.inj (tTab.symm.trans ht)
  rw [tabDat] at hd
  obtain ⟨xs, m, _, hx, hl, hxl, hgo⟩ := DataW.trod_array Tryd.underlying120 hd
  have hc1 : Tryd.prog.cellsOf 5 = 1 := by kernel_rfl
  have hc64 : Tryd.prog.cellsOf 120 = 64 := by kernel_rfl
  rw [hc64] at hl
  have hcell : ∀ j, j < Lib.deBruijn64tab.length → W.cell? ⟨1, j, none⟩ = some (.int .u8 (Lib.deBruijn64tab.getD j 0)) := by
    intro j hj
    have hj64 : j < 64 := hj
    have h3 := hgo j hj64
    rw [hc1, Nat.mul_one] at h3
    obtain ⟨y, hy⟩ : ∃ y, xs[j]? = some y := ⟨xs[j]'(by omega), List.getElem?_eq_getElem _⟩
    rw [hy] at h3
    obtain ⟨u, hu⟩ : ∃ u, cs.toList[j]? = some u := ⟨cs.toList[j]'(by omega), List.getElem?_eq_getElem _⟩
    have e1 : (cs.toList.drop j).take 1 = [u] := by
      rw [List.take_one, List.head?_drop, hu]; rfl
    rw [e1] at h3
    obtain ⟨z, e0, e2, _⟩ := DataW.trod_int Tryd.underlying5 h3
    have e0 : u = .int .u8 z := by simpa using e0
    have hxm : xs.map (·.1) = Lib.deBruijn64tab.map fun n : Nat => (DataW.lit (.int .u8 n) : DataW Unit) := by
      have := congrArg Prod.fst hx
      simp only [DataW.agg.injEq] at this
      exact this.symm
    have hym : (xs.map (·.1))[j]? = some y.1 := by rw [List.getElem?_map, hy]; rfl
    rw [hxm, List.getElem?_map] at hym
    have hz : (DataW.lit (.int .u8 (Lib.deBruijn64tab.getD j 0 : Nat)) : DataW Unit) = y.1 := by
      rw [List.getElem?_eq_getElem hj] at hym
      simp only [Option.map_some, Option.some.injEq] at hym
      rw [← hym, List.getD_eq_getElem?_getD, List.getElem?_eq_getElem hj]; rfl
    have hzz : (Lib.deBruijn64tab.getD j 0 : Int) = z := by
      rw [e2] at hz
      simpa using hz
    have hw := World.var?_cell gTab hv j
    rw [hw]
    have : cs[j]? = some u := by rw [← Array.getElem?_toList]; exact hu
    rw [this, e0, hzz]
  have h0 := hcell 0 (by decide)
  have hlt := World.block_lt_of_cell? _ _ h0
  refine ⟨hlt, ?_⟩
  have h1 := h0
  unfold World.cell? at h1
  cases hb : W.heap[1]? with
  | none => simp [hb] at h1
  | some o =>
    cases o with
    | cells c t fr => exact ⟨c, t, fr, rfl, hcell⟩
    | _ => simp [hb] at h1
theorem door_met (os : Os) (args : Array Value) : laidMetH Tryd.prog laidV ((World.doorLaid Tryd.prog 19 os).forCall (fun _ _ => 0) ⟨#[], args, []⟩).memory :=
  laidMetH_of_parts3 (fuel := 8) (laidMet_of_run' 8 (by kernel_rfl) (by kernel_rfl)) (by kernel_rfl) (by kernel_rfl)
end Go.Proofs.YtijnimgmpocmaaaDoor

