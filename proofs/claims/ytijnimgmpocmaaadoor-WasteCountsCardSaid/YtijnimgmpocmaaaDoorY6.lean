/- Texts of the proof, part 6: J2, J3, J4, V2, V3, V4, L0, L6, D1. -/
import Derived.Test.YtijnimgmpocmaaaDoorY5
import Derived.WalkKit
import Derived.Below
import Derived.Lib.TrailingZeros
import Derived.Laws.OwnMore
import Derived.Maps.AppendAt
import Derived.Laws.IdiomCopy
import Derived.Laws.CopyRow
import Derived.IntWalk
import Derived.StillTail
import Derived.Scope
import Derived.ChangeKeysEq
import Derived.Laws.Small
import Derived.OrdersIn
import Derived.TacticsIn
import Derived.OwnWalkIn
import Derived.RangeFuncNested
import Derived.RangeFuncLeaves
import Derived.RangeFuncRecord
import Derived.Maps.Keyed
import Derived.Maps.RangeRun
import Derived.DeepKeys4
import Derived.Test.YtijnimgmpocmaaaDoorRows
import Derived.KernelRfl
import Derived.Shelf.Spec.TrailingZeros
import Derived.PlainAid
import Derived.StillTailTactics
import Derived.WalkSpells
import Derived.OwnWalk
import Derived.Deep.RegionLaw
import Derived.Lib.SliceRun
import Derived.Deep.OwnRows
import Derived.LoopTactic
import Derived.Lib.Hide
import Derived.ProofKit
import Derived.OpenShut
import Derived.Lib.SmallJoins
import Derived.Deep.Slices
import Derived.Deep.RegionHeld3
import Derived.LaidMore
import Derived.Stop.Joined
/- Waste: Joined. -/
namespace Go.Proofs.YtijnimgmpocmaaaDoor
open Go.RowKit
set_option linter.unusedVariables false
set_option linter.unusedSimpArgs false
def jn1 (u v : Nat) (t : List Nat) (p : Nat × Nat) : List Nat :=
  if nam u v p.1 = nam u v p.2 then t else (t.set (nam u v p.1) (t.getD (nam u v p.1) 0 ||| 2 ^ nam u v p.2)).set (nam u v p.2) (t.getD (nam u v p.2) 0 ||| 2 ^ nam u v p.1)
def jnK (n u v : Nat) (qs : List (Nat × Nat)) : Nat → List Nat
  | 0 => List.replicate (n - 1) 0
  | k + 1 => jn1 u v (jnK n u v qs k) (qs.getD k (0, 0))
/-- The pairs of the joined kinds. -/
def jnQ (n : Nat) (qs : List (Nat × Nat)) (i : Nat) : List (Nat × Nat) := prK (jnK n (qs.getD i (0, 0)).1 (qs.getD i (0, 0)).2 qs qs.length) (n - 1)
def rowA (t z m : Nat) (N : Int) (cs : List C) (v : V) (L' : List E) : Prop := ∃ lab, v = V.tup [A.agg [C.i N, .sl lab m], A.c (C.i 0)] ∧ find L' lab = some ⟨lab, .vec t z, cs⟩
section
variable {P : Program} {n0 nx nac : Nat} {f : FuncId} {vs vs' : List V} {Lc L : List E} {R : Rn} {K : V → List E → Nat → Prop}
theorem CallK.rowA {t z m : Nat} {N : Int} {cs : List C} (hfl : FlatC cs) (spec : Spec P f vs Lc nac (fun v L' _ => rowA t z m N cs v L')) (hok : callB P f = true)
    (hv : renVs R vs = some vs') (hvw : ∀ v ∈ vs, v.wf nac) (hL : roL R nac L Lc) (hLc : injB [] Lc = true)
    (hK : K (V.tup [A.agg [C.i N, .sl nx m], A.c (C.i 0)]) [⟨nx, .vec t z, cs⟩] (nx + 1)) : CallK P n0 f vs' L nx K := by
  refine CallK.mk' hok spec hv hvw hL hLc ?_
  rintro v L' nx' hw ⟨lab, rfl, hf⟩
  refine ⟨V.tup [A.agg [C.i N, .sl nx m], A.c (C.i 0)], [⟨nx, .vec t z, cs⟩], nx + 1, [(nx, some lab)], ⟨Nat.le_succ _, ?_, ?_, ⟨covE_some (renL_one _ _) (Nat.lt_succ_self nx) (hfl.wf _) hf (hfl.ren _), trivial⟩, rfl, ?_⟩, hK⟩
  · simp [V.ren, A.ren, C.ren, renL_one, C.i, seqO]
  · simp [V.chk, A.chk, C.chk, inLab_one, C.i]
  · simp only [List.all_cons, List.all_nil, Bool.and_true, inLab_one, Kd.isRo, Bool.not_false, Bool.true_and]
    exact hfl.chk _
end
end Go.Proofs.YtijnimgmpocmaaaDoor

/- Waste, plain: the joined kinds. -/
namespace Go.Proofs.YtijnimgmpocmaaaDoor
open Go.RowKit
set_option linter.unusedVariables false
set_option linter.unusedSimpArgs false
section
variable {n : Nat} {qs : List (Nat × Nat)} {i : Nat}
theorem pol_bd (hk : Knd n qs) (d : Nat) : -600000 ≤ pol n qs d ∧ pol n qs d ≤ 600000 := polyP_bd _ (by rw [tabS_len]; exact hk.rng.2) d
end
end Go.Proofs.YtijnimgmpocmaaaDoor

/- Waste: light. -/
namespace Go.Proofs.YtijnimgmpocmaaaDoor
open Go.RowKit
set_option linter.unusedVariables false
set_option linter.unusedSimpArgs false
set_option maxHeartbeats 4000000 in
theorem light_spec (f : Nat → Int) (n : Nat) (hn : n ≤ 8) (hf : ∀ k, -600000 ≤ f k ∧ f k ≤ 600000) : Spec Tryd.prog 34 [V.c (.sl 0 (n + 1)), V.i (n : Nat)] [⟨0, .ro 0, (fnL f (n + 1)).map C.i⟩] 1 (Is (V.c (.bool true))) := by
  have hfl : (fnL f (n + 1)).length = n + 1 := fnL_len _ _
  refine Spec.of tok Tryd.func34 rfl rfl rfl fun n0 cx => vc_ok tok ?_
  repeat ((conv => whnf); first | (refine And.intro (by first | omega | exact Nat.le_of_ble_eq_true rfl | (dsimp only [inK]; omega) | (simp only [mulS_eq]; omega) | (simp only [mulS_eq, setL_length]; omega) | (simp only [setL_length]; omega) | (simp only [setL_length, List.length_map]; omega) | (exact ⟨by omega, by omega, by first | exact Nat.le_of_ble_eq_true rfl | (dsimp only; omega) | (simp only [setL_length]; omega) | (simp only [setL_length, List.length_map]; omega)⟩) | (exact ⟨by omega, by first | rfl | omega, by omega, Nat.le_of_ble_eq_true rfl, Nat.le_of_ble_eq_true rfl⟩) | (exact ⟨rfl, rfl, rfl, Nat.le_of_ble_eq_true rfl, by first | rfl | omega | exact Nat.le_of_ble_eq_true rfl | (dsimp only; omega) | (simp; done) | (simp; omega), by first | rfl | omega | exact Nat.le_of_ble_eq_true rfl | (dsimp only; omega) | (simp; done) | (simp; omega), by omega, Nat.le_of_ble_eq_true rfl⟩) | exact Eq.refl true) ?_) | refine Exists.intro _ (And.intro rfl ?_) | refine And.intro (And.intro rfl (chk_rowI _ _ _ _)) ?_ | refine br_t (by omega) ?_ | refine br_f (by omega) ?_ | refine bs_t (by omega) ?_ | refine bs_f (by omega) ?_ | refine fun (K' : K3) hK' => ?_ | (refine hK' _ _ _ ?_; clear hK' K') | refine draw_auto tok mixed (by kernel_rfl) ?_ | refine bs_bt (Eq.refl true) ?_ | refine bs_bf (Eq.refl false) ?_ | refine br_bt (Eq.refl true) ?_ | refine br_bf (Eq.refl false) ?_ | refine CallK.m ?_ | refine Two.l ?_ | refine And.intro (And.intro rfl rfl) ?_)
  refine Tri.loop (γ := Nat) (fun k => k ≤ n + 1) (fun k => [(0, V.c (.sl 0 (n + 1))), (1, V.i (n : Nat)), (7, V.c (.sl 0 (n + 1))), (8, V.i ((n + 1 : Nat) : Int)), (9, V.i (k : Nat))])
    (fun k => [⟨0, .ro 0, (fnL f (n + 1)).map C.i⟩]) 1 (fun k => n + 1 - k) 0 (R0 := []) ?_ ?_ ?_
  · omega
  · skip
    refine ⟨?_, ?_, rfl, rfl, by first | exact Nat.le_of_ble_eq_true rfl | exact Nat.le_refl _ | omega⟩
    · repeat (first | exact trivial | (refine And.intro (covS_syn (by rfl) rfl (by first | exact trivial | exact Nat.le_of_ble_eq_true rfl | exact hy | (first | ((show ∀ p ∈ (_ : List (Nat × Nat)), p.1 < _); decide) | exact (fun p hp => nomatch hp)) | (show (_ : Nat) < _; omega))) ?_) | refine And.intro (covS_bool rfl rfl (by rfl)) ?_)
    · repeat (first | exact trivial | (refine And.intro (covE_id (Nat.le_of_ble_eq_true rfl) (by first | exact wf_ints _ _ | exact wf_bools _ _ | first | exact wf_us _ _ | exact wf_cells _ _ | (simp [C.wf]; done) | simp [C.wf]) rfl (by rfl)) ?_))
  · intro k hk
    refine vc_ok tok ?_
    by_cases hlt : k < n + 1
    · have hg : (fnL f (n + 1)).getD k 0 = f k := fnL_get hlt
      have hld : ((fnL f (n + 1)).map C.i)[mulS ((k : Nat) : Int).toNat 1]? = some (C.i (f k)) := by rw [← hg]; exact intLz rfl (by omega)
      have hb := hf k
      have h1 : ¬ f k < -1000000000 := by omega
      have h2 : ¬ f k > 1000000000 := by omega
      repeat ((conv => whnf); first | (refine And.intro (by first | omega | exact Nat.le_of_ble_eq_true rfl | (dsimp only [inK]; omega) | (simp only [mulS_eq]; omega) | (simp only [mulS_eq, setL_length]; omega) | (simp only [setL_length]; omega) | (simp only [setL_length, List.length_map]; omega) | (exact ⟨by omega, by omega, by first | exact Nat.le_of_ble_eq_true rfl | (dsimp only; omega) | (simp only [setL_length]; omega) | (simp only [setL_length, List.length_map]; omega)⟩) | (exact ⟨by omega, by first | rfl | omega, by omega, Nat.le_of_ble_eq_true rfl, Nat.le_of_ble_eq_true rfl⟩) | (exact ⟨rfl, rfl, rfl, Nat.le_of_ble_eq_true rfl, by first | rfl | omega | exact Nat.le_of_ble_eq_true rfl | (dsimp only; omega) | (simp; done) | (simp; omega), by first | rfl | omega | exact Nat.le_of_ble_eq_true rfl | (dsimp only; omega) | (simp; done) | (simp; omega), by omega, Nat.le_of_ble_eq_true rfl⟩) | exact Eq.refl true) ?_) | with_reducible refine ld (hld) ?_ | refine Exists.intro _ (And.intro rfl ?_) | refine And.intro (And.intro rfl (chk_rowI _ _ _ _)) ?_ | refine br_t (by omega) ?_ | refine br_f (by omega) ?_ | refine bs_t (by omega) ?_ | refine bs_f (by omega) ?_ | refine fun (K' : K3) hK' => ?_ | (refine hK' _ _ _ ?_; clear hK' K') | refine draw_auto tok mixed (by kernel_rfl) ?_ | refine bs_f h1 ?_ | refine br_f h1 ?_ | refine bs_f h2 ?_ | refine br_f h2 ?_ | refine bs_bt (Eq.refl true) ?_ | refine bs_bf (Eq.refl false) ?_ | refine br_bt (Eq.refl true) ?_ | refine br_bf (Eq.refl false) ?_ | refine CallK.m ?_ | refine Two.l ?_ | refine And.intro (And.intro rfl rfl) ?_)
      refine ⟨k + 1, [], by omega, by omega, ?_⟩
      refine ⟨?_, ?_, rfl, rfl, by first | exact Nat.le_of_ble_eq_true rfl | exact Nat.le_refl _ | omega⟩
      · repeat (first | exact trivial | (refine And.intro (covS_syn (by first | rfl | (refine congrArg some (congrArg V.i ?_); omega)) rfl (by first | exact trivial | exact Nat.le_of_ble_eq_true rfl | exact hy | (first | ((show ∀ p ∈ (_ : List (Nat × Nat)), p.1 < _); decide) | exact (fun p hp => nomatch hp)) | (show (_ : Nat) < _; omega))) ?_) | refine And.intro (covS_bool rfl rfl (by rfl)) ?_)
      · repeat (first | exact trivial | (refine And.intro (covE_id (Nat.le_of_ble_eq_true rfl) (by first | exact wf_ints _ _ | exact wf_bools _ _ | first | exact wf_us _ _ | exact wf_cells _ _ | (simp [C.wf]; done) | simp [C.wf]) rfl (by rfl)) ?_))
    · obtain rfl : k = n + 1 := by omega
      repeat ((conv => whnf); first | (refine And.intro (by first | omega | exact Nat.le_of_ble_eq_true rfl | (dsimp only [inK]; omega) | (simp only [mulS_eq]; omega) | (simp only [mulS_eq, setL_length]; omega) | (simp only [setL_length]; omega) | (simp only [setL_length, List.length_map]; omega) | (exact ⟨by omega, by omega, by first | exact Nat.le_of_ble_eq_true rfl | (dsimp only; omega) | (simp only [setL_length]; omega) | (simp only [setL_length, List.length_map]; omega)⟩) | (exact ⟨by omega, by first | rfl | omega, by omega, Nat.le_of_ble_eq_true rfl, Nat.le_of_ble_eq_true rfl⟩) | (exact ⟨rfl, rfl, rfl, Nat.le_of_ble_eq_true rfl, by first | rfl | omega | exact Nat.le_of_ble_eq_true rfl | (dsimp only; omega) | (simp; done) | (simp; omega), by first | rfl | omega | exact Nat.le_of_ble_eq_true rfl | (dsimp only; omega) | (simp; done) | (simp; omega), by omega, Nat.le_of_ble_eq_true rfl⟩) | exact Eq.refl true) ?_) | refine Exists.intro _ (And.intro rfl ?_) | refine And.intro (And.intro rfl (chk_rowI _ _ _ _)) ?_ | refine br_t (by omega) ?_ | refine br_f (by omega) ?_ | refine bs_t (by omega) ?_ | refine bs_f (by omega) ?_ | refine fun (K' : K3) hK' => ?_ | (refine hK' _ _ _ ?_; clear hK' K') | refine draw_auto tok mixed (by kernel_rfl) ?_ | refine bs_bt (Eq.refl true) ?_ | refine bs_bf (Eq.refl false) ?_ | refine br_bt (Eq.refl true) ?_ | refine br_bf (Eq.refl false) ?_ | refine CallK.m ?_ | refine Two.l ?_ | refine And.intro (And.intro rfl rfl) ?_)
      intro ρ
      show Value.bool _ = Value.bool _
      simp
end Go.Proofs.YtijnimgmpocmaaaDoor

/- Waste: the document's IsLoading. -/
namespace Go.Proofs.YtijnimgmpocmaaaDoor
open Go.RowKit
set_option linter.unusedVariables false
set_option linter.unusedSimpArgs false
def fnB (f : Nat → Bool) (n : Nat) : List Bool := (List.range n).map f
end Go.Proofs.YtijnimgmpocmaaaDoor

/- Waste: the document's IsLoading (whole), At, and powers. -/
namespace Go.Proofs.YtijnimgmpocmaaaDoor
open Go.RowKit
set_option linter.unusedVariables false
set_option linter.unusedSimpArgs false
def rldO (N : Int) (ps : List Cell) (m : Nat) : Option Int := if okK' N ps = true then (if m = ps.length then none else some 2) else some 70
set_option maxRecDepth 10000 in
set_option maxHeartbeats 4000000 in
theorem rAt_spec (f : Nat → Int) (x : Int) (N : Nat) (hN : N ≤ 100) (hB : HornB f x N) : Spec Tryd.prog 27 [V.c (.sl 0 N), V.i x] [⟨0, .ro 0, (fnL f N).map C.i⟩] 1 (Is (V.i (horn f x 0 N))) := by
  have hlm : ((fnL f N).map C.i).length = N := by rw [List.length_map, fnL_len]
  obtain ⟨hx, hf, hh⟩ := hB
  refine Spec.of tok Tryd.func27 rfl rfl rfl fun n0 cx => vc_ok tok ?_
  repeat ((conv => whnf); first | (refine And.intro (by first | omega | (dsimp only [inK]; omega)) ?_) | refine fun (K' : K3) hK' => ?_ | (refine hK' _ _ _ ?_; clear hK' K'))
  refine Tri.loop (γ := Nat) (fun m => m ≤ N) (fun m => [(0, V.c (.sl 0 N)), (1, V.i x), (5, V.i (horn f x m (N - m))), (6, V.i ((m : Int) - 1))])
    (fun m => [⟨0, .ro 0, (fnL f N).map C.i⟩]) 1 (fun m => m) N (R0 := []) ?_ ?_ ?_
  · exact Nat.le_refl _
  · skip
    rw [Nat.sub_self]
    refine ⟨?_, ?_, rfl, rfl, by exact Nat.le_of_ble_eq_true rfl⟩
    · repeat (first | exact trivial | (refine And.intro (covS_syn (by rfl) rfl (by first | exact trivial | exact Nat.le_of_ble_eq_true rfl)) ?_))
    · repeat (first | exact trivial | refine And.intro (covE_id (Nat.le_of_ble_eq_true rfl) (by exact wf_ints _ _) rfl (by rfl)) ?_)
  · intro m hm
    refine vc_ok tok ?_
    cases m with
    | zero =>
      have h0 : ¬ (((0 : Nat) : Int) - 1 ≥ 0) := by omega
      repeat ((conv => whnf); first | refine br_f (by omega) ?_ | refine fun (K' : K3) hK' => ?_ | (refine hK' _ _ _ ?_; clear hK' K'))
      intro ρ; rfl
    | succ k =>
      have hld : ((fnL f N).map C.i)[mulS (((k + 1 : Nat) : Int) - 1).toNat 1]? = some (C.i (f k)) := by
        rw [intLz (k := k) (by omega) (by rw [fnL_len]; omega), fnL_get (by omega)]
      have hst : horn f x k (N - k) = horn f x (k + 1) (N - (k + 1)) * x + f k := by
        rw [show N - k = (N - (k + 1)) + 1 by omega]; rfl
      have h1 := hh (k + 1) hm
      have h2 := hh k (by omega)
      have h3 := mul_bd (A := 100000000000000000) (B := 20) h1 hx (by omega) (by omega)
      have h4 := hf k (by omega)
      rw [hst] at h2
      have hge : ((k + 1 : Nat) : Int) - 1 ≥ 0 := by omega
      have hs1 : ((k + 1 : Nat) : Int) - 1 - 1 = (k : Int) - 1 := by omega
      repeat ((conv => whnf); first | (refine And.intro (by first | omega | (dsimp only [inK]; omega)) ?_) | with_reducible refine ld (hld) ?_ | refine br_t (by omega) ?_ | refine fun (K' : K3) hK' => ?_ | (refine hK' _ _ _ ?_; clear hK' K'))
      refine ⟨k, [], by omega, by omega, ?_⟩
      rw [hst]
      refine ⟨?_, ?_, rfl, rfl, by exact Nat.le_of_ble_eq_true rfl⟩
      · repeat (first | exact trivial | (refine And.intro (covS_syn (by first | rfl | (refine congrArg some (congrArg V.i ?_); omega)) rfl (by first | exact trivial | exact Nat.le_of_ble_eq_true rfl)) ?_))
      · repeat (first | exact trivial | refine And.intro (covE_id (Nat.le_of_ble_eq_true rfl) (by exact wf_ints _ _) rfl (by rfl)) ?_)
end Go.Proofs.YtijnimgmpocmaaaDoor

/- Waste, plain: what the top law says of counts and loadings. -/
namespace Go.Proofs.YtijnimgmpocmaaaDoor
open Go.RowKit
set_option linter.unusedVariables false
set_option linter.unusedSimpArgs false
section
variable {n : Nat} {qs : List (Nat × Nat)} {i : Nat}
end
end Go.Proofs.YtijnimgmpocmaaaDoor

/- Waste: what the laws share: Wide, Awake. -/
namespace Go.Proofs.YtijnimgmpocmaaaDoor
open Go.RowKit
set_option linter.unusedVariables false
set_option linter.unusedSimpArgs false
theorem wide_spec (N : Int) (n : Nat) (hn : n < 9223372036854775808) : Spec Tryd.prog 14 [V.agg [C.i N, C.sl 0 n]] [] 1 (Is (V.c (.bool (decide ((n : Int) > 60))))) := by
  refine Spec.of tok Tryd.func14 rfl rfl rfl fun n0 cx => vc_ok tok ?_
  repeat ((conv => whnf); first | (refine And.intro (by first | omega | exact Nat.le_of_ble_eq_true rfl | (dsimp only [inK]; omega) | (simp only [mulS_eq]; omega) | (simp only [mulS_eq, setL_length]; omega) | (simp only [setL_length]; omega) | (simp only [setL_length, List.length_map]; omega) | (exact ⟨by omega, by omega, by first | exact Nat.le_of_ble_eq_true rfl | (dsimp only; omega) | (simp only [setL_length]; omega) | (simp only [setL_length, List.length_map]; omega)⟩) | (exact ⟨by omega, by first | rfl | omega, by omega, Nat.le_of_ble_eq_true rfl, Nat.le_of_ble_eq_true rfl⟩) | (exact ⟨rfl, rfl, rfl, Nat.le_of_ble_eq_true rfl, by first | rfl | omega | exact Nat.le_of_ble_eq_true rfl | (dsimp only; omega) | (simp; done) | (simp; omega), by first | rfl | omega | exact Nat.le_of_ble_eq_true rfl | (dsimp only; omega) | (simp; done) | (simp; omega), by omega, Nat.le_of_ble_eq_true rfl⟩) | exact Eq.refl true) ?_) | refine Exists.intro _ (And.intro rfl ?_) | refine And.intro (And.intro rfl (chk_rowI _ _ _ _)) ?_ | refine br_t (by omega) ?_ | refine br_f (by omega) ?_ | refine bs_t (by omega) ?_ | refine bs_f (by omega) ?_ | refine fun (K' : K3) hK' => ?_ | (refine hK' _ _ _ ?_; clear hK' K') | refine draw_auto tok mixed (by kernel_rfl) ?_ | refine bs_bt (Eq.refl true) ?_ | refine bs_bf (Eq.refl false) ?_ | refine br_bt (Eq.refl true) ?_ | refine br_bf (Eq.refl false) ?_ | refine CallK.m ?_ | refine Two.l ?_ | refine And.intro (And.intro rfl rfl) ?_)
  intro ρ; rfl
theorem three_knd : Knd 3 [(0, 1), (1, 2), (0, 2)] := ⟨by omega, fun p hp => by simp only [List.mem_cons, List.not_mem_nil, or_false] at hp; rcases hp with rfl | rfl | rfl <;> simp, by decide⟩
theorem three_cnt : cntO 3 [(0, 1), (1, 2), (0, 2)] 3 = 6 := by decide +kernel
set_option maxRecDepth 10000 in
theorem awake_spec : Spec Tryd.prog 16 [] [] 0 (Is (V.c (.bool true))) := by
  have hc := count_spec 3 3 [(0, 1), (1, 2), (0, 2)] three_knd
  rw [if_pos (by omega), three_cnt] at hc
  have hc : Spec Tryd.prog 25 [V.agg [C.i 3, C.sl 0 3], V.i 3] [⟨0, .ro 2, [C.i 0, C.i 1, C.i 1, C.i 2, C.i 0, C.i 2]⟩] 1 (Is (V.tup [A.c (C.i 6), A.c (C.i 0)])) := hc
  refine Spec.of tok Tryd.func16 rfl rfl rfl fun n0 cx => vc_ok tok ?_
  repeat ((conv => whnf); first | (refine And.intro (by first | omega | exact Nat.le_of_ble_eq_true rfl | (dsimp only [inK]; omega) | (simp only [mulS_eq]; omega) | (simp only [mulS_eq, setL_length]; omega) | (simp only [setL_length]; omega) | (simp only [setL_length, List.length_map]; omega) | (exact ⟨by omega, by omega, by first | exact Nat.le_of_ble_eq_true rfl | (dsimp only; omega) | (simp only [setL_length]; omega) | (simp only [setL_length, List.length_map]; omega)⟩) | (exact ⟨by omega, by first | rfl | omega, by omega, Nat.le_of_ble_eq_true rfl, Nat.le_of_ble_eq_true rfl⟩) | (exact ⟨rfl, rfl, rfl, Nat.le_of_ble_eq_true rfl, by first | rfl | omega | exact Nat.le_of_ble_eq_true rfl | (dsimp only; omega) | (simp; done) | (simp; omega), by first | rfl | omega | exact Nat.le_of_ble_eq_true rfl | (dsimp only; omega) | (simp; done) | (simp; omega), by omega, Nat.le_of_ble_eq_true rfl⟩) | exact Eq.refl true) ?_) | refine Exists.intro _ (And.intro rfl ?_) | refine And.intro (And.intro rfl (chk_rowI _ _ _ _)) ?_ | refine br_t (by omega) ?_ | refine br_f (by omega) ?_ | refine bs_t (by omega) ?_ | refine bs_f (by omega) ?_ | refine fun (K' : K3) hK' => ?_ | (refine hK' _ _ _ ?_; clear hK' K') | refine draw_auto tok mixed (by kernel_rfl) ?_ | refine CallK.val (R := [(0, some 0)]) hc (by kernel_rfl) rfl (by simp [V.wf, A.wf, C.wf, V.i]) ⟨roE_f (k := .vec 59 2) (flat_c [(0, 1), (1, 2), (0, 2)]) (l := 0) rfl (by omega) rfl (.inr rfl), trivial⟩ rfl rfl (by simp [V.wf, A.wf, C.wf]) ?_ | refine bs_bt (Eq.refl true) ?_ | refine bs_bf (Eq.refl false) ?_ | refine br_bt (Eq.refl true) ?_ | refine br_bf (Eq.refl false) ?_ | refine CallK.m ?_ | refine Two.l ?_ | refine And.intro (And.intro rfl rfl) ?_)
  intro ρ; rfl
section
variable {n0 nx : Nat} {L : List E} {K : V → List E → Nat → Prop}
theorem awake_k (hK : K (V.c (.bool true)) [] nx) : CallK Tryd.prog n0 16 [] L nx K :=
  CallK.val (R := []) awake_spec (by kernel_rfl) rfl (by simp) trivial rfl rfl trivial hK
theorem wide_k {N : Int} {n a : Nat} (hn : n < 9223372036854775808) (hK : K (V.c (.bool (decide ((n : Int) > 60)))) [] nx) : CallK Tryd.prog n0 14 [V.agg [C.i N, C.sl a n]] L nx K :=
  CallK.val (R := [(0, some a)]) (wide_spec N n hn) (by kernel_rfl) rfl (by simp [V.wf, A.wf, C.wf]) trivial rfl rfl trivial hK
end
end Go.Proofs.YtijnimgmpocmaaaDoor

/- Waste: the law of counts. -/
namespace Go.Proofs.YtijnimgmpocmaaaDoor
open Go.RowKit
set_option linter.unusedVariables false
set_option linter.unusedSimpArgs false
section
variable (N x : Int) (ps : List Cell)
theorem counts_long (hps : ps.length < 9223372036854775808) (h1 : (ps.length : Int) > 60) :
    Spec Tryd.prog 6 [V.agg [C.i N, C.sl 0 ps.length], V.c (.int .u8 x)] [⟨0, .ro 2, cellC ps⟩] 1 (Is (V.c (.bool true))) := by
  refine Spec.of tok Tryd.func6 rfl rfl rfl fun n0 cx => vc_ok tok ?_
  repeat ((conv => whnf); first | refine Exists.intro _ (And.intro rfl ?_) | refine bs_t (by omega) ?_ | refine fun (K' : K3) hK' => ?_ | (refine hK' _ _ _ ?_; clear hK' K') | refine wide_k hps ?_ | refine awake_k ?_ | refine CallK.m ?_)
  intro ρ; rfl
set_option maxRecDepth 10000 in
theorem counts_no (h1 : ¬ (ps.length : Int) > 60) (hv : okK' N ps = false) :
    Spec Tryd.prog 6 [V.agg [C.i N, C.sl 0 ps.length], V.c (.int .u8 x)] [⟨0, .ro 2, cellC ps⟩] 1 (Is (V.c (.bool true))) := by
  have k6 := rvalid_spec N ps (by omega)
  rw [hv] at k6
  refine Spec.of tok Tryd.func6 rfl rfl rfl fun n0 cx => vc_ok tok ?_
  repeat ((conv => whnf); first | refine Exists.intro _ (And.intro rfl ?_) | refine bs_f (by omega) ?_ | refine fun (K' : K3) hK' => ?_ | (refine hK' _ _ _ ?_; clear hK' K') | refine wide_k (by omega) ?_ | (refine CallK.val (R := []) k6 (by kernel_rfl) rfl (by simp [V.wf, A.wf, C.wf, V.i]) ⟨roE_f (flat_c _) (l := 0) rfl (by omega) rfl (.inr rfl), trivial⟩ rfl rfl (by first | trivial | simp [V.wf, A.wf, C.wf]) ?_) | refine awake_k ?_ | refine br_bt (Eq.refl true) ?_ | refine CallK.m ?_)
  intro ρ; rfl
end
set_option maxRecDepth 20000 in
set_option maxHeartbeats 64000000 in
theorem counts_yes (n : Nat) (x : Int) (qs : List (Nat × Nat)) (hk : Knd n qs) (hx : 0 ≤ x ∧ x ≤ 255) :
    Spec Tryd.prog 6 [V.agg [C.i n, C.sl 0 (castP qs).length], V.c (.int .u8 x)] [⟨0, .ro 2, cellC (castP qs)⟩] 1 (Is (V.c (.bool true))) := by
  have hpl := castP_len qs
  have hql := knd_len hk
  have hrng := hk.rng
  have h1 : ¬ ((castP qs).length : Int) > 60 := by omega
  have k6 := rvalid_spec n (castP qs) (by omega)
  rw [knd_ok hk] at k6
  have htl := tabS_len n qs
  have hB : HornB (pol n qs) (x % 21) (n + 1) := by
    have := hornB_of (tabS n qs) (by rw [htl]; exact hrng.2) (x := x % 21) (by omega)
    rw [htl] at this; exact this
  have hp1 := poly_spec n qs hk
  have hc1 := count_spec n (x % 21) qs hk
  rw [if_pos (by omega)] at hc1
  have hpt := Parts_spec n qs hk
  have hli := light_spec (pol n qs) n hrng.2 (pol_bd hk)
  have hat : Spec Tryd.prog 27 [V.c (.sl 0 (n + 1)), V.i (x % 21)] [⟨0, .ro 0, (fnL (pol n qs) (n + 1)).map C.i⟩] 1 (Is (V.i (cntO n qs (x % 21)))) := rAt_spec (pol n qs) (x % 21) (n + 1) (by omega) hB
  have hcp := parts_pos hk
  have hlow : ∀ d, d < rts n qs n → pol n qs d = 0 := fun d hd => pol_low hk hd
  have hnz : ∀ d, rts n qs n ≤ d → d ≤ n → pol n qs d ≠ 0 := fun d h h2 => pol_nz hk h h2
  have halt : ∀ d, rts n qs n ≤ d → d < n → (decide (pol n qs d > 0) == decide (pol n qs (d + 1) > 0)) = false := fun d h h2 => pol_alt hk h h2
  have h_one := pol_one hk
  have h_nil := pol_nil hk
  have h_two := pol_two hk
  have hplt : ∀ y, y < n → prt n qs y < rts n qs n := fun y hy => prt_lt hk hy
  obtain ⟨y0, hy0, hy1⟩ := prt_onto hk (j := rts n qs n - 1) (Nat.le_refl n) (by omega)
  obtain ⟨c, hcc⟩ : ∃ c, c = rts n qs n := ⟨_, rfl⟩
  obtain ⟨pf, hpf⟩ : ∃ pf, pf = pol n qs := ⟨_, rfl⟩
  obtain ⟨g, hg⟩ : ∃ g, g = prt n qs := ⟨_, rfl⟩
  obtain ⟨ct, hct⟩ : ∃ ct, ct = cntO n qs (x % 21) := ⟨_, rfl⟩
  rw [← hcc] at hcp hlow hnz halt hplt hy1
  rw [← hpf] at hp1 hli hat hlow hnz halt h_one h_nil h_two
  rw [← hg] at hpt hplt hy1
  rw [← hct] at hc1 hat
  have hpm : ((fnL pf (n + 1)).map C.i).length = n + 1 := by rw [List.length_map, fnL_len]
  have hgm : ((ptL n g).map C.i).length = n := by rw [List.length_map, ptL_len]
  have hln : ((fnL pf (n + 1)).map C.i)[mulS ((n : Nat) : Int).toNat 1]? = some (C.i (pf n)) := by rw [intLz rfl (by rw [fnL_len]; omega), fnL_get (by omega)]
  have hl0 : ((fnL pf (n + 1)).map C.i)[mulS (Int.toNat 0) 1]? = some (C.i (pf 0)) := by
    have := intLz (l := fnL pf (n + 1)) (k := 0) (z := 0) rfl (by rw [fnL_len]; omega)
    rw [this, fnL_get (by omega)]
  have hlm : ((fnL pf (n + 1)).map C.i)[mulS ((n : Int) - 1).toNat 1]? = some (C.i (pf (n - 1))) := by rw [intLz (k := n - 1) (by omega) (by rw [fnL_len]; omega), fnL_get (by omega)]
  rw [h_one] at hln
  rw [h_nil] at hl0
  rw [h_two] at hlm
  have e1 : ¬ ((n : Nat) : Int) ≠ n := fun h => h rfl
  have e2 : ¬ ct ≠ ct := fun h => h rfl
  have e3 : ¬ (1 : Int) ≠ 1 := fun h => h rfl
  have e4 : ¬ (0 : Int) ≠ 0 := fun h => h rfl
  have e5 : ¬ (-(qs.length : Int) ≠ -((castP qs).length : Int)) := by omega
  refine Spec.of tok Tryd.func6 rfl rfl rfl fun n0 cx => vc_ok tok ?_
  repeat ((conv => whnf); first | (refine And.intro (by first | omega | exact Nat.le_of_ble_eq_true rfl | (dsimp only [inK]; omega)) ?_) | with_reducible refine ld (hln) ?_ | with_reducible refine ld (hl0) ?_ | with_reducible refine ld (hlm) ?_ | refine Exists.intro _ (And.intro rfl ?_) | refine br_f (by omega) ?_ | refine bs_f (by omega) ?_ | refine fun (K' : K3) hK' => ?_ | (refine hK' _ _ _ ?_; clear hK' K') | refine draw_auto tok mixed (by kernel_rfl) ?_ | refine wide_k (by omega) ?_ | (refine CallK.val (R := []) k6 (by kernel_rfl) rfl (by simp [V.wf, A.wf, C.wf, V.i]) ⟨roE_f (flat_c _) (l := 0) rfl (by omega) rfl (.inr rfl), trivial⟩ rfl rfl (by first | trivial | simp [V.wf, A.wf, C.wf]) ?_) | refine CallK.rowE (R := []) (flat_i _) hp1 (by kernel_rfl) rfl (by simp [V.wf, A.wf, C.wf, V.i]) ⟨roE_f (flat_c _) (l := 0) rfl (by omega) rfl (.inr rfl), trivial⟩ rfl ?_ | (refine CallK.val (R := []) hc1 (by kernel_rfl) rfl (by simp [V.wf, A.wf, C.wf, V.i]) ⟨roE_f (flat_c _) (l := 0) rfl (by omega) rfl (.inr rfl), trivial⟩ rfl rfl (by first | trivial | simp [V.wf, A.wf, C.wf]) ?_) | refine CallK.rowE (R := []) (flat_i _) hpt (by kernel_rfl) rfl (by simp [V.wf, A.wf, C.wf, V.i]) ⟨roE_f (flat_c _) (l := 0) rfl (by omega) rfl (.inr rfl), trivial⟩ rfl ?_ | (refine HD_mk (fun _ h => CallK.val (R := [(0, some 2)]) hli (by kernel_rfl) rfl (by simp [V.wf, A.wf, C.wf, V.i]) ⟨roE_f (flat_i _) (l := 2) rfl (by omega) rfl (.inl rfl), trivial⟩ rfl rfl (by first | trivial | simp [V.wf, A.wf, C.wf]) h) ?_) | (refine HD_mk (fun _ h => CallK.val (R := [(0, some 2)]) hat (by kernel_rfl) rfl (by simp [V.wf, A.wf, C.wf, V.i]) ⟨roE_f (flat_i _) (l := 2) rfl (by omega) rfl (.inl rfl), trivial⟩ rfl rfl (by first | trivial | simp [V.wf, A.wf, C.wf]) h) ?_) | refine bs_f e3 ?_ | refine br_f e3 ?_ | refine CallK.m ?_)
  refine Tri.loop (γ := Nat × Nat) (fun s => s.1 ≤ n ∧ (∀ y, y < s.1 → g y ≤ s.2) ∧ ((s.1 = 0 ∧ s.2 = 0) ∨ ∃ y, y < s.1 ∧ g y = s.2)) (fun s => [(2, V.c (.ptr 1 0)), (5, V.c (.sl 2 (n + 1))), (12, V.i (s.2 : Nat)), (13, V.i 0), (102, V.c (.sl 3 n)), (103, V.i n), (104, V.i (s.1 : Nat))])
    (fun s => [⟨3, .vec 3 1, (ptL n g).map C.i⟩, ⟨2, .vec 3 1, (fnL pf (n + 1)).map C.i⟩, ⟨1, .own 24, [C.i n, .sl 0 (castP qs).length]⟩]) 4 (fun s => n - s.1) (0, 0) (R0 := []) ?_ ?_ ?_
  · exact ⟨Nat.zero_le _, fun y hy => by simp only at hy; omega, .inl ⟨rfl, rfl⟩⟩
  · skip
    refine ⟨?_, ?_, rfl, rfl, by exact Nat.le_of_ble_eq_true rfl⟩
    · repeat (first | exact trivial | (refine And.intro (covS_syn (by rfl) rfl (by first | exact trivial | exact Nat.le_of_ble_eq_true rfl)) ?_))
    · repeat (first | exact trivial | (refine And.intro (covE_id (Nat.le_of_ble_eq_true rfl) (by first | exact wf_ints _ _ | first | exact wf_us _ _ | exact wf_cells _ _ | (simp [C.wf]; done)) rfl (by rfl)) ?_))
  · rintro ⟨k, m⟩ ⟨i1, i2, i3⟩
    simp only at i1 i2 i3 ⊢
    refine vc_ok tok ?_
    by_cases hlt : k < n
    · have hlg : ((ptL n g).map C.i)[mulS ((k : Nat) : Int).toNat 1]? = some (C.i ((g k : Nat) : Int)) := by rw [intLz rfl (by rw [ptL_len]; omega), ptL_get hlt]
      have hmx : (if ((g k : Nat) : Int) > (m : Nat) then ((g k : Nat) : Int) else (m : Nat)) = ((max m (g k) : Nat) : Int) := by
        simp only [Nat.max_def]; split <;> split <;> omega
      repeat ((conv => whnf); first | (refine And.intro (by first | omega | (dsimp only [inK]; omega)) ?_) | with_reducible refine ld (hlg) ?_ | refine br_t (by omega) ?_ | refine fun (K' : K3) hK' => ?_ | (refine hK' _ _ _ ?_; clear hK' K'))
      refine ⟨(k + 1, max m (g k)), [], ⟨by simp only; omega, fun y hy => ?_, .inr ?_⟩, by simp only; omega, ?_⟩
      · simp only at hy ⊢
        by_cases h : y = k
        · rw [h]; exact Nat.le_max_right _ _
        · exact Nat.le_trans (i2 y (by omega)) (Nat.le_max_left _ _)
      · simp only
        by_cases h : m ≤ g k
        · exact ⟨k, by omega, (Nat.max_eq_right h).symm⟩
        · rcases i3 with ⟨h1, h2⟩ | ⟨y, h1, h2⟩
          · omega
          · exact ⟨y, by omega, by rw [h2]; exact (Nat.max_eq_left (by omega)).symm⟩
      refine ⟨?_, ?_, rfl, rfl, by exact Nat.le_of_ble_eq_true rfl⟩
      · repeat (first | exact trivial | (refine And.intro (covS_syn (by first | rfl | (refine congrArg some (congrArg V.i ?_); first | exact hmx | omega)) rfl (by first | exact trivial | exact Nat.le_of_ble_eq_true rfl)) ?_))
      · repeat (first | exact trivial | (refine And.intro (covE_id (Nat.le_of_ble_eq_true rfl) (by first | exact wf_ints _ _ | first | exact wf_us _ _ | exact wf_cells _ _ | (simp [C.wf]; done)) rfl (by rfl)) ?_))
    · obtain rfl : k = n := by omega
      have hmc : m = c - 1 := by
        have h4 := i2 y0 hy0
        rcases i3 with ⟨h1, h2⟩ | ⟨y, h1, h2⟩
        · omega
        · have := hplt y h1; omega
      subst hmc
      clear i2 i3 hy1 hplt
      repeat ((conv => whnf); first | refine br_f (by omega) ?_ | refine fun (K' : K3) hK' => ?_ | (refine hK' _ _ _ ?_; clear hK' K'))
      refine Tri.loop (γ := Nat) (fun d => d ≤ c) (fun d => [(2, V.c (.ptr 1 0)), (5, V.c (.sl 2 (k + 1))), (12, V.i ((c - 1 : Nat) : Int)), (13, V.i (d : Nat))])
        (fun d => [⟨3, .vec 3 1, (ptL k g).map C.i⟩, ⟨2, .vec 3 1, (fnL pf (k + 1)).map C.i⟩, ⟨1, .own 24, [C.i k, .sl 0 (castP qs).length]⟩]) 4 (fun d => c - d) 0 (R0 := []) ?_ ?_ ?_
      · omega
      · skip
        refine ⟨?_, ?_, rfl, rfl, by exact Nat.le_of_ble_eq_true rfl⟩
        · repeat (first | exact trivial | (refine And.intro (covS_syn (by rfl) rfl (by first | exact trivial | exact Nat.le_of_ble_eq_true rfl)) ?_))
        · repeat (first | exact trivial | (refine And.intro (covE_id (Nat.le_of_ble_eq_true rfl) (by first | exact wf_ints _ _ | first | exact wf_us _ _ | exact wf_cells _ _ | (simp [C.wf]; done)) rfl (by rfl)) ?_))
      · intro d hd
        refine vc_ok tok ?_
        have hld : d ≤ k → ((fnL pf (k + 1)).map C.i)[mulS ((d : Nat) : Int).toNat 1]? = some (C.i (pf d)) := fun h => by rw [intLz rfl (by rw [fnL_len]; omega), fnL_get (by omega)]
        by_cases hdc : d < c
        · have hld' := hld (by omega)
          rw [hlow d hdc] at hld'
          have hz : (0 : Int) = 0 := rfl
          repeat ((conv => whnf); first | (refine And.intro (by first | omega | exact Nat.le_of_ble_eq_true rfl | (dsimp only [inK]; omega)) ?_) | with_reducible refine ld (hld') ?_ | refine Exists.intro _ (And.intro rfl ?_) | refine br_t (by omega) ?_ | refine fun (K' : K3) hK' => ?_ | (refine hK' _ _ _ ?_; clear hK' K'))
          refine ⟨d + 1, [], by omega, by omega, ?_⟩
          refine ⟨?_, ?_, rfl, rfl, by exact Nat.le_of_ble_eq_true rfl⟩
          · repeat (first | exact trivial | (refine And.intro (covS_syn (by rfl) rfl (by first | exact trivial | exact Nat.le_of_ble_eq_true rfl)) ?_))
          · repeat (first | exact trivial | (refine And.intro (covE_id (Nat.le_of_ble_eq_true rfl) (by first | exact wf_ints _ _ | first | exact wf_us _ _ | exact wf_cells _ _ | (simp [C.wf]; done)) rfl (by rfl)) ?_))
        · obtain rfl : d = c := by omega
          have hfm : ¬ ((d : Nat) : Int) ≠ ((d - 1 : Nat) : Int) + 1 := by omega
          by_cases hdk : d < k
          · have hld' := hld (by omega)
            have hz : ¬ pf d = 0 := hnz d (by omega) (by omega)
            repeat ((conv => whnf); first | (refine And.intro (by first | omega | exact Nat.le_of_ble_eq_true rfl | (dsimp only [inK]; omega)) ?_) | with_reducible refine ld (hld') ?_ | refine Exists.intro _ (And.intro rfl ?_) | refine br_t (by omega) ?_ | refine br_f (by omega) ?_ | refine fun (K' : K3) hK' => ?_ | (refine hK' _ _ _ ?_; clear hK' K'))
            refine Tri.loop (γ := Nat) (fun e => d ≤ e ∧ e ≤ k) (fun e => [(2, V.c (.ptr 1 0)), (5, V.c (.sl 2 (k + 1))), (16, V.i (e : Nat))])
              (fun e => [⟨2, .vec 3 1, (fnL pf (k + 1)).map C.i⟩, ⟨1, .own 24, [C.i k, .sl 0 (castP qs).length]⟩]) 4 (fun e => k - e) d (R0 := []) ?_ ?_ ?_
            · omega
            · skip
              refine ⟨?_, ?_, rfl, rfl, by exact Nat.le_of_ble_eq_true rfl⟩
              · repeat (first | exact trivial | (refine And.intro (covS_syn (by rfl) rfl (by first | exact trivial | exact Nat.le_of_ble_eq_true rfl)) ?_))
              · repeat (first | exact trivial | (refine And.intro (covE_id (Nat.le_of_ble_eq_true rfl) (by first | exact wf_ints _ _ | first | exact wf_us _ _ | exact wf_cells _ _ | (simp [C.wf]; done)) rfl (by rfl)) ?_))
            · rintro e ⟨he1, he2⟩
              refine vc_ok tok ?_
              by_cases hek : e < k
              · have hla : ((fnL pf (k + 1)).map C.i)[mulS ((e : Nat) : Int).toNat 1]? = some (C.i (pf e)) := by rw [intLz rfl (by rw [fnL_len]; omega), fnL_get (by omega)]
                have hlb : ((fnL pf (k + 1)).map C.i)[mulS (((e : Nat) : Int) + 1).toNat 1]? = some (C.i (pf (e + 1))) := by rw [intLz (k := e + 1) (by omega) (by rw [fnL_len]; omega), fnL_get (by omega)]
                have hz : ¬ pf e = 0 := hnz e (by omega) (by omega)
                have hal := halt e (by omega) hek
                repeat ((conv => whnf); first | (refine And.intro (by first | omega | exact Nat.le_of_ble_eq_true rfl | (dsimp only [inK]; omega)) ?_) | with_reducible refine ld (hla) ?_ | with_reducible refine ld (hlb) ?_ | refine Exists.intro _ (And.intro rfl ?_) | refine br_t (by omega) ?_ | refine bs_f (by omega) ?_ | refine fun (K' : K3) hK' => ?_ | (refine hK' _ _ _ ?_; clear hK' K') | refine draw_auto tok mixed (by kernel_rfl) ?_ | refine br_bf hal ?_)
                refine ⟨e + 1, [], by omega, by omega, ?_⟩
                refine ⟨?_, ?_, rfl, rfl, by exact Nat.le_of_ble_eq_true rfl⟩
                · repeat (first | exact trivial | (refine And.intro (covS_syn (by rfl) rfl (by first | exact trivial | exact Nat.le_of_ble_eq_true rfl)) ?_))
                · repeat (first | exact trivial | (refine And.intro (covE_id (Nat.le_of_ble_eq_true rfl) (by first | exact wf_ints _ _ | first | exact wf_us _ _ | exact wf_cells _ _ | (simp [C.wf]; done)) rfl (by rfl)) ?_))
              · obtain rfl : e = k := by omega
                repeat ((conv => whnf); first | (refine And.intro (by first | omega | exact Nat.le_of_ble_eq_true rfl) ?_) | refine Exists.intro _ (And.intro rfl ?_) | refine br_f (by omega) ?_ | refine fun (K' : K3) hK' => ?_ | (refine hK' _ _ _ ?_; clear hK' K') | refine awake_k ?_ | refine CallK.m ?_)
                intro ρ; rfl
          · obtain rfl : d = k := by omega
            repeat ((conv => whnf); first | (refine And.intro (by first | omega | exact Nat.le_of_ble_eq_true rfl | (dsimp only [inK]; omega)) ?_) | refine Exists.intro _ (And.intro rfl ?_) | refine br_f (by omega) ?_ | refine fun (K' : K3) hK' => ?_ | (refine hK' _ _ _ ?_; clear hK' K'))
            refine Tri.loop (γ := Nat) (fun e => d ≤ e ∧ e ≤ d) (fun e => [(2, V.c (.ptr 1 0)), (5, V.c (.sl 2 (d + 1))), (16, V.i (e : Nat))])
              (fun e => [⟨2, .vec 3 1, (fnL pf (d + 1)).map C.i⟩, ⟨1, .own 24, [C.i d, .sl 0 (castP qs).length]⟩]) 4 (fun e => d - e) d (R0 := []) ?_ ?_ ?_
            · omega
            · skip
              refine ⟨?_, ?_, rfl, rfl, by exact Nat.le_of_ble_eq_true rfl⟩
              · repeat (first | exact trivial | (refine And.intro (covS_syn (by rfl) rfl (by first | exact trivial | exact Nat.le_of_ble_eq_true rfl)) ?_))
              · repeat (first | exact trivial | (refine And.intro (covE_id (Nat.le_of_ble_eq_true rfl) (by first | exact wf_ints _ _ | first | exact wf_us _ _ | exact wf_cells _ _ | (simp [C.wf]; done)) rfl (by rfl)) ?_))
            · rintro e ⟨he1, he2⟩
              refine vc_ok tok ?_
              by_cases hek : e < d
              · exfalso; omega
              · obtain rfl : e = d := by omega
                repeat ((conv => whnf); first | (refine And.intro (by first | omega | exact Nat.le_of_ble_eq_true rfl) ?_) | refine Exists.intro _ (And.intro rfl ?_) | refine br_f (by omega) ?_ | refine fun (K' : K3) hK' => ?_ | (refine hK' _ _ _ ?_; clear hK' K') | refine awake_k ?_ | refine CallK.m ?_)
                intro ρ; rfl
theorem counts_any (N x : Int) (ps : List Cell) (ao : Option Addr) (c : Nat) (w : World) (h : CellsAt w ao c ps) (hx : 0 ≤ x ∧ x ≤ 255) (hF : Fct w.heap.size w) :
    Calls Tryd.prog 6 #[.agg #[.int .i64 N, .slice ao ps.length c], .int .u8 x] w fun e w' => e = .returned (.bool true) ∧ Below w.heap.size w w' := by
  by_cases hl : (ps.length : Int) > 60
  · exact isTrue_any (vs := [V.agg [C.i N, C.sl 0 ps.length], V.c (.int .u8 x)]) (counts_long N x ps h.2.2 hl) (hp_k h hF) (by simp [V.wf, A.wf, C.wf]) rfl
  · cases hv : okK' N ps with
    | false => exact isTrue_any (vs := [V.agg [C.i N, C.sl 0 ps.length], V.c (.int .u8 x)]) (counts_no N x ps hl hv) (hp_k h hF) (by simp [V.wf, A.wf, C.wf]) rfl
    | true =>
      obtain ⟨n, qs, rfl, rfl, hk⟩ := knd_of hv
      exact isTrue_any (vs := [V.agg [C.i n, C.sl 0 (castP qs).length], V.c (.int .u8 x)]) (counts_yes n x qs hk hx) (hp_k h hF) (by simp [V.wf, A.wf, C.wf]) rfl
end Go.Proofs.YtijnimgmpocmaaaDoor

/- Waste: what the listed variables give; a start that meets the condition. -/
namespace Go.Proofs.YtijnimgmpocmaaaDoor
open Go.RowKit
set_option linter.unusedVariables false
set_option linter.unusedSimpArgs false
open Go.ChangeShapes Go.WideShapes Go.ChangeAt Go.RowKit Go.Deep Go.Joins
abbrev laidV : List (String × DataW Unit) := [("math/bits.deBruijn32tab", Rows.laid_math_bits_deBruijn32tab), ("math/bits.deBruijn64tab", Rows.laid_math_bits_deBruijn64tab)]
theorem gTab : Tryd.prog.globalNamed "math/bits.deBruijn64tab" = some 1 := by kernel_rfl
theorem tTab : (Tryd.prog.globals[1]?).map (·.type) = some 120 := by kernel_rfl
theorem tabDat : (Rows.laid_math_bits_deBruijn64tab (H := Unit)) = .agg (Lib.deBruijn64tab.map fun n : Nat => .lit (.int .u8 n)) := rfl
set_option maxRecDepth 10000 in
theorem fct_of_laid {W : World} (h : laidMetH Tryd.prog laidV W) : Fct W.heap.size W := by
  have h' : laidMet Tryd.prog laidV W := h
  obtain ⟨ps, ⟨_, _, _, _, _, _, _, _, _, _, ⟨g, t, cs, fuel, p, q, hg, ht, hv, hd, _⟩, _⟩, _⟩ := h'
  obtain rfl := Option.some.inj (gTab.symm.trans hg)
  obtain rfl := Option.some.inj (tTab.symm.trans ht)
  rw [tabDat] at hd
  obtain ⟨xs, m, _, hx, hl, hxl, hgo⟩ := DataW.trod_array Tryd.underlying120 hd
  have hc1 : Tryd.prog.cellsOf 5 = 1 := by kernel_rfl
  have hc64 : Tryd.prog.cellsOf 120 = 64 := by kernel_rfl
  rw [hc64] at hl
  have hcell : ∀ j, j < Lib.deBruijn64tab.length → W.cell? ⟨1, j, none⟩ = some (.int .u8 (Lib.deBruijn64tab.getD j 0)) := by
    intro j hj
    have hj64 : j < 64 := hj
    have h3 := hgo j hj64
    rw [hc1, Nat.mul_one] at h3
    obtain ⟨y, hy⟩ : ∃ y, xs[j]? = some y := ⟨xs[j]'(by omega), List.getElem?_eq_getElem _⟩
    rw [hy] at h3
    obtain ⟨u, hu⟩ : ∃ u, cs.toList[j]? = some u := ⟨cs.toList[j]'(by omega), List.getElem?_eq_getElem _⟩
    have e1 : (cs.toList.drop j).take 1 = [u] := by
      rw [List.take_one, List.head?_drop, hu]; rfl
    rw [e1] at h3
    obtain ⟨z, e0, e2, _⟩ := DataW.trod_int Tryd.underlying5 h3
    have e0 : u = .int .u8 z := by simpa using e0
    have hxm : xs.map (·.1) = Lib.deBruijn64tab.map fun n : Nat => (DataW.lit (.int .u8 n) : DataW Unit) := by
      have := congrArg Prod.fst hx
      simp only [DataW.agg.injEq] at this
      exact this.symm
    have hym : (xs.map (·.1))[j]? = some y.1 := by rw [List.getElem?_map, hy]; rfl
    rw [hxm, List.getElem?_map] at hym
    have hz : (DataW.lit (.int .u8 (Lib.deBruijn64tab.getD j 0 : Nat)) : DataW Unit) = y.1 := by
      rw [List.getElem?_eq_getElem hj] at hym
      simp only [Option.map_some, Option.some.injEq] at hym
      rw [← hym, List.getD_eq_getElem?_getD, List.getElem?_eq_getElem hj]; rfl
    have hzz : (Lib.deBruijn64tab.getD j 0 : Int) = z := by
      rw [e2] at hz
      simpa using hz
    have hw := World.var?_cell gTab hv j
    rw [hw]
    have : cs[j]? = some u := by rw [← Array.getElem?_toList]; exact hu
    rw [this, e0, hzz]
  have h0 := hcell 0 (by decide)
  have hlt := World.block_lt_of_cell? _ _ h0
  refine ⟨hlt, ?_⟩
  have h1 := h0
  unfold World.cell? at h1
  cases hb : W.heap[1]? with
  | none => simp [hb] at h1
  | some o =>
    cases o with
    | cells c t fr => exact ⟨c, t, fr, rfl, hcell⟩
    | _ => simp [hb] at h1
theorem door_met (os : Os) (args : Array Value) : laidMetH Tryd.prog laidV ((World.doorLaid Tryd.prog 19 os).forCall (fun _ _ => 0) ⟨#[], args, []⟩).memory :=
  laidMetH_of_parts3 (fuel := 8) (laidMet_of_run' 8 (by kernel_rfl) (by kernel_rfl)) (by kernel_rfl) (by kernel_rfl)
end Go.Proofs.YtijnimgmpocmaaaDoor

