/- Texts of the proof, part 6: T52, T53, T54, T55, T56, L14, L9, O1, O2, O3. -/
import Derived.Test.YtnafllhgjidbkaaX5
import Derived.WalkKit
import Derived.Below
import Derived.Laws.OwnMore
import Derived.Maps.AppendAt
import Derived.Laws.IdiomCopy
import Derived.Laws.CopyRow
import Derived.IntWalk
import Derived.StillTail
import Derived.Scope
import Derived.Test.YtnafllhgjidbkaaRows
import Derived.KernelRfl
import Derived.WalkSpells
import Derived.WalkLawsBesides
import Derived.Deep.QuietTactic
import Derived.BigQuiet
import Derived.Lib.Hide
import Derived.OwnWalk
import Derived.RangeFuncNested
import Derived.RangeFuncBound
import Derived.RangeFuncCalls
import Derived.RangeFuncLeaves
import Derived.RangeFuncBox
import Derived.Shelf.Abstract
import Derived.Shelf.RegionOpen
import Derived.OwnWalkIn
import Derived.TacticsInMore
import Derived.LoopNIn
import Derived.LoopIn
import Derived.Sort.QuietIn
import Derived.StillTailTactics
import Derived.OrdersIn
import Derived.Deep.RegionHeld3
import Derived.Deep.Cut
import Derived.Deep.AppendLies
import Derived.ProofKit
import Derived.OpenShut
import Derived.Lib.SmallJoins
import Derived.Deep.Slices
/- Where most of a cell's oil comes from: Source and the reference's. -/
namespace Go.Proofs.Ytnafllhgjidbkaa
open Go.RowKit
set_option linter.unusedVariables false
set_option linter.unusedSimpArgs false
theorem srcE_no {B : Bay} {i n : Int} (h : ¬ placE B i true n = 0) : srcE B i n = placE B i true n := by unfold srcE; rw [if_neg h]
theorem srcI_no {B : Bay} {i n : Int} (h : ¬ placE B i true n = 0) : srcI B i n = 0 := by unfold srcI; rw [if_neg h]
theorem src_yes {B : Bay} {i n : Nat} (h : placE B i true n = 0) : srcE B i n = gE (bestU (fromL B i n) B.Share.length).2 ∧ srcI B i n = (bestU (fromL B i n) B.Share.length).1 := by
  unfold srcE srcI; rw [if_pos h, if_pos h]; exact ⟨rfl, rfl⟩
theorem place_ok {B : Bay} {i n : Int} {ld : Bool} (h : placE B i ld n = 0) : validP B ∧ ∃ k m : Nat, i = k ∧ n = m ∧ k < B.Share.length ∧ m ≤ 5 ∧ B.Land.getD k false = ld := by
  rcases placE_cases B i ld n with ⟨_, hval, hc, h1, h2⟩ | h1 | h1
  · exact ⟨hval, i.toNat, n.toNat, by have := hc.1; omega, by omega, by have := hc.1; have := hc.2.1; omega, by omega, hc.2.2⟩
  · rw [h1] at h; cases h
  · rw [h1] at h; cases h
set_option maxRecDepth 100000 in
theorem source_spec (B : Bay) (i n : Int) (hll : B.Land.length ≤ 100) (hsl : B.Share.length ≤ 100) (hii : -9223372036854775808 ≤ i ∧ i ≤ 9223372036854775807) (hnn : -9223372036854775808 ≤ n ∧ n ≤ 9223372036854775807) :
    Spec Try.prog 53 [V.agg [C.i B.W, C.i B.H, C.sl 0 B.Land.length, C.sl 1 B.Share.length], V.i i, V.i n] [⟨0, .ro 0, B.Land.map C.bool⟩, ⟨1, .ro 0, shareC B.Share⟩] 2
      (Is (V.tup [A.c (C.i (srcI B i n)), A.c (C.i (srcE B i n))])) := by
  by_cases h0 : placE B i true n = 0
  case neg =>
    rw [srcE_no h0, srcI_no h0]
    refine Spec.of tok Try.func53 rfl rfl rfl fun n0 => vc_ok tok ?_
    repeat ((conv => whnf); first
        | (refine And.intro (by first | omega | exact Nat.le_of_ble_eq_true rfl | (dsimp only [inK]; omega) | (simp only [mulS_eq]; omega) | (simp only [mulS_eq, setL_length]; omega) | (simp only [setL_length, List.length_map]; omega) | exact ⟨by omega, by omega, by first | exact Nat.le_of_ble_eq_true rfl | (dsimp only; omega) | (simp only [setL_length]; omega) | (simp only [setL_length, List.length_map]; omega)⟩ | exact ⟨by omega, by first | rfl | omega, by omega, Nat.le_of_ble_eq_true rfl, Nat.le_of_ble_eq_true rfl⟩ | exact ⟨rfl, rfl, rfl, Nat.le_of_ble_eq_true rfl, by first | rfl | omega | exact Nat.le_of_ble_eq_true rfl | (simp; done) | (simp; omega), by first | rfl | omega | exact Nat.le_of_ble_eq_true rfl | (simp; done) | (simp; omega), by omega, Nat.le_of_ble_eq_true rfl⟩ | exact Eq.refl true) ?_)
        | (refine Exists.intro _ (And.intro rfl ?_))
        | (refine And.intro (And.intro rfl (chk_rowI _ _ _ _)) ?_)
        | (refine br_t (by omega) ?_)
        | (refine br_f (by omega) ?_)
        | (refine bs_t (by omega) ?_)
        | (refine bs_f (by omega) ?_)
        | (refine fun (K' : K3) hK' => ?_)
        | (refine hK' _ _ _ ?_; clear hK' K')
        | (refine draw_auto tok mixed (by kernel_rfl) ?_)
        | (refine placed_kt hll hsl hii hnn rfl rfl ?_)
        | (refine And.intro (And.intro rfl rfl) ?_))
    intro ρ; rfl
  obtain ⟨hval, k, m, rfl, rfl, hk, hm, hld⟩ := place_ok h0
  obtain ⟨hE, hI⟩ := src_yes h0
  rw [hE, hI]
  have hN : B.Land.length = B.Share.length := by have := hval.2.2.1; have := hval.2.2.2.1; omega
  have hbl : (bN B (unitP B k) m).length = B.Share.length + 1 := by rw [bN_len, unitP_len]
  have htl : ((bN B (unitP B k) m).take B.Share.length).length = B.Share.length := by rw [List.length_take, hbl]; omega
  have hone : (oneS B k).Oil.length = B.Share.length := oneS_len B k
  have hfl := fromL_len B k m
  have hfn := fromL_nonneg (B := B) (i := k) (n := m) hval hm
  have hlands := fromL_lands (n := m) hval hk
  refine Spec.of tok Try.func53 rfl rfl rfl fun n0 => vc_ok tok ?_
  repeat ((conv => whnf); first
      | (refine And.intro (by first | omega | exact Nat.le_of_ble_eq_true rfl | (dsimp only [inK]; omega) | (simp only [mulS_eq]; omega) | (simp only [mulS_eq, setL_length]; omega) | (simp only [setL_length, List.length_map]; omega) | exact ⟨by omega, by omega, by first | exact Nat.le_of_ble_eq_true rfl | (dsimp only; omega) | (simp only [setL_length]; omega) | (simp only [setL_length, List.length_map]; omega)⟩ | exact ⟨by omega, by first | rfl | omega, by omega, Nat.le_of_ble_eq_true rfl, Nat.le_of_ble_eq_true rfl⟩ | exact ⟨rfl, rfl, rfl, Nat.le_of_ble_eq_true rfl, by first | rfl | omega | exact Nat.le_of_ble_eq_true rfl | (simp; done) | (simp; omega), by first | rfl | omega | exact Nat.le_of_ble_eq_true rfl | (simp; done) | (simp; omega), by omega, Nat.le_of_ble_eq_true rfl⟩ | exact Eq.refl true) ?_)
      | (refine Exists.intro _ (And.intro rfl ?_))
      | (refine And.intro (And.intro rfl (chk_rowI _ _ _ _)) ?_)
      | (refine br_t (by omega) ?_)
      | (refine br_f (by omega) ?_)
      | (refine bs_t (by omega) ?_)
      | (refine bs_f (by omega) ?_)
      | (refine fun (K' : K3) hK' => ?_)
      | (refine hK' _ _ _ ?_; clear hK' K')
      | (refine draw_auto tok mixed (by kernel_rfl) ?_)
      | (refine placed_kt hll hsl hii hnn rfl rfl ?_)
      | (refine one_k hval hll hsl hk rfl rfl ?_)
      | (refine before_k (l := unitP B k) hval hll hsl (by omega) (unitP_len B k) hm (unitP_bd hk) rfl rfl (find_app (s := (oneS B k).Oil) (x := 0) rfl) ?_)
      | (refine And.intro ⟨rfl, by decide, by omega, by simp only [List.length_map]; omega⟩ ?_)
      | (refine HD_mk (fun _ h => chosen_kf (l := bN B (unitP B k) m) hlands (by omega) (by omega) hll hsl rfl rfl rfl h) ?_)
      | (refine HD_mk (fun _ h => greatest_k (l := fromL B k m) rfl (by omega) (by omega) (fun j hj => (hfn j (by omega)).1) rfl h) ?_)
      | (refine And.intro (And.intro rfl rfl) ?_))
  intro ρ
  rw [hfl]
  rfl
set_option maxRecDepth 100000 in
theorem rsource_spec (B : Bay) (i n : Int) (hll : B.Land.length ≤ 100) (hsl : B.Share.length ≤ 100) (hii : -9223372036854775808 ≤ i ∧ i ≤ 9223372036854775807) (hnn : -9223372036854775808 ≤ n ∧ n ≤ 9223372036854775807) :
    Spec Try.prog 54 [V.agg [C.i B.W, C.i B.H, C.sl 0 B.Land.length, C.sl 1 B.Share.length], V.i i, V.i n] [⟨0, .ro 0, B.Land.map C.bool⟩, ⟨1, .ro 0, shareC B.Share⟩] 2
      (Is (V.tup [A.c (C.i (srcI B i n)), A.c (C.i (srcE B i n))])) := by
  by_cases h0 : placE B i true n = 0
  case neg =>
    rw [srcE_no h0, srcI_no h0]
    refine Spec.of tok Try.func54 rfl rfl rfl fun n0 => vc_ok tok ?_
    repeat ((conv => whnf); first
        | (refine And.intro (by first | omega | exact Nat.le_of_ble_eq_true rfl | (dsimp only [inK]; omega) | (simp only [mulS_eq]; omega) | (simp only [mulS_eq, setL_length]; omega) | (simp only [setL_length, List.length_map]; omega) | exact ⟨by omega, by omega, by first | exact Nat.le_of_ble_eq_true rfl | (dsimp only; omega) | (simp only [setL_length]; omega) | (simp only [setL_length, List.length_map]; omega)⟩ | exact ⟨by omega, by first | rfl | omega, by omega, Nat.le_of_ble_eq_true rfl, Nat.le_of_ble_eq_true rfl⟩ | exact ⟨rfl, rfl, rfl, Nat.le_of_ble_eq_true rfl, by first | rfl | omega | exact Nat.le_of_ble_eq_true rfl | (simp; done) | (simp; omega), by first | rfl | omega | exact Nat.le_of_ble_eq_true rfl | (simp; done) | (simp; omega), by omega, Nat.le_of_ble_eq_true rfl⟩ | exact Eq.refl true) ?_)
        | (refine Exists.intro _ (And.intro rfl ?_))
        | (refine And.intro (And.intro rfl (chk_rowI _ _ _ _)) ?_)
        | (refine br_t (by omega) ?_)
        | (refine br_f (by omega) ?_)
        | (refine bs_t (by omega) ?_)
        | (refine bs_f (by omega) ?_)
        | (refine fun (K' : K3) hK' => ?_)
        | (refine hK' _ _ _ ?_; clear hK' K')
        | (refine draw_auto tok mixed (by kernel_rfl) ?_)
        | (refine moved_kt hll hsl hii hnn rfl rfl ?_)
        | (refine And.intro (And.intro rfl rfl) ?_))
    intro ρ; rfl
  obtain ⟨hval, i, n, rfl, rfl, hi, hn, hld⟩ := place_ok h0
  obtain ⟨hE, hI⟩ := src_yes h0
  rw [hE, hI]
  have hN : B.Land.length = B.Share.length := by have := hval.2.2.1; have := hval.2.2.2.1; omega
  have hN36 := mul36 hval.1.1 hval.1.2 hval.2.1.1 hval.2.1.2
  have hfl := fromL_len B i n
  have hfn := fromL_nonneg (B := B) (i := i) (n := n) hval hn
  have hbu : ∀ k, k ≤ B.Share.length → 0 ≤ (bestU (fromL B i n) k).2 := fun k hk => bestU_nonneg (fun j hj => (hfn j (by omega)).1)
  refine Spec.of tok Try.func54 rfl rfl rfl fun n0 => vc_ok tok ?_
  repeat ((conv => whnf); first
      | (refine And.intro (by first | omega | exact Nat.le_of_ble_eq_true rfl | (dsimp only [inK]; omega) | (simp only [mulS_eq]; omega) | (simp only [mulS_eq, setL_length]; omega) | (simp only [setL_length, List.length_map]; omega) | exact ⟨by omega, by omega, by first | exact Nat.le_of_ble_eq_true rfl | (dsimp only; omega) | (simp only [setL_length]; omega) | (simp only [setL_length, List.length_map]; omega)⟩ | exact ⟨by omega, by first | rfl | omega, by omega, Nat.le_of_ble_eq_true rfl, Nat.le_of_ble_eq_true rfl⟩ | exact ⟨rfl, rfl, rfl, Nat.le_of_ble_eq_true rfl, by first | rfl | omega | exact Nat.le_of_ble_eq_true rfl | (simp; done) | (simp; omega), by first | rfl | omega | exact Nat.le_of_ble_eq_true rfl | (simp; done) | (simp; omega), by omega, Nat.le_of_ble_eq_true rfl⟩ | exact Eq.refl true) ?_)
      | (refine Exists.intro _ (And.intro rfl ?_))
      | (refine And.intro (And.intro rfl (chk_rowI _ _ _ _)) ?_)
      | (refine br_t (by omega) ?_)
      | (refine br_f (by omega) ?_)
      | (refine bs_t (by omega) ?_)
      | (refine bs_f (by omega) ?_)
      | (refine fun (K' : K3) hK' => ?_)
      | (refine hK' _ _ _ ?_; clear hK' K')
      | (refine draw_auto tok mixed (by kernel_rfl) ?_)
      | (refine moved_kt hll hsl hii hnn rfl rfl ?_)
      | (refine And.intro (And.intro rfl rfl) ?_))
  refine Tri.loop (γ := Nat) (fun k => k ≤ B.Share.length)
    (fun k => [(1, V.i (i : Int)), (2, V.i (n : Int)), (3, V.c (.ptr 2 0)), (9, V.i ((bestU (fromL B i n) k).1 : Int)), (10, V.i (bestU (fromL B i n) k).2), (11, V.i (k : Int))])
    (fun k => [⟨0, .ro 0, B.Land.map C.bool⟩, ⟨1, .ro 0, shareC B.Share⟩, ⟨2, .own 25, [C.i B.W, C.i B.H, C.sl 0 B.Land.length, C.sl 1 B.Share.length]⟩]) 3 (fun k => B.Share.length - k) 0 (R0 := []) ?_ ?_ ?_
  · exact Nat.zero_le _
  · skip
    refine ⟨?_, ?_, rfl, rfl, Nat.le_of_ble_eq_true rfl⟩
    · repeat (first | exact trivial | refine And.intro (covS_syn (by first | rfl) rfl (by first | exact trivial | exact Nat.le_of_ble_eq_true rfl)) ?_ | refine And.intro (covS_bool rfl rfl (by first | rfl)) ?_)
    · repeat (first | exact trivial | refine And.intro (covE_id (Nat.le_of_ble_eq_true rfl) (by first | exact wf_ints _ _ | exact wf_bools _ _ | exact wf_shares _ _ | simp [C.wf]) rfl (by first | rfl | (fail))) ?_)
  · rintro k hk
    refine vc_ok tok ?_
    by_cases hlt : k < B.Share.length
    · have hlt' : (k : Int) < B.Land.length := by omega
      have h1 := hbu k hk
      cases hland : B.Land.getD k false
      · have hget : (fromL B i n).getD k 0 = (mvN B (oneS B k) n).Oil.getD i 0 := by rw [fromL_get hlt, if_neg (by rw [hland]; simp)]
        have hbd := one_nonneg (B := B) (j := k) (k := n) (i := i) hval hlt hn
        obtain ⟨hf, hK0⟩ := one_mv (B := B) (j := k) (k := 0) hval hlt (by omega)
        have hml : i < (mvN B (oneS B k) n).Oil.length := by rw [mvN_len, oneS_len]; exact hi
        have hol : (oneS B k).Oil.length = B.Share.length := oneS_len B k
        by_cases hgt : (bestU (fromL B i n) k).2 < (mvN B (oneS B k) n).Oil.getD i 0
        · have hb : bestU (fromL B i n) (k + 1) = (k, (mvN B (oneS B k) n).Oil.getD i 0) := by rw [← hget]; exact bestU_up (by rw [hget]; exact hgt)
          repeat ((conv => whnf); first
              | (refine And.intro (by first | omega | exact Nat.le_of_ble_eq_true rfl | (dsimp only [inK]; omega) | (simp only [mulS_eq]; omega) | (simp only [mulS_eq, setL_length]; omega) | (simp only [setL_length, List.length_map]; omega) | exact ⟨by omega, by omega, by first | exact Nat.le_of_ble_eq_true rfl | (dsimp only; omega) | (simp only [setL_length]; omega) | (simp only [setL_length, List.length_map]; omega)⟩ | exact ⟨by omega, by first | rfl | omega, by omega, Nat.le_of_ble_eq_true rfl, Nat.le_of_ble_eq_true rfl⟩ | exact ⟨rfl, rfl, rfl, Nat.le_of_ble_eq_true rfl, by first | rfl | omega | exact Nat.le_of_ble_eq_true rfl | (simp; done) | (simp; omega), by first | rfl | omega | exact Nat.le_of_ble_eq_true rfl | (simp; done) | (simp; omega), by omega, Nat.le_of_ble_eq_true rfl⟩ | exact Eq.refl true) ?_)
              | (with_reducible refine ld (boolL (by omega)) ?_)
              | (with_reducible refine ld (intL hml) ?_)
              | (refine Exists.intro _ (And.intro rfl ?_))
              | (refine And.intro (And.intro rfl (chk_rowI _ _ _ _)) ?_)
              | (refine br_t (by omega) ?_)
              | (refine br_f (by omega) ?_)
              | (refine bs_t (by omega) ?_)
              | (refine bs_f (by omega) ?_)
              | (refine fun (K' : K3) hK' => ?_)
              | (refine hK' _ _ _ ?_; clear hK' K')
              | (refine draw_auto tok mixed (by kernel_rfl) ?_)
              | (refine br_bf hland ?_)
              | (refine HD_mk (fun _ h => One_k hval hll hsl (by omega) rfl rfl h) ?_)
              | (refine And.intro (And.intro rfl (chk_row _ _ _ _)) ?_)
              | (refine HD_mk (fun _ h => rafter_k (s := oneS B k) hval hll hsl hf (by rw [hK0]; omega) (by omega) rfl rfl rfl h) ?_)
              | (refine And.intro (And.intro rfl rfl) ?_))
          refine ⟨k + 1, [], by omega, by omega, ?_⟩
          refine ⟨?_, ?_, rfl, rfl, Nat.le_of_ble_eq_true rfl⟩
          · repeat (first | exact trivial | refine And.intro (covS_syn (by first | rfl | (refine congrArg some (congrArg V.i ?_); rw [hb])) rfl (by first | exact trivial | exact Nat.le_of_ble_eq_true rfl)) ?_ | refine And.intro (covS_bool rfl rfl (by first | rfl)) ?_)
          · repeat (first | exact trivial | refine And.intro (covE_id (Nat.le_of_ble_eq_true rfl) (by first | exact wf_ints _ _ | exact wf_bools _ _ | exact wf_shares _ _ | simp [C.wf]) rfl (by first | rfl | (fail))) ?_)
        · have hb : bestU (fromL B i n) (k + 1) = bestU (fromL B i n) k := bestU_same (by rw [hget]; exact hgt)
          repeat ((conv => whnf); first
              | (refine And.intro (by first | omega | exact Nat.le_of_ble_eq_true rfl | (dsimp only [inK]; omega) | (simp only [mulS_eq]; omega) | (simp only [mulS_eq, setL_length]; omega) | (simp only [setL_length, List.length_map]; omega) | exact ⟨by omega, by omega, by first | exact Nat.le_of_ble_eq_true rfl | (dsimp only; omega) | (simp only [setL_length]; omega) | (simp only [setL_length, List.length_map]; omega)⟩ | exact ⟨by omega, by first | rfl | omega, by omega, Nat.le_of_ble_eq_true rfl, Nat.le_of_ble_eq_true rfl⟩ | exact ⟨rfl, rfl, rfl, Nat.le_of_ble_eq_true rfl, by first | rfl | omega | exact Nat.le_of_ble_eq_true rfl | (simp; done) | (simp; omega), by first | rfl | omega | exact Nat.le_of_ble_eq_true rfl | (simp; done) | (simp; omega), by omega, Nat.le_of_ble_eq_true rfl⟩ | exact Eq.refl true) ?_)
              | (with_reducible refine ld (boolL (by omega)) ?_)
              | (with_reducible refine ld (intL hml) ?_)
              | (refine Exists.intro _ (And.intro rfl ?_))
              | (refine And.intro (And.intro rfl (chk_rowI _ _ _ _)) ?_)
              | (refine br_t (by omega) ?_)
              | (refine br_f (by omega) ?_)
              | (refine bs_t (by omega) ?_)
              | (refine bs_f (by omega) ?_)
              | (refine fun (K' : K3) hK' => ?_)
              | (refine hK' _ _ _ ?_; clear hK' K')
              | (refine draw_auto tok mixed (by kernel_rfl) ?_)
              | (refine br_bf hland ?_)
              | (refine HD_mk (fun _ h => One_k hval hll hsl (by omega) rfl rfl h) ?_)
              | (refine And.intro (And.intro rfl (chk_row _ _ _ _)) ?_)
              | (refine HD_mk (fun _ h => rafter_k (s := oneS B k) hval hll hsl hf (by rw [hK0]; omega) (by omega) rfl rfl rfl h) ?_)
              | (refine And.intro (And.intro rfl rfl) ?_))
          refine ⟨k + 1, [], by omega, by omega, ?_⟩
          refine ⟨?_, ?_, rfl, rfl, Nat.le_of_ble_eq_true rfl⟩
          · repeat (first | exact trivial | refine And.intro (covS_syn (by first | rfl | (refine congrArg some (congrArg V.i ?_); rw [hb])) rfl (by first | exact trivial | exact Nat.le_of_ble_eq_true rfl)) ?_ | refine And.intro (covS_bool rfl rfl (by first | rfl)) ?_)
          · repeat (first | exact trivial | refine And.intro (covE_id (Nat.le_of_ble_eq_true rfl) (by first | exact wf_ints _ _ | exact wf_bools _ _ | exact wf_shares _ _ | simp [C.wf]) rfl (by first | rfl | (fail))) ?_)
      · have hget : (fromL B i n).getD k 0 = 0 := by rw [fromL_get hlt, if_pos hland]
        have hb : bestU (fromL B i n) (k + 1) = bestU (fromL B i n) k := bestU_same (by rw [hget]; omega)
        repeat ((conv => whnf); first
            | (refine And.intro (by first | omega | exact Nat.le_of_ble_eq_true rfl | (dsimp only [inK]; omega) | (simp only [mulS_eq]; omega) | (simp only [mulS_eq, setL_length]; omega) | (simp only [setL_length, List.length_map]; omega) | exact ⟨by omega, by omega, by first | exact Nat.le_of_ble_eq_true rfl | (dsimp only; omega) | (simp only [setL_length]; omega) | (simp only [setL_length, List.length_map]; omega)⟩ | exact ⟨by omega, by first | rfl | omega, by omega, Nat.le_of_ble_eq_true rfl, Nat.le_of_ble_eq_true rfl⟩ | exact ⟨rfl, rfl, rfl, Nat.le_of_ble_eq_true rfl, by first | rfl | omega | exact Nat.le_of_ble_eq_true rfl | (simp; done) | (simp; omega), by first | rfl | omega | exact Nat.le_of_ble_eq_true rfl | (simp; done) | (simp; omega), by omega, Nat.le_of_ble_eq_true rfl⟩ | exact Eq.refl true) ?_)
            | (with_reducible refine ld (boolL (by omega)) ?_)
            | (refine Exists.intro _ (And.intro rfl ?_))
            | (refine And.intro (And.intro rfl (chk_rowI _ _ _ _)) ?_)
            | (refine br_t (by omega) ?_)
            | (refine br_f (by omega) ?_)
            | (refine bs_t (by omega) ?_)
            | (refine bs_f (by omega) ?_)
            | (refine fun (K' : K3) hK' => ?_)
            | (refine hK' _ _ _ ?_; clear hK' K')
            | (refine draw_auto tok mixed (by kernel_rfl) ?_)
            | (refine br_bt hland ?_)
            | (refine And.intro (And.intro rfl rfl) ?_))
        refine ⟨k + 1, [], by omega, by omega, ?_⟩
        refine ⟨?_, ?_, rfl, rfl, Nat.le_of_ble_eq_true rfl⟩
        · repeat (first | exact trivial | refine And.intro (covS_syn (by first | rfl | (refine congrArg some (congrArg V.i ?_); rw [hb])) rfl (by first | exact trivial | exact Nat.le_of_ble_eq_true rfl)) ?_ | refine And.intro (covS_bool rfl rfl (by first | rfl)) ?_)
        · repeat (first | exact trivial | refine And.intro (covE_id (Nat.le_of_ble_eq_true rfl) (by first | exact wf_ints _ _ | exact wf_bools _ _ | exact wf_shares _ _ | simp [C.wf]) rfl (by first | rfl | (fail))) ?_)
    · obtain rfl : k = B.Share.length := by omega
      have hlt' : ¬ ((B.Share.length : Int) < (B.Land.length : Int)) := by omega
      have hsp := bestU_spec (fromL B i n) B.Share.length (fun j hj => (hfn j hj).1)
      by_cases hz : (bestU (fromL B i n) B.Share.length).2 = 0
      · have hg : gE (bestU (fromL B i n) B.Share.length).2 = 5 := by unfold gE; rw [if_pos hz]
        have hi0 : (bestU (fromL B i n) B.Share.length).1 = 0 := by
          rcases hsp.2.2 with h | h
          · exact h.2
          · omega
        repeat ((conv => whnf); first
            | (refine And.intro (by first | omega | exact Nat.le_of_ble_eq_true rfl | (dsimp only [inK]; omega) | (simp only [mulS_eq]; omega) | (simp only [mulS_eq, setL_length]; omega) | (simp only [setL_length, List.length_map]; omega) | exact ⟨by omega, by omega, by first | exact Nat.le_of_ble_eq_true rfl | (dsimp only; omega) | (simp only [setL_length]; omega) | (simp only [setL_length, List.length_map]; omega)⟩ | exact ⟨by omega, by first | rfl | omega, by omega, Nat.le_of_ble_eq_true rfl, Nat.le_of_ble_eq_true rfl⟩ | exact ⟨rfl, rfl, rfl, Nat.le_of_ble_eq_true rfl, by first | rfl | omega | exact Nat.le_of_ble_eq_true rfl | (simp; done) | (simp; omega), by first | rfl | omega | exact Nat.le_of_ble_eq_true rfl | (simp; done) | (simp; omega), by omega, Nat.le_of_ble_eq_true rfl⟩ | exact Eq.refl true) ?_)
            | (refine Exists.intro _ (And.intro rfl ?_))
            | (refine And.intro (And.intro rfl (chk_rowI _ _ _ _)) ?_)
            | (refine br_t (by omega) ?_)
            | (refine br_f (by omega) ?_)
            | (refine bs_t (by omega) ?_)
            | (refine bs_f (by omega) ?_)
            | (refine fun (K' : K3) hK' => ?_)
            | (refine hK' _ _ _ ?_; clear hK' K')
            | (refine draw_auto tok mixed (by kernel_rfl) ?_)
            | (refine And.intro (And.intro rfl rfl) ?_))
        intro ρ; rw [hg, hi0]; rfl
      · have hg : gE (bestU (fromL B i n) B.Share.length).2 = 0 := by unfold gE; rw [if_neg hz]
        repeat ((conv => whnf); first
            | (refine And.intro (by first | omega | exact Nat.le_of_ble_eq_true rfl | (dsimp only [inK]; omega) | (simp only [mulS_eq]; omega) | (simp only [mulS_eq, setL_length]; omega) | (simp only [setL_length, List.length_map]; omega) | exact ⟨by omega, by omega, by first | exact Nat.le_of_ble_eq_true rfl | (dsimp only; omega) | (simp only [setL_length]; omega) | (simp only [setL_length, List.length_map]; omega)⟩ | exact ⟨by omega, by first | rfl | omega, by omega, Nat.le_of_ble_eq_true rfl, Nat.le_of_ble_eq_true rfl⟩ | exact ⟨rfl, rfl, rfl, Nat.le_of_ble_eq_true rfl, by first | rfl | omega | exact Nat.le_of_ble_eq_true rfl | (simp; done) | (simp; omega), by first | rfl | omega | exact Nat.le_of_ble_eq_true rfl | (simp; done) | (simp; omega), by omega, Nat.le_of_ble_eq_true rfl⟩ | exact Eq.refl true) ?_)
            | (refine Exists.intro _ (And.intro rfl ?_))
            | (refine And.intro (And.intro rfl (chk_rowI _ _ _ _)) ?_)
            | (refine br_t (by omega) ?_)
            | (refine br_f (by omega) ?_)
            | (refine bs_t (by omega) ?_)
            | (refine bs_f (by omega) ?_)
            | (refine fun (K' : K3) hK' => ?_)
            | (refine hK' _ _ _ ?_; clear hK' K')
            | (refine draw_auto tok mixed (by kernel_rfl) ?_)
            | (refine And.intro (And.intro rfl rfl) ?_))
        intro ρ; rw [hg]; rfl
end Go.Proofs.Ytnafllhgjidbkaa

/- Where a cell's oil comes: Reach and the reference's. -/
namespace Go.Proofs.Ytnafllhgjidbkaa
open Go.RowKit
set_option linter.unusedVariables false
set_option linter.unusedSimpArgs false
theorem bool_or (b : Bool) : b = false ∨ b = true := by cases b <;> simp
open Classical in
noncomputable def reachB (B : Bay) (i m j : Nat) : Bool := decide (∃ k, k ≤ m ∧ 0 < (mvN B (oneS B i) k).Oil.getD j 0)
theorem reachB_iff {B : Bay} {i m j : Nat} : reachB B i m j = true ↔ ∃ k, k ≤ m ∧ 0 < (mvN B (oneS B i) k).Oil.getD j 0 := by simp [reachB]
theorem reachB_succ {B : Bay} {i m j : Nat} : reachB B i (m + 1) j = (reachB B i m j || decide (0 < (mvN B (oneS B i) (m + 1)).Oil.getD j 0)) := by
  rw [Bool.eq_iff_iff]
  simp only [Bool.or_eq_true, reachB_iff, decide_eq_true_eq]
  constructor
  · rintro ⟨k, hk, h⟩
    by_cases he : k = m + 1
    · subst he; exact .inr h
    · exact .inl ⟨k, by omega, h⟩
  · rintro (⟨k, hk, h⟩ | h)
    · exact ⟨k, by omega, h⟩
    · exact ⟨m + 1, Nat.le_refl _, h⟩
theorem reachB_zero {B : Bay} {i j : Nat} (hi : i < B.Share.length) : reachB B i 0 j = decide (j = i) := by
  rw [Bool.eq_iff_iff, reachB_iff, decide_eq_true_eq]
  constructor
  · rintro ⟨k, hk, h⟩
    obtain rfl : k = 0 := by omega
    have h2 : 0 < (oneS B i).Oil.getD j 0 := h
    rw [oneS_get hi] at h2
    by_cases he : j = i
    · exact he
    · rw [if_neg he] at h2; omega
  · rintro rfl
    refine ⟨0, Nat.le_refl _, ?_⟩
    show 0 < (oneS B j).Oil.getD j 0
    rw [oneS_get hi, if_pos rfl]; omega
/-- The first cells, to which it comes. -/
noncomputable def reachN (B : Bay) (i m x : Nat) : List Nat := (List.range x).filter (reachB B i m)
noncomputable def reachL (B : Bay) (i m x : Nat) : List Int := (reachN B i m x).map Int.ofNat
theorem reachL_zero (B : Bay) (i m : Nat) : reachL B i m 0 = [] := rfl
theorem reachL_yes {B : Bay} {i m x : Nat} (h : reachB B i m x = true) : reachL B i m (x + 1) = reachL B i m x ++ [(x : Int)] := by
  unfold reachL reachN
  rw [List.range_succ, List.filter_append, List.map_append]
  simp [h]
theorem reachL_no {B : Bay} {i m x : Nat} (h : reachB B i m x = false) : reachL B i m (x + 1) = reachL B i m x := by
  unfold reachL reachN
  rw [List.range_succ, List.filter_append, List.map_append]
  simp [h]
theorem reachL_le (B : Bay) (i m x : Nat) : (reachL B i m x).length ≤ x := by
  unfold reachL reachN
  rw [List.length_map]
  exact Nat.le_trans (List.length_filter_le _ _) (by simp)
noncomputable def rchL (B : Bay) (i n : Int) : List Int := if placE B i false n = 0 then reachL B i.toNat n.toNat B.Share.length else []
theorem rchL_no {B : Bay} {i n : Int} (h : ¬ placE B i false n = 0) : rchL B i n = [] := by unfold rchL; rw [if_neg h]
theorem rchL_yes {B : Bay} {i n : Nat} (h : placE B i false n = 0) : rchL B i n = reachL B i n B.Share.length := by unfold rchL; rw [if_pos h]; rfl
def intsQ (l : List Int) (Er : Int) (v : V) (L' : List E) : Prop :=
  ∃ o : C, v = V.tup [A.c o, A.c (C.i Er)] ∧ ((o = C.nil ∧ l = []) ∨ ∃ lab, o = C.sl lab l.length ∧ find L' lab = some ⟨lab, .vec 3 1, l.map C.i⟩)
theorem yes_row {B : Bay} {i m x : Nat} (h : reachB B i m x = true) : (reachL B i m (x + 1)).map C.i = (reachL B i m x).map C.i ++ [C.i (x : Int)] := by rw [reachL_yes h, List.map_append]; rfl
theorem yes_len {B : Bay} {i m x : Nat} (h : reachB B i m x = true) : (reachL B i m (x + 1)).length = (reachL B i m x).length + 1 := by rw [reachL_yes h]; simp
open Classical in
/-- Whether it comes there by fewer moves. -/
noncomputable def someB (B : Bay) (i k j : Nat) : Bool := decide (∃ m, m < k ∧ 0 < (mvN B (oneS B i) m).Oil.getD j 0)
theorem someB_zero (B : Bay) (i j : Nat) : someB B i 0 j = false := by simp [someB]
theorem someB_succ {B : Bay} {i k j : Nat} : someB B i (k + 1) j = (someB B i k j || decide (0 < (mvN B (oneS B i) k).Oil.getD j 0)) := by
  rw [Bool.eq_iff_iff]
  simp only [someB, Bool.or_eq_true, decide_eq_true_eq]
  constructor
  · rintro ⟨m, hm, h⟩
    by_cases he : m = k
    · subst he; exact .inr h
    · exact .inl ⟨m, by omega, h⟩
  · rintro (⟨m, hm, h⟩ | h)
    · exact ⟨m, by omega, h⟩
    · exact ⟨k, by omega, h⟩
theorem someB_reach (B : Bay) (i n j : Nat) : someB B i (n + 1) j = reachB B i n j := by
  unfold someB reachB
  congr 1
  simp only [Nat.lt_succ_iff]
set_option maxRecDepth 100000 in
theorem rreach_spec (B : Bay) (i n : Int) (hll : B.Land.length ≤ 100) (hsl : B.Share.length ≤ 100) (hii : -9223372036854775808 ≤ i ∧ i ≤ 9223372036854775807) (hnn : -9223372036854775808 ≤ n ∧ n ≤ 9223372036854775807) :
    Spec Try.prog 56 [V.agg [C.i B.W, C.i B.H, C.sl 0 B.Land.length, C.sl 1 B.Share.length], V.i i, V.i n] [⟨0, .ro 0, B.Land.map C.bool⟩, ⟨1, .ro 0, shareC B.Share⟩] 2
      (fun v L' _ => intsQ (rchL B i n) (placE B i false n) v L') := by
  by_cases h0 : placE B i false n = 0
  case neg =>
    rw [rchL_no h0]
    refine Spec.of tok Try.func56 rfl rfl rfl fun n0 => vc_ok tok ?_
    repeat ((conv => whnf); first
        | (refine And.intro (by first | omega | exact Nat.le_of_ble_eq_true rfl | (dsimp only [inK]; omega) | (simp only [mulS_eq]; omega) | (simp only [mulS_eq, setL_length]; omega) | (simp only [setL_length, List.length_map]; omega) | exact ⟨by omega, by omega, by first | exact Nat.le_of_ble_eq_true rfl | (dsimp only; omega) | (simp only [setL_length]; omega) | (simp only [setL_length, List.length_map]; omega)⟩ | exact ⟨by omega, by first | rfl | omega, by omega, Nat.le_of_ble_eq_true rfl, Nat.le_of_ble_eq_true rfl⟩ | exact ⟨rfl, rfl, rfl, Nat.le_of_ble_eq_true rfl, by first | rfl | omega | exact Nat.le_of_ble_eq_true rfl | (simp; done) | (simp; omega), by first | rfl | omega | exact Nat.le_of_ble_eq_true rfl | (simp; done) | (simp; omega), by omega, Nat.le_of_ble_eq_true rfl⟩ | exact Eq.refl true) ?_)
        | (refine Exists.intro _ (And.intro rfl ?_))
        | (refine And.intro (And.intro rfl (chk_rowI _ _ _ _)) ?_)
        | (refine br_t (by omega) ?_)
        | (refine br_f (by omega) ?_)
        | (refine bs_t (by omega) ?_)
        | (refine bs_f (by omega) ?_)
        | (refine fun (K' : K3) hK' => ?_)
        | (refine hK' _ _ _ ?_; clear hK' K')
        | (refine draw_auto tok mixed (by kernel_rfl) ?_)
        | (refine moved_kf hll hsl hii hnn rfl rfl ?_)
        | (refine And.intro (And.intro rfl rfl) ?_))
    exact .inl ⟨rfl, rfl⟩
  obtain ⟨hval, i, n, rfl, rfl, hi, hn, hld⟩ := place_ok h0
  rw [rchL_yes h0, h0]
  have hN : B.Land.length = B.Share.length := by have := hval.2.2.1; have := hval.2.2.2.1; omega
  have hN36 := mul36 hval.1.1 hval.1.2 hval.2.1.1 hval.2.1.2
  have hSS := hval.2.2.2.1
  obtain ⟨hf, hK0⟩ := one_mv (B := B) (j := i) (k := 0) hval hi (by omega)
  have hol : (oneS B i).Oil.length = B.Share.length := oneS_len B i
  refine Spec.of tok Try.func56 rfl rfl rfl fun n0 => vc_ok tok ?_
  repeat ((conv => whnf); first
      | (refine And.intro (by first | omega | exact Nat.le_of_ble_eq_true rfl | (dsimp only [inK]; omega) | (simp only [mulS_eq]; omega) | (simp only [mulS_eq, setL_length]; omega) | (simp only [setL_length, List.length_map]; omega) | exact ⟨by omega, by omega, by first | exact Nat.le_of_ble_eq_true rfl | (dsimp only; omega) | (simp only [setL_length]; omega) | (simp only [setL_length, List.length_map]; omega)⟩ | exact ⟨by omega, by first | rfl | omega, by omega, Nat.le_of_ble_eq_true rfl, Nat.le_of_ble_eq_true rfl⟩ | exact ⟨rfl, rfl, rfl, Nat.le_of_ble_eq_true rfl, by first | rfl | omega | exact Nat.le_of_ble_eq_true rfl | (simp; done) | (simp; omega), by first | rfl | omega | exact Nat.le_of_ble_eq_true rfl | (simp; done) | (simp; omega), by omega, Nat.le_of_ble_eq_true rfl⟩ | exact Eq.refl true) ?_)
      | (refine Exists.intro _ (And.intro rfl ?_))
      | (refine And.intro (And.intro rfl (chk_rowI _ _ _ _)) ?_)
      | (refine br_t (by omega) ?_)
      | (refine br_f (by omega) ?_)
      | (refine bs_t (by omega) ?_)
      | (refine bs_f (by omega) ?_)
      | (refine fun (K' : K3) hK' => ?_)
      | (refine hK' _ _ _ ?_; clear hK' K')
      | (refine draw_auto tok mixed (by kernel_rfl) ?_)
      | (refine moved_kf hll hsl hii hnn rfl rfl ?_)
      | (refine And.intro (And.intro rfl rfl) ?_))
  refine Tri.loop (γ := Nat) (fun j => j ≤ B.Share.length)
    (fun j => [(1, V.i (i : Int)), (2, V.i (n : Int)), (3, V.c (.ptr 2 0)), (9, V.c (.sl 3 (reachL B i n j).length)), (10, V.i (j : Int))])
    (fun j => [⟨0, .ro 0, B.Land.map C.bool⟩, ⟨1, .ro 0, shareC B.Share⟩, ⟨2, .own 25, [C.i B.W, C.i B.H, C.sl 0 B.Land.length, C.sl 1 B.Share.length]⟩, ⟨3, .vec 3 1, (reachL B i n j).map C.i⟩]) 4 (fun j => B.Share.length - j) 0 (R0 := [(3, none)]) ?_ ?_ ?_
  · exact Nat.zero_le _
  · skip
    refine ⟨?_, ?_, rfl, rfl, Nat.le_of_ble_eq_true rfl⟩
    · repeat (first | exact trivial | refine And.intro (covS_syn (by first | rfl) rfl (by first | exact trivial | exact Nat.le_of_ble_eq_true rfl)) ?_ | refine And.intro (covS_bool rfl rfl (by first | rfl)) ?_)
    · repeat (first | exact trivial | refine And.intro (covE_nil rfl (Nat.le_of_ble_eq_true rfl) rfl rfl) ?_ | refine And.intro (covE_some rfl (Nat.le_of_ble_eq_true rfl) (by first | exact wf_ints _ _ | exact wf_bools _ _ | exact wf_shares _ _ | simp [C.wf]) rfl (by first | exact ren_ints _ _ | exact ren_bools _ _ | exact ren_shares _ _ | (refine (ren_ints _ _).trans (congrArg some ?_); fail) | rfl)) ?_)
  · rintro j hj
    refine vc_ok tok ?_
    by_cases hlt : j < B.Share.length
    · have hlt' : (j : Int) < B.Land.length := by omega
      have hle := reachL_le B i n j
      repeat ((conv => whnf); first
          | (refine And.intro (by first | omega | exact Nat.le_of_ble_eq_true rfl | (dsimp only [inK]; omega) | (simp only [mulS_eq]; omega) | (simp only [mulS_eq, setL_length]; omega) | (simp only [setL_length, List.length_map]; omega) | exact ⟨by omega, by omega, by first | exact Nat.le_of_ble_eq_true rfl | (dsimp only; omega) | (simp only [setL_length]; omega) | (simp only [setL_length, List.length_map]; omega)⟩ | exact ⟨by omega, by first | rfl | omega, by omega, Nat.le_of_ble_eq_true rfl, Nat.le_of_ble_eq_true rfl⟩ | exact ⟨rfl, rfl, rfl, Nat.le_of_ble_eq_true rfl, by first | rfl | omega | exact Nat.le_of_ble_eq_true rfl | (simp; done) | (simp; omega), by first | rfl | omega | exact Nat.le_of_ble_eq_true rfl | (simp; done) | (simp; omega), by omega, Nat.le_of_ble_eq_true rfl⟩ | exact Eq.refl true) ?_)
          | (refine Exists.intro _ (And.intro rfl ?_))
          | (refine And.intro (And.intro rfl (chk_rowI _ _ _ _)) ?_)
          | (refine br_t (by omega) ?_)
          | (refine br_f (by omega) ?_)
          | (refine bs_t (by omega) ?_)
          | (refine bs_f (by omega) ?_)
          | (refine fun (K' : K3) hK' => ?_)
          | (refine hK' _ _ _ ?_; clear hK' K')
          | (refine draw_auto tok mixed (by kernel_rfl) ?_)
          | (refine And.intro (And.intro rfl rfl) ?_))
      refine Tri.loop (γ := Nat) (fun k => k ≤ n + 1)
        (fun k => [(1, V.i (i : Int)), (2, V.i (n : Int)), (3, V.c (.ptr 2 0)), (9, V.c (.sl 3 (reachL B i n j).length)), (10, V.i (j : Int)), (11, V.c (.bool (someB B i k j))), (12, V.i (k : Int))])
        (fun k => [⟨0, .ro 0, B.Land.map C.bool⟩, ⟨1, .ro 0, shareC B.Share⟩, ⟨2, .own 25, [C.i B.W, C.i B.H, C.sl 0 B.Land.length, C.sl 1 B.Share.length]⟩, ⟨3, .vec 3 1, (reachL B i n j).map C.i⟩]) 4 (fun k => n + 1 - k) 0 (R0 := []) ?_ ?_ ?_
      · exact Nat.zero_le _
      · skip
        refine ⟨?_, ?_, rfl, rfl, Nat.le_of_ble_eq_true rfl⟩
        · repeat (first | exact trivial | refine And.intro (covS_syn (by first | rfl | (refine congrArg some (congrArg V.i ?_); fail)) rfl (by first | exact trivial | exact Nat.le_of_ble_eq_true rfl)) ?_ | refine And.intro (covS_bool rfl rfl (by first | rfl | (exact (someB_zero B i j).symm))) ?_)
        · repeat (first | exact trivial | refine And.intro (covE_id (Nat.le_of_ble_eq_true rfl) (by first | exact wf_ints _ _ | exact wf_bools _ _ | exact wf_shares _ _ | simp [C.wf]) rfl (by first | rfl | (fail))) ?_)
      · rintro k hk
        refine vc_ok tok ?_
        by_cases hkn : k < n + 1
        · have hkn' : (k : Int) ≤ n := by omega
          have hbd := one_nonneg (B := B) (j := i) (k := k) (i := j) hval hi (by omega)
          have hml : j < (mvN B (oneS B i) k).Oil.length := by rw [mvN_len, oneS_len]; exact hlt
          rcases bool_or (someB B i k j) with hs | hs
          · have hs2 : someB B i (k + 1) j = decide (0 < (mvN B (oneS B i) k).Oil.getD j 0) := by rw [someB_succ, hs]; rfl
            repeat ((conv => whnf); first
                | (refine And.intro (by first | omega | exact Nat.le_of_ble_eq_true rfl | (dsimp only [inK]; omega) | (simp only [mulS_eq]; omega) | (simp only [mulS_eq, setL_length]; omega) | (simp only [setL_length, List.length_map]; omega) | exact ⟨by omega, by omega, by first | exact Nat.le_of_ble_eq_true rfl | (dsimp only; omega) | (simp only [setL_length]; omega) | (simp only [setL_length, List.length_map]; omega)⟩ | exact ⟨by omega, by first | rfl | omega, by omega, Nat.le_of_ble_eq_true rfl, Nat.le_of_ble_eq_true rfl⟩ | exact ⟨rfl, rfl, rfl, Nat.le_of_ble_eq_true rfl, by first | rfl | omega | exact Nat.le_of_ble_eq_true rfl | (simp; done) | (simp; omega), by first | rfl | omega | exact Nat.le_of_ble_eq_true rfl | (simp; done) | (simp; omega), by omega, Nat.le_of_ble_eq_true rfl⟩ | exact Eq.refl true) ?_)
                | (with_reducible refine ld (intL hml) ?_)
                | (refine Exists.intro _ (And.intro rfl ?_))
                | (refine And.intro (And.intro rfl (chk_rowI _ _ _ _)) ?_)
                | (refine br_t (by omega) ?_)
                | (refine br_f (by omega) ?_)
                | (refine bs_t (by omega) ?_)
                | (refine bs_f (by omega) ?_)
                | (refine fun (K' : K3) hK' => ?_)
                | (refine hK' _ _ _ ?_; clear hK' K')
                | (refine draw_auto tok mixed (by kernel_rfl) ?_)
                | (refine br_bf hs ?_)
                | (refine bs_bf hs ?_)
                | (refine HD_mk (fun _ h => One_k hval hll hsl (by omega) rfl rfl h) ?_)
                | (refine And.intro (And.intro rfl (chk_row _ _ _ _)) ?_)
                | (refine HD_mk (fun _ h => rafter_k (s := oneS B i) hval hll hsl hf (by rw [hK0]; omega) (by omega) rfl rfl rfl h) ?_)
                | (refine And.intro (And.intro rfl rfl) ?_))
            refine ⟨k + 1, [], by omega, by omega, ?_⟩
            refine ⟨?_, ?_, rfl, rfl, Nat.le_of_ble_eq_true rfl⟩
            · repeat (first | exact trivial | refine And.intro (covS_syn (by first | rfl | (refine congrArg some (congrArg V.i ?_); fail)) rfl (by first | exact trivial | exact Nat.le_of_ble_eq_true rfl)) ?_ | refine And.intro (covS_bool rfl rfl (by first | rfl | (exact hs2.symm))) ?_)
            · repeat (first | exact trivial | refine And.intro (covE_id (Nat.le_of_ble_eq_true rfl) (by first | exact wf_ints _ _ | exact wf_bools _ _ | exact wf_shares _ _ | simp [C.wf]) rfl (by first | rfl | (fail))) ?_)
          · have hs2 : someB B i (k + 1) j = true := by rw [someB_succ, hs]; rfl
            repeat ((conv => whnf); first
                | (refine And.intro (by first | omega | exact Nat.le_of_ble_eq_true rfl | (dsimp only [inK]; omega) | (simp only [mulS_eq]; omega) | (simp only [mulS_eq, setL_length]; omega) | (simp only [setL_length, List.length_map]; omega) | exact ⟨by omega, by omega, by first | exact Nat.le_of_ble_eq_true rfl | (dsimp only; omega) | (simp only [setL_length]; omega) | (simp only [setL_length, List.length_map]; omega)⟩ | exact ⟨by omega, by first | rfl | omega, by omega, Nat.le_of_ble_eq_true rfl, Nat.le_of_ble_eq_true rfl⟩ | exact ⟨rfl, rfl, rfl, Nat.le_of_ble_eq_true rfl, by first | rfl | omega | exact Nat.le_of_ble_eq_true rfl | (simp; done) | (simp; omega), by first | rfl | omega | exact Nat.le_of_ble_eq_true rfl | (simp; done) | (simp; omega), by omega, Nat.le_of_ble_eq_true rfl⟩ | exact Eq.refl true) ?_)
                | (refine Exists.intro _ (And.intro rfl ?_))
                | (refine And.intro (And.intro rfl (chk_rowI _ _ _ _)) ?_)
                | (refine br_t (by omega) ?_)
                | (refine br_f (by omega) ?_)
                | (refine bs_t (by omega) ?_)
                | (refine bs_f (by omega) ?_)
                | (refine fun (K' : K3) hK' => ?_)
                | (refine hK' _ _ _ ?_; clear hK' K')
                | (refine draw_auto tok mixed (by kernel_rfl) ?_)
                | (refine br_bt hs ?_)
                | (refine bs_bt hs ?_)
                | (refine And.intro (And.intro rfl rfl) ?_))
            refine ⟨k + 1, [], by omega, by omega, ?_⟩
            refine ⟨?_, ?_, rfl, rfl, Nat.le_of_ble_eq_true rfl⟩
            · repeat (first | exact trivial | refine And.intro (covS_syn (by first | rfl | (refine congrArg some (congrArg V.i ?_); fail)) rfl (by first | exact trivial | exact Nat.le_of_ble_eq_true rfl)) ?_ | refine And.intro (covS_bool rfl rfl (by first | rfl | (exact hs2.symm))) ?_)
            · repeat (first | exact trivial | refine And.intro (covE_id (Nat.le_of_ble_eq_true rfl) (by first | exact wf_ints _ _ | exact wf_bools _ _ | exact wf_shares _ _ | simp [C.wf]) rfl (by first | rfl | (fail))) ?_)
        · obtain rfl : k = n + 1 := by omega
          have hkn' : ¬ (((n + 1 : Nat) : Int) ≤ n) := by omega
          have hsr := someB_reach B i n j
          rcases bool_or (someB B i (n + 1) j) with hs | hs
          · have hr : reachB B i n j = false := by rw [← hsr, hs]
            repeat ((conv => whnf); first
                | (refine And.intro (by first | omega | exact Nat.le_of_ble_eq_true rfl | (dsimp only [inK]; omega) | (simp only [mulS_eq]; omega) | (simp only [mulS_eq, setL_length]; omega) | (simp only [setL_length, List.length_map]; omega) | exact ⟨by omega, by omega, by first | exact Nat.le_of_ble_eq_true rfl | (dsimp only; omega) | (simp only [setL_length]; omega) | (simp only [setL_length, List.length_map]; omega)⟩ | exact ⟨by omega, by first | rfl | omega, by omega, Nat.le_of_ble_eq_true rfl, Nat.le_of_ble_eq_true rfl⟩ | exact ⟨rfl, rfl, rfl, Nat.le_of_ble_eq_true rfl, by first | rfl | omega | exact Nat.le_of_ble_eq_true rfl | (simp; done) | (simp; omega), by first | rfl | omega | exact Nat.le_of_ble_eq_true rfl | (simp; done) | (simp; omega), by omega, Nat.le_of_ble_eq_true rfl⟩ | exact Eq.refl true) ?_)
                | (refine Exists.intro _ (And.intro rfl ?_))
                | (refine And.intro (And.intro rfl (chk_rowI _ _ _ _)) ?_)
                | (refine br_t (by omega) ?_)
                | (refine br_f (by omega) ?_)
                | (refine bs_t (by omega) ?_)
                | (refine bs_f (by omega) ?_)
                | (refine fun (K' : K3) hK' => ?_)
                | (refine hK' _ _ _ ?_; clear hK' K')
                | (refine draw_auto tok mixed (by kernel_rfl) ?_)
                | (refine br_bf hs ?_)
                | (refine bs_bf hs ?_)
                | (refine And.intro (And.intro rfl rfl) ?_))
            refine ⟨j + 1, [], by omega, by omega, ?_⟩
            rw [reachL_no hr]
            refine ⟨?_, ?_, rfl, rfl, Nat.le_of_ble_eq_true rfl⟩
            · repeat (first | exact trivial | refine And.intro (covS_syn (by first | rfl) rfl (by first | exact trivial | exact Nat.le_of_ble_eq_true rfl)) ?_ | refine And.intro (covS_bool rfl rfl (by first | rfl)) ?_)
            · repeat (first | exact trivial | refine And.intro (covE_id (Nat.le_of_ble_eq_true rfl) (by first | exact wf_ints _ _ | exact wf_bools _ _ | exact wf_shares _ _ | simp [C.wf]) rfl (by first | rfl | (fail))) ?_)
          · have hr : reachB B i n j = true := by rw [← hsr, hs]
            have hrow := yes_row hr
            have hlen := yes_len hr
            repeat ((conv => whnf); first
                | (refine And.intro (by first | omega | exact Nat.le_of_ble_eq_true rfl | (dsimp only [inK]; omega) | (simp only [mulS_eq]; omega) | (simp only [mulS_eq, setL_length]; omega) | (simp only [setL_length, List.length_map]; omega) | exact ⟨by omega, by omega, by first | exact Nat.le_of_ble_eq_true rfl | (dsimp only; omega) | (simp only [setL_length]; omega) | (simp only [setL_length, List.length_map]; omega)⟩ | exact ⟨by omega, by first | rfl | omega, by omega, Nat.le_of_ble_eq_true rfl, Nat.le_of_ble_eq_true rfl⟩ | exact ⟨rfl, rfl, rfl, Nat.le_of_ble_eq_true rfl, by first | rfl | omega | exact Nat.le_of_ble_eq_true rfl | (simp; done) | (simp; omega), by first | rfl | omega | exact Nat.le_of_ble_eq_true rfl | (simp; done) | (simp; omega), by omega, Nat.le_of_ble_eq_true rfl⟩ | exact Eq.refl true) ?_)
                | (refine Exists.intro _ (And.intro rfl ?_))
                | (refine And.intro (And.intro rfl (chk_rowI _ _ _ _)) ?_)
                | (refine br_t (by omega) ?_)
                | (refine br_f (by omega) ?_)
                | (refine bs_t (by omega) ?_)
                | (refine bs_f (by omega) ?_)
                | (refine fun (K' : K3) hK' => ?_)
                | (refine hK' _ _ _ ?_; clear hK' K')
                | (refine draw_auto tok mixed (by kernel_rfl) ?_)
                | (refine br_bt hs ?_)
                | (refine bs_bt hs ?_)
                | (refine And.intro (And.intro rfl rfl) ?_))
            refine ⟨j + 1, [(3, some 5)], by omega, by omega, ?_⟩
            rw [hlen]
            refine ⟨?_, ?_, rfl, rfl, Nat.le_of_ble_eq_true rfl⟩
            · repeat (first | exact trivial | refine And.intro (covS_syn (by first | rfl) rfl (by first | exact trivial | exact Nat.le_of_ble_eq_true rfl)) ?_ | refine And.intro (covS_bool rfl rfl (by first | rfl)) ?_)
            · repeat (first | exact trivial | refine And.intro (covE_nil rfl (Nat.le_of_ble_eq_true rfl) rfl rfl) ?_ | refine And.intro (covE_some rfl (Nat.le_of_ble_eq_true rfl) (by first | exact wf_ints _ _ | exact wf_bools _ _ | exact wf_shares _ _ | simp [C.wf]) rfl (by first | exact ren_ints _ _ | exact ren_bools _ _ | exact ren_shares _ _ | (refine (ren_ints _ _).trans (congrArg some ?_); exact hrow) | rfl)) ?_)
    · obtain rfl : j = B.Share.length := by omega
      have hlt' : ¬ ((B.Share.length : Int) < (B.Land.length : Int)) := by omega
      repeat ((conv => whnf); first
          | (refine And.intro (by first | omega | exact Nat.le_of_ble_eq_true rfl | (dsimp only [inK]; omega) | (simp only [mulS_eq]; omega) | (simp only [mulS_eq, setL_length]; omega) | (simp only [setL_length, List.length_map]; omega) | exact ⟨by omega, by omega, by first | exact Nat.le_of_ble_eq_true rfl | (dsimp only; omega) | (simp only [setL_length]; omega) | (simp only [setL_length, List.length_map]; omega)⟩ | exact ⟨by omega, by first | rfl | omega, by omega, Nat.le_of_ble_eq_true rfl, Nat.le_of_ble_eq_true rfl⟩ | exact ⟨rfl, rfl, rfl, Nat.le_of_ble_eq_true rfl, by first | rfl | omega | exact Nat.le_of_ble_eq_true rfl | (simp; done) | (simp; omega), by first | rfl | omega | exact Nat.le_of_ble_eq_true rfl | (simp; done) | (simp; omega), by omega, Nat.le_of_ble_eq_true rfl⟩ | exact Eq.refl true) ?_)
          | (refine Exists.intro _ (And.intro rfl ?_))
          | (refine And.intro (And.intro rfl (chk_rowI _ _ _ _)) ?_)
          | (refine br_t (by omega) ?_)
          | (refine br_f (by omega) ?_)
          | (refine bs_t (by omega) ?_)
          | (refine bs_f (by omega) ?_)
          | (refine fun (K' : K3) hK' => ?_)
          | (refine hK' _ _ _ ?_; clear hK' K')
          | (refine draw_auto tok mixed (by kernel_rfl) ?_)
          | (refine And.intro (And.intro rfl rfl) ?_))
      exact .inr ⟨3, rfl, rfl⟩
end Go.Proofs.Ytnafllhgjidbkaa

/- Where a cell's oil comes: slick's Reach. -/
namespace Go.Proofs.Ytnafllhgjidbkaa
open Go.RowKit
set_option linter.unusedVariables false
set_option linter.unusedSimpArgs false
noncomputable def seenL (B : Bay) (i m : Nat) : List Bool := (List.range B.Share.length).map fun j => reachB B i m j
noncomputable def seenX (B : Bay) (i m x : Nat) : List Bool := (List.range B.Share.length).map fun j => if j < x then reachB B i (m + 1) j else reachB B i m j
theorem seenL_len (B : Bay) (i m : Nat) : (seenL B i m).length = B.Share.length := by simp [seenL]
theorem seenX_len (B : Bay) (i m x : Nat) : (seenX B i m x).length = B.Share.length := by simp [seenX]
theorem seenL_get {B : Bay} {i m j : Nat} (h : j < B.Share.length) : (seenL B i m).getD j false = reachB B i m j := by simp [seenL, List.getD_eq_getElem?_getD, h]
theorem seenX_get {B : Bay} {i m x j : Nat} (h : j < B.Share.length) : (seenX B i m x).getD j false = if j < x then reachB B i (m + 1) j else reachB B i m j := by simp [seenX, List.getD_eq_getElem?_getD, h]
theorem bools_ext {l m : List Bool} (h : l.length = m.length) (hg : ∀ j, j < l.length → l.getD j false = m.getD j false) : l = m := by
  apply List.ext_getElem h
  intro j h1 h2
  have := hg j h1
  simpa [List.getD_eq_getElem?_getD, h1, h2] using this
theorem seenX_zero (B : Bay) (i m : Nat) : seenX B i m 0 = seenL B i m := by
  refine bools_ext (by rw [seenX_len, seenL_len]) (fun j hj => ?_)
  rw [seenX_len] at hj
  rw [seenX_get hj, seenL_get hj, if_neg (by omega)]
theorem seenX_all (B : Bay) (i m : Nat) : seenX B i m B.Share.length = seenL B i (m + 1) := by
  refine bools_ext (by rw [seenX_len, seenL_len]) (fun j hj => ?_)
  rw [seenX_len] at hj
  rw [seenX_get hj, seenL_get hj, if_pos hj]
theorem getD_setb (l : List Bool) (x j : Nat) (b : Bool) (hx : x < l.length) : (l.set x b).getD j false = if j = x then b else l.getD j false := by
  simp only [List.getD_eq_getElem?_getD, List.getElem?_set]
  by_cases h : x = j
  · subst h; simp [hx]
  · rw [if_neg h, if_neg (by omega)]
theorem seenX_set {B : Bay} {i m x : Nat} {b : Bool} (hx : x < B.Share.length) (hb : b = reachB B i (m + 1) x) : (seenX B i m x).set x b = seenX B i m (x + 1) := by
  refine bools_ext (by rw [List.length_set, seenX_len, seenX_len]) (fun j hj => ?_)
  rw [List.length_set, seenX_len] at hj
  rw [getD_setb _ _ _ _ (by rw [seenX_len]; exact hx), seenX_get hj, seenX_get hj, hb]
  by_cases h : j = x
  · subst h; rw [if_pos rfl, if_pos (by omega)]
  · rw [if_neg h]
    by_cases h2 : j < x
    · rw [if_pos h2, if_pos (by omega)]
    · rw [if_neg h2, if_neg (by omega)]
theorem setb_cells {l l' : List Bool} {x : Nat} {c : C} {b : Bool} (hc : c.toB = some b) (hl : l.set x b = l') : (setL (l.map C.bool) (mulS ((x : Nat) : Int).toNat 1) [c]).map C.toB = l'.map some := by
  subst hl
  rw [mulS_eq]
  simp only [setL, Int.toNat_natCast, Nat.mul_one, List.map_set, hc]
  congr 1
  rw [List.map_map]; rfl
theorem seen_first {B : Bay} {i n : Nat} (hn : n = B.Share.length) (hi : i < B.Share.length) : (setL (repC n [C.ff]) (mulS ((i : Nat) : Int).toNat 1) [C.tt]).map C.toB = (seenL B i 0).map some := by
  subst hn
  have h : (List.replicate B.Share.length false).set i true = seenL B i 0 := by
    refine bools_ext (by rw [seenL_len]; simp) (fun j hj => ?_)
    simp only [List.length_set, List.length_replicate] at hj
    rw [getD_setb _ _ _ _ (by simpa using hi), seenL_get hj, reachB_zero hi]
    by_cases h : j = i
    · rw [if_pos h, decide_eq_true h]
    · rw [if_neg h, decide_eq_false h]; simp [List.getD_eq_getElem?_getD, hj]
  rw [← h, mulS_eq]
  simp only [setL, Int.toNat_natCast, Nat.mul_one, List.map_set]
  simp [repC, C.toB]
set_option maxRecDepth 100000 in
theorem reach_spec (B : Bay) (i n : Int) (hll : B.Land.length ≤ 100) (hsl : B.Share.length ≤ 100) (hii : -9223372036854775808 ≤ i ∧ i ≤ 9223372036854775807) (hnn : -9223372036854775808 ≤ n ∧ n ≤ 9223372036854775807) :
    Spec Try.prog 55 [V.agg [C.i B.W, C.i B.H, C.sl 0 B.Land.length, C.sl 1 B.Share.length], V.i i, V.i n] [⟨0, .ro 0, B.Land.map C.bool⟩, ⟨1, .ro 0, shareC B.Share⟩] 2
      (fun v L' _ => intsQ (rchL B i n) (placE B i false n) v L') := by
  by_cases h0 : placE B i false n = 0
  case neg =>
    rw [rchL_no h0]
    refine Spec.of tok Try.func55 rfl rfl rfl fun n0 => vc_ok tok ?_
    repeat ((conv => whnf); first
        | (refine And.intro (by first | omega | exact Nat.le_of_ble_eq_true rfl | (dsimp only [inK]; omega) | (simp only [mulS_eq]; omega) | (simp only [mulS_eq, setL_length]; omega) | (simp only [setL_length, List.length_map]; omega) | exact ⟨by omega, by omega, by first | exact Nat.le_of_ble_eq_true rfl | (dsimp only; omega) | (simp only [setL_length]; omega) | (simp only [setL_length, List.length_map]; omega)⟩ | exact ⟨by omega, by first | rfl | omega, by omega, Nat.le_of_ble_eq_true rfl, Nat.le_of_ble_eq_true rfl⟩ | exact ⟨rfl, rfl, rfl, Nat.le_of_ble_eq_true rfl, by first | rfl | omega | exact Nat.le_of_ble_eq_true rfl | (simp; done) | (simp; omega), by first | rfl | omega | exact Nat.le_of_ble_eq_true rfl | (simp; done) | (simp; omega), by omega, Nat.le_of_ble_eq_true rfl⟩ | exact Eq.refl true) ?_)
        | (refine Exists.intro _ (And.intro rfl ?_))
        | (refine And.intro (And.intro rfl (chk_rowI _ _ _ _)) ?_)
        | (refine br_t (by omega) ?_)
        | (refine br_f (by omega) ?_)
        | (refine bs_t (by omega) ?_)
        | (refine bs_f (by omega) ?_)
        | (refine fun (K' : K3) hK' => ?_)
        | (refine hK' _ _ _ ?_; clear hK' K')
        | (refine draw_auto tok mixed (by kernel_rfl) ?_)
        | (refine placed_kf hll hsl hii hnn rfl rfl ?_)
        | (refine And.intro (And.intro rfl rfl) ?_))
    exact .inl ⟨rfl, rfl⟩
  obtain ⟨hval, i, n, rfl, rfl, hi, hn, hld⟩ := place_ok h0
  rw [rchL_yes h0, h0]
  have hN : B.Land.length = B.Share.length := by have := hval.2.2.1; have := hval.2.2.2.1; omega
  have hN36 := mul36 hval.1.1 hval.1.2 hval.2.1.1 hval.2.1.2
  have hSS := hval.2.2.2.1
  have hol : (oneS B i).Oil.length = B.Share.length := oneS_len B i
  have hrep : (repC ((B.Land.length : Nat) : Int).toNat [C.ff]).length = B.Land.length := by simp [repC]
  refine Spec.of tok Try.func55 rfl rfl rfl fun n0 => vc_ok tok ?_
  repeat ((conv => whnf); first
      | (refine And.intro (by first | omega | exact Nat.le_of_ble_eq_true rfl | (dsimp only [inK]; omega) | (simp only [mulS_eq]; omega) | (simp only [mulS_eq, setL_length]; omega) | (simp only [setL_length, List.length_map]; omega) | exact ⟨by omega, by omega, by first | exact Nat.le_of_ble_eq_true rfl | (dsimp only; omega) | (simp only [setL_length]; omega) | (simp only [setL_length, List.length_map]; omega)⟩ | exact ⟨by omega, by first | rfl | omega, by omega, Nat.le_of_ble_eq_true rfl, Nat.le_of_ble_eq_true rfl⟩ | exact ⟨rfl, rfl, rfl, Nat.le_of_ble_eq_true rfl, by first | rfl | omega | exact Nat.le_of_ble_eq_true rfl | (simp; done) | (simp; omega), by first | rfl | omega | exact Nat.le_of_ble_eq_true rfl | (simp; done) | (simp; omega), by omega, Nat.le_of_ble_eq_true rfl⟩ | exact Eq.refl true) ?_)
      | (refine Exists.intro _ (And.intro rfl ?_))
      | (refine And.intro (And.intro rfl (chk_rowI _ _ _ _)) ?_)
      | (refine br_t (by omega) ?_)
      | (refine br_f (by omega) ?_)
      | (refine bs_t (by omega) ?_)
      | (refine bs_f (by omega) ?_)
      | (refine fun (K' : K3) hK' => ?_)
      | (refine hK' _ _ _ ?_; clear hK' K')
      | (refine draw_auto tok mixed (by kernel_rfl) ?_)
      | (refine placed_kf hll hsl hii hnn rfl rfl ?_)
      | (refine one_k hval hll hsl hi rfl rfl ?_)
      | (refine And.intro (And.intro rfl rfl) ?_))
  refine Tri.loop (γ := Nat) (fun m => m ≤ n)
    (fun m => [(3, V.c (.ptr 2 0)), (9, V.c (.sl 3 B.Land.length)), (10, V.c (.ptr 5 0)), (33, V.i (n : Int)), (34, V.i (m : Int))])
    (fun m => [⟨0, .ro 0, B.Land.map C.bool⟩, ⟨1, .ro 0, shareC B.Share⟩, ⟨2, .own 25, [C.i B.W, C.i B.H, C.sl 0 B.Land.length, C.sl 1 B.Share.length]⟩, ⟨3, .vec 4 1, (seenL B i m).map C.bool⟩, ⟨4, .ro 0, (mvN B (oneS B i) m).Oil.map C.i⟩, ⟨5, .own 28, [C.i (mvN B (oneS B i) m).K, C.sl 4 (mvN B (oneS B i) m).Oil.length, C.i (mvN B (oneS B i) m).Away]⟩]) 6 (fun m => n - m) 0 (R0 := []) ?_ ?_ ?_
  · exact Nat.zero_le _
  · skip
    refine ⟨?_, ?_, rfl, rfl, Nat.le_of_ble_eq_true rfl⟩
    · repeat (first | exact trivial | refine And.intro (covS_syn (by first | rfl | (refine congrArg some (congrArg V.i ?_); fail)) rfl (by first | exact trivial | exact Nat.le_of_ble_eq_true rfl)) ?_ | refine And.intro (covS_bool rfl rfl (by first | rfl | (fail))) ?_)
    · repeat (first | exact trivial | (refine And.intro (covE_sem rfl (Nat.le_of_ble_eq_true rfl) (wf_bools _ _) rfl (.inl rfl) (fun ρ => den_toB (seen_first hN hi))) ?_) | (refine And.intro (covE_sem rfl (Nat.le_of_ble_eq_true rfl) (wf_ints _ _) rfl (.inr ⟨0, rfl, .inl rfl⟩) (fun ρ => cells_ren (ren_ints _ _) ρ)) ?_) | refine And.intro (covE_id (Nat.le_of_ble_eq_true rfl) (by first | exact wf_ints _ _ | exact wf_bools _ _ | exact wf_shares _ _ | simp [C.wf]) rfl (by first | rfl | (fail))) ?_)
  · rintro m hm
    refine vc_ok tok ?_
    obtain ⟨hf, hK0⟩ := one_mv (B := B) (j := i) (k := m) hval hi (by omega)
    have hmK : (mvN B (oneS B i) m).K = m := by rw [mvN_K, hK0]; omega
    have hml : (mvN B (oneS B i) m).Oil.length = B.Share.length := by rw [mvN_len, oneS_len]
    by_cases hlt : m < n
    · have hml2 : (mv B (mvN B (oneS B i) m)).Oil.length = B.Share.length := by rw [mv_len, hml]
      have hnext : mvN B (oneS B i) (m + 1) = mv B (mvN B (oneS B i) m) := rfl
      repeat ((conv => whnf); first
          | (refine And.intro (by first | omega | exact Nat.le_of_ble_eq_true rfl | (dsimp only [inK]; omega) | (simp only [mulS_eq]; omega) | (simp only [mulS_eq, setL_length]; omega) | (simp only [setL_length, List.length_map]; omega) | exact ⟨by omega, by omega, by first | exact Nat.le_of_ble_eq_true rfl | (dsimp only; omega) | (simp only [setL_length]; omega) | (simp only [setL_length, List.length_map]; omega)⟩ | exact ⟨by omega, by first | rfl | omega, by omega, Nat.le_of_ble_eq_true rfl, Nat.le_of_ble_eq_true rfl⟩ | exact ⟨rfl, rfl, rfl, Nat.le_of_ble_eq_true rfl, by first | rfl | omega | exact Nat.le_of_ble_eq_true rfl | (simp; done) | (simp; omega), by first | rfl | omega | exact Nat.le_of_ble_eq_true rfl | (simp; done) | (simp; omega), by omega, Nat.le_of_ble_eq_true rfl⟩ | exact Eq.refl true) ?_)
          | (refine Exists.intro _ (And.intro rfl ?_))
          | (refine And.intro (And.intro rfl (chk_rowI _ _ _ _)) ?_)
          | (refine br_t (by omega) ?_)
          | (refine br_f (by omega) ?_)
          | (refine bs_t (by omega) ?_)
          | (refine bs_f (by omega) ?_)
          | (refine fun (K' : K3) hK' => ?_)
          | (refine hK' _ _ _ ?_; clear hK' K')
          | (refine draw_auto tok mixed (by kernel_rfl) ?_)
          | (refine move_k (s := mvN B (oneS B i) m) hval hll hsl hf (by omega) rfl rfl rfl ?_)
          | (refine And.intro (And.intro rfl rfl) ?_))
      refine Tri.loop (γ := Nat) (fun x => x ≤ B.Share.length)
        (fun x => [(3, V.c (.ptr 2 0)), (9, V.c (.sl 3 B.Land.length)), (10, V.c (.ptr 5 0)), (33, V.i (n : Int)), (34, V.i (m : Int)), (40, V.c (.sl 6 (mv B (mvN B (oneS B i) m)).Oil.length)), (41, V.i ((mv B (mvN B (oneS B i) m)).Oil.length : Int)), (42, V.i (x : Int))])
        (fun x => [⟨0, .ro 0, B.Land.map C.bool⟩, ⟨1, .ro 0, shareC B.Share⟩, ⟨2, .own 25, [C.i B.W, C.i B.H, C.sl 0 B.Land.length, C.sl 1 B.Share.length]⟩, ⟨3, .vec 4 1, (seenX B i m x).map C.bool⟩, ⟨6, .ro 0, (mv B (mvN B (oneS B i) m)).Oil.map C.i⟩, ⟨5, .own 28, [C.i (mv B (mvN B (oneS B i) m)).K, C.sl 6 (mv B (mvN B (oneS B i) m)).Oil.length, C.i (mv B (mvN B (oneS B i) m)).Away]⟩]) 7 (fun x => B.Share.length - x) 0 (R0 := []) ?_ ?_ ?_
      · exact Nat.zero_le _
      · rw [seenX_zero]
        refine ⟨?_, ?_, rfl, rfl, Nat.le_of_ble_eq_true rfl⟩
        · repeat (first | exact trivial | refine And.intro (covS_syn (by first | rfl) rfl (by first | exact trivial | exact Nat.le_of_ble_eq_true rfl)) ?_ | refine And.intro (covS_bool rfl rfl (by first | rfl)) ?_)
        · repeat (first | exact trivial | refine And.intro (covE_id (Nat.le_of_ble_eq_true rfl) (by first | exact wf_ints _ _ | exact wf_bools _ _ | exact wf_shares _ _ | simp [C.wf]) rfl (by first | rfl | (fail))) ?_)
      · rintro x hx
        refine vc_ok tok ?_
        by_cases hxl : x < B.Share.length
        · have hxl' : (x : Int) < ((mv B (mvN B (oneS B i) m)).Oil.length : Int) := by omega
          have hxs : x < (seenX B i m x).length := by rw [seenX_len]; exact hxl
          have hxm : x < (mv B (mvN B (oneS B i) m)).Oil.length := by omega
          have hlc : ((seenX B i m x).map C.bool).length = B.Share.length := by rw [List.length_map, seenX_len]
          have hg : (seenX B i m x).getD x false = reachB B i m x := by rw [seenX_get hxl, if_neg (by omega)]
          have hsucc := reachB_succ (B := B) (i := i) (m := m) (j := x)
          rw [hnext] at hsucc
          rcases bool_or ((seenX B i m x).getD x false) with hs | hs
          · have hset := seenX_set (B := B) (i := i) (m := m) (x := x) (b := decide (0 < (mv B (mvN B (oneS B i) m)).Oil.getD x 0)) hxl (by rw [hsucc, ← hg, hs]; rfl)
            repeat ((conv => whnf); first
                | (refine And.intro (by first | omega | exact Nat.le_of_ble_eq_true rfl | (dsimp only [inK]; omega) | (simp only [mulS_eq]; omega) | (simp only [mulS_eq, setL_length]; omega) | (simp only [setL_length, List.length_map]; omega) | exact ⟨by omega, by omega, by first | exact Nat.le_of_ble_eq_true rfl | (dsimp only; omega) | (simp only [setL_length]; omega) | (simp only [setL_length, List.length_map]; omega)⟩ | exact ⟨by omega, by first | rfl | omega, by omega, Nat.le_of_ble_eq_true rfl, Nat.le_of_ble_eq_true rfl⟩ | exact ⟨rfl, rfl, rfl, Nat.le_of_ble_eq_true rfl, by first | rfl | omega | exact Nat.le_of_ble_eq_true rfl | (simp; done) | (simp; omega), by first | rfl | omega | exact Nat.le_of_ble_eq_true rfl | (simp; done) | (simp; omega), by omega, Nat.le_of_ble_eq_true rfl⟩ | exact Eq.refl true) ?_)
                | (with_reducible refine ld (intL hxm) ?_)
                | (with_reducible refine ld (boolL hxs) ?_)
                | (refine Exists.intro _ (And.intro rfl ?_))
                | (refine And.intro (And.intro rfl (chk_rowI _ _ _ _)) ?_)
                | (refine br_t (by omega) ?_)
                | (refine br_f (by omega) ?_)
                | (refine bs_t (by omega) ?_)
                | (refine bs_f (by omega) ?_)
                | (refine fun (K' : K3) hK' => ?_)
                | (refine hK' _ _ _ ?_; clear hK' K')
                | (refine draw_auto tok mixed (by kernel_rfl) ?_)
                | (refine br_bf hs ?_)
                | (refine bs_bf hs ?_)
                | (refine And.intro (And.intro rfl rfl) ?_))
            refine ⟨x + 1, [], by omega, by omega, ?_⟩
            refine ⟨?_, ?_, rfl, rfl, Nat.le_of_ble_eq_true rfl⟩
            · repeat (first | exact trivial | refine And.intro (covS_syn (by first | rfl | (refine congrArg some (congrArg V.i ?_); fail)) rfl (by first | exact trivial | exact Nat.le_of_ble_eq_true rfl)) ?_ | refine And.intro (covS_bool rfl rfl (by first | rfl | (fail))) ?_)
            · repeat (first | exact trivial | (refine And.intro (covE_sem rfl (Nat.le_of_ble_eq_true rfl) (wf_bools _ _) rfl (.inl rfl) (fun ρ => den_toB (setb_cells rfl hset))) ?_) | refine And.intro (covE_id (Nat.le_of_ble_eq_true rfl) (by first | exact wf_ints _ _ | exact wf_bools _ _ | exact wf_shares _ _ | simp [C.wf]) rfl (by first | rfl | (fail))) ?_)
          · have hset := seenX_set (B := B) (i := i) (m := m) (x := x) (b := true) hxl (by rw [hsucc, ← hg, hs]; rfl)
            repeat ((conv => whnf); first
                | (refine And.intro (by first | omega | exact Nat.le_of_ble_eq_true rfl | (dsimp only [inK]; omega) | (simp only [mulS_eq]; omega) | (simp only [mulS_eq, setL_length]; omega) | (simp only [setL_length, List.length_map]; omega) | exact ⟨by omega, by omega, by first | exact Nat.le_of_ble_eq_true rfl | (dsimp only; omega) | (simp only [setL_length]; omega) | (simp only [setL_length, List.length_map]; omega)⟩ | exact ⟨by omega, by first | rfl | omega, by omega, Nat.le_of_ble_eq_true rfl, Nat.le_of_ble_eq_true rfl⟩ | exact ⟨rfl, rfl, rfl, Nat.le_of_ble_eq_true rfl, by first | rfl | omega | exact Nat.le_of_ble_eq_true rfl | (simp; done) | (simp; omega), by first | rfl | omega | exact Nat.le_of_ble_eq_true rfl | (simp; done) | (simp; omega), by omega, Nat.le_of_ble_eq_true rfl⟩ | exact Eq.refl true) ?_)
                | (with_reducible refine ld (intL hxm) ?_)
                | (with_reducible refine ld (boolL hxs) ?_)
                | (refine Exists.intro _ (And.intro rfl ?_))
                | (refine And.intro (And.intro rfl (chk_rowI _ _ _ _)) ?_)
                | (refine br_t (by omega) ?_)
                | (refine br_f (by omega) ?_)
                | (refine bs_t (by omega) ?_)
                | (refine bs_f (by omega) ?_)
                | (refine fun (K' : K3) hK' => ?_)
                | (refine hK' _ _ _ ?_; clear hK' K')
                | (refine draw_auto tok mixed (by kernel_rfl) ?_)
                | (refine br_bt hs ?_)
                | (refine bs_bt hs ?_)
                | (refine And.intro (And.intro rfl rfl) ?_))
            refine ⟨x + 1, [], by omega, by omega, ?_⟩
            refine ⟨?_, ?_, rfl, rfl, Nat.le_of_ble_eq_true rfl⟩
            · repeat (first | exact trivial | refine And.intro (covS_syn (by first | rfl | (refine congrArg some (congrArg V.i ?_); fail)) rfl (by first | exact trivial | exact Nat.le_of_ble_eq_true rfl)) ?_ | refine And.intro (covS_bool rfl rfl (by first | rfl | (fail))) ?_)
            · repeat (first | exact trivial | (refine And.intro (covE_sem rfl (Nat.le_of_ble_eq_true rfl) (wf_bools _ _) rfl (.inl rfl) (fun ρ => den_toB (setb_cells rfl hset))) ?_) | refine And.intro (covE_id (Nat.le_of_ble_eq_true rfl) (by first | exact wf_ints _ _ | exact wf_bools _ _ | exact wf_shares _ _ | simp [C.wf]) rfl (by first | rfl | (fail))) ?_)
        · obtain rfl : x = B.Share.length := by omega
          have hxl' : ¬ ((B.Share.length : Int) < ((mv B (mvN B (oneS B i) m)).Oil.length : Int)) := by omega
          repeat ((conv => whnf); first
              | (refine And.intro (by first | omega | exact Nat.le_of_ble_eq_true rfl | (dsimp only [inK]; omega) | (simp only [mulS_eq]; omega) | (simp only [mulS_eq, setL_length]; omega) | (simp only [setL_length, List.length_map]; omega) | exact ⟨by omega, by omega, by first | exact Nat.le_of_ble_eq_true rfl | (dsimp only; omega) | (simp only [setL_length]; omega) | (simp only [setL_length, List.length_map]; omega)⟩ | exact ⟨by omega, by first | rfl | omega, by omega, Nat.le_of_ble_eq_true rfl, Nat.le_of_ble_eq_true rfl⟩ | exact ⟨rfl, rfl, rfl, Nat.le_of_ble_eq_true rfl, by first | rfl | omega | exact Nat.le_of_ble_eq_true rfl | (simp; done) | (simp; omega), by first | rfl | omega | exact Nat.le_of_ble_eq_true rfl | (simp; done) | (simp; omega), by omega, Nat.le_of_ble_eq_true rfl⟩ | exact Eq.refl true) ?_)
              | (refine Exists.intro _ (And.intro rfl ?_))
              | (refine And.intro (And.intro rfl (chk_rowI _ _ _ _)) ?_)
              | (refine br_t (by omega) ?_)
              | (refine br_f (by omega) ?_)
              | (refine bs_t (by omega) ?_)
              | (refine bs_f (by omega) ?_)
              | (refine fun (K' : K3) hK' => ?_)
              | (refine hK' _ _ _ ?_; clear hK' K')
              | (refine draw_auto tok mixed (by kernel_rfl) ?_)
              | (refine And.intro (And.intro rfl rfl) ?_))
          refine ⟨m + 1, [(4, some 6)], by omega, by omega, ?_⟩
          rw [seenX_all, hnext]
          refine ⟨?_, ?_, rfl, rfl, Nat.le_of_ble_eq_true rfl⟩
          · repeat (first | exact trivial | refine And.intro (covS_syn (by first | rfl) rfl (by first | exact trivial | exact Nat.le_of_ble_eq_true rfl)) ?_ | refine And.intro (covS_bool rfl rfl (by first | rfl)) ?_)
          · repeat (first | exact trivial | refine And.intro (covE_nil rfl (Nat.le_of_ble_eq_true rfl) rfl rfl) ?_ | refine And.intro (covE_some rfl (Nat.le_of_ble_eq_true rfl) (by first | exact wf_ints _ _ | exact wf_bools _ _ | exact wf_shares _ _ | simp [C.wf]) rfl (by first | exact ren_ints _ _ | exact ren_bools _ _ | exact ren_shares _ _ | (refine (ren_ints _ _).trans (congrArg some ?_); fail) | rfl)) ?_)
    · obtain rfl : m = n := by omega
      have hsl' : (seenL B i m).length = B.Share.length := seenL_len B i m
      repeat ((conv => whnf); first
          | (refine And.intro (by first | omega | exact Nat.le_of_ble_eq_true rfl | (dsimp only [inK]; omega) | (simp only [mulS_eq]; omega) | (simp only [mulS_eq, setL_length]; omega) | (simp only [setL_length, List.length_map]; omega) | exact ⟨by omega, by omega, by first | exact Nat.le_of_ble_eq_true rfl | (dsimp only; omega) | (simp only [setL_length]; omega) | (simp only [setL_length, List.length_map]; omega)⟩ | exact ⟨by omega, by first | rfl | omega, by omega, Nat.le_of_ble_eq_true rfl, Nat.le_of_ble_eq_true rfl⟩ | exact ⟨rfl, rfl, rfl, Nat.le_of_ble_eq_true rfl, by first | rfl | omega | exact Nat.le_of_ble_eq_true rfl | (simp; done) | (simp; omega), by first | rfl | omega | exact Nat.le_of_ble_eq_true rfl | (simp; done) | (simp; omega), by omega, Nat.le_of_ble_eq_true rfl⟩ | exact Eq.refl true) ?_)
          | (refine Exists.intro _ (And.intro rfl ?_))
          | (refine And.intro (And.intro rfl (chk_rowI _ _ _ _)) ?_)
          | (refine br_t (by omega) ?_)
          | (refine br_f (by omega) ?_)
          | (refine bs_t (by omega) ?_)
          | (refine bs_f (by omega) ?_)
          | (refine fun (K' : K3) hK' => ?_)
          | (refine hK' _ _ _ ?_; clear hK' K')
          | (refine draw_auto tok mixed (by kernel_rfl) ?_)
          | (refine And.intro (And.intro rfl rfl) ?_))
      refine Tri.loop (γ := Nat) (fun x => x ≤ B.Share.length)
        (fun x => [(13, V.c (.sl 6 (reachL B i m x).length)), (60, V.c (.sl 3 B.Land.length)), (61, V.i (B.Land.length : Int)), (62, V.i (x : Int))])
        (fun x => [⟨0, .ro 0, B.Land.map C.bool⟩, ⟨1, .ro 0, shareC B.Share⟩, ⟨3, .vec 4 1, (seenL B i m).map C.bool⟩, ⟨6, .vec 3 1, (reachL B i m x).map C.i⟩]) 7 (fun x => B.Share.length - x) 0 (R0 := [(6, none)]) ?_ ?_ ?_
      · exact Nat.zero_le _
      · skip
        refine ⟨?_, ?_, rfl, rfl, Nat.le_of_ble_eq_true rfl⟩
        · repeat (first | exact trivial | refine And.intro (covS_syn (by first | rfl) rfl (by first | exact trivial | exact Nat.le_of_ble_eq_true rfl)) ?_ | refine And.intro (covS_bool rfl rfl (by first | rfl)) ?_)
        · repeat (first | exact trivial | refine And.intro (covE_nil rfl (Nat.le_of_ble_eq_true rfl) rfl rfl) ?_ | refine And.intro (covE_some rfl (Nat.le_of_ble_eq_true rfl) (by first | exact wf_ints _ _ | exact wf_bools _ _ | exact wf_shares _ _ | simp [C.wf]) rfl (by first | exact ren_ints _ _ | exact ren_bools _ _ | exact ren_shares _ _ | (refine (ren_ints _ _).trans (congrArg some ?_); fail) | rfl)) ?_)
      · rintro x hx
        refine vc_ok tok ?_
        by_cases hxl : x < B.Share.length
        · have hxl' : (x : Int) < (B.Land.length : Int) := by omega
          have hxs : x < (seenL B i m).length := by omega
          have hg : (seenL B i m).getD x false = reachB B i m x := seenL_get hxl
          have hle := reachL_le B i m x
          have hlc : ((seenL B i m).map C.bool).length = B.Share.length := by rw [List.length_map, seenL_len]
          rcases bool_or ((seenL B i m).getD x false) with hs | hs
          · have hr : reachB B i m x = false := by rw [← hg, hs]
            repeat ((conv => whnf); first
                | (refine And.intro (by first | omega | exact Nat.le_of_ble_eq_true rfl | (dsimp only [inK]; omega) | (simp only [mulS_eq]; omega) | (simp only [mulS_eq, setL_length]; omega) | (simp only [setL_length, List.length_map]; omega) | exact ⟨by omega, by omega, by first | exact Nat.le_of_ble_eq_true rfl | (dsimp only; omega) | (simp only [setL_length]; omega) | (simp only [setL_length, List.length_map]; omega)⟩ | exact ⟨by omega, by first | rfl | omega, by omega, Nat.le_of_ble_eq_true rfl, Nat.le_of_ble_eq_true rfl⟩ | exact ⟨rfl, rfl, rfl, Nat.le_of_ble_eq_true rfl, by first | rfl | omega | exact Nat.le_of_ble_eq_true rfl | (simp; done) | (simp; omega), by first | rfl | omega | exact Nat.le_of_ble_eq_true rfl | (simp; done) | (simp; omega), by omega, Nat.le_of_ble_eq_true rfl⟩ | exact Eq.refl true) ?_)
                | (with_reducible refine ld (boolL hxs) ?_)
                | (refine Exists.intro _ (And.intro rfl ?_))
                | (refine And.intro (And.intro rfl (chk_rowI _ _ _ _)) ?_)
                | (refine br_t (by omega) ?_)
                | (refine br_f (by omega) ?_)
                | (refine bs_t (by omega) ?_)
                | (refine bs_f (by omega) ?_)
                | (refine fun (K' : K3) hK' => ?_)
                | (refine hK' _ _ _ ?_; clear hK' K')
                | (refine draw_auto tok mixed (by kernel_rfl) ?_)
                | (refine br_bf hs ?_)
                | (refine bs_bf hs ?_)
                | (refine And.intro (And.intro rfl rfl) ?_))
            refine ⟨x + 1, [], by omega, by omega, ?_⟩
            rw [reachL_no hr]
            refine ⟨?_, ?_, rfl, rfl, Nat.le_of_ble_eq_true rfl⟩
            · repeat (first | exact trivial | refine And.intro (covS_syn (by first | rfl) rfl (by first | exact trivial | exact Nat.le_of_ble_eq_true rfl)) ?_ | refine And.intro (covS_bool rfl rfl (by first | rfl)) ?_)
            · repeat (first | exact trivial | refine And.intro (covE_id (Nat.le_of_ble_eq_true rfl) (by first | exact wf_ints _ _ | exact wf_bools _ _ | exact wf_shares _ _ | simp [C.wf]) rfl (by first | rfl | (fail))) ?_)
          · have hr : reachB B i m x = true := by rw [← hg, hs]
            have hrow := yes_row hr
            have hlen := yes_len hr
            repeat ((conv => whnf); first
                | (refine And.intro (by first | omega | exact Nat.le_of_ble_eq_true rfl | (dsimp only [inK]; omega) | (simp only [mulS_eq]; omega) | (simp only [mulS_eq, setL_length]; omega) | (simp only [setL_length, List.length_map]; omega) | exact ⟨by omega, by omega, by first | exact Nat.le_of_ble_eq_true rfl | (dsimp only; omega) | (simp only [setL_length]; omega) | (simp only [setL_length, List.length_map]; omega)⟩ | exact ⟨by omega, by first | rfl | omega, by omega, Nat.le_of_ble_eq_true rfl, Nat.le_of_ble_eq_true rfl⟩ | exact ⟨rfl, rfl, rfl, Nat.le_of_ble_eq_true rfl, by first | rfl | omega | exact Nat.le_of_ble_eq_true rfl | (simp; done) | (simp; omega), by first | rfl | omega | exact Nat.le_of_ble_eq_true rfl | (simp; done) | (simp; omega), by omega, Nat.le_of_ble_eq_true rfl⟩ | exact Eq.refl true) ?_)
                | (with_reducible refine ld (boolL hxs) ?_)
                | (refine Exists.intro _ (And.intro rfl ?_))
                | (refine And.intro (And.intro rfl (chk_rowI _ _ _ _)) ?_)
                | (refine br_t (by omega) ?_)
                | (refine br_f (by omega) ?_)
                | (refine bs_t (by omega) ?_)
                | (refine bs_f (by omega) ?_)
                | (refine fun (K' : K3) hK' => ?_)
                | (refine hK' _ _ _ ?_; clear hK' K')
                | (refine draw_auto tok mixed (by kernel_rfl) ?_)
                | (refine br_bt hs ?_)
                | (refine bs_bt hs ?_)
                | (refine And.intro (And.intro rfl rfl) ?_))
            refine ⟨x + 1, [(6, some 8)], by omega, by omega, ?_⟩
            rw [hlen]
            refine ⟨?_, ?_, rfl, rfl, Nat.le_of_ble_eq_true rfl⟩
            · repeat (first | exact trivial | refine And.intro (covS_syn (by first | rfl) rfl (by first | exact trivial | exact Nat.le_of_ble_eq_true rfl)) ?_ | refine And.intro (covS_bool rfl rfl (by first | rfl)) ?_)
            · repeat (first | exact trivial | refine And.intro (covE_nil rfl (Nat.le_of_ble_eq_true rfl) rfl rfl) ?_ | refine And.intro (covE_some rfl (Nat.le_of_ble_eq_true rfl) (by first | exact wf_ints _ _ | exact wf_bools _ _ | exact wf_shares _ _ | simp [C.wf]) rfl (by first | exact ren_ints _ _ | exact ren_bools _ _ | exact ren_shares _ _ | (refine (ren_ints _ _).trans (congrArg some ?_); exact hrow) | rfl)) ?_)
        · obtain rfl : x = B.Share.length := by omega
          have hxl' : ¬ ((B.Share.length : Int) < (B.Land.length : Int)) := by omega
          repeat ((conv => whnf); first
              | (refine And.intro (by first | omega | exact Nat.le_of_ble_eq_true rfl | (dsimp only [inK]; omega) | (simp only [mulS_eq]; omega) | (simp only [mulS_eq, setL_length]; omega) | (simp only [setL_length, List.length_map]; omega) | exact ⟨by omega, by omega, by first | exact Nat.le_of_ble_eq_true rfl | (dsimp only; omega) | (simp only [setL_length]; omega) | (simp only [setL_length, List.length_map]; omega)⟩ | exact ⟨by omega, by first | rfl | omega, by omega, Nat.le_of_ble_eq_true rfl, Nat.le_of_ble_eq_true rfl⟩ | exact ⟨rfl, rfl, rfl, Nat.le_of_ble_eq_true rfl, by first | rfl | omega | exact Nat.le_of_ble_eq_true rfl | (simp; done) | (simp; omega), by first | rfl | omega | exact Nat.le_of_ble_eq_true rfl | (simp; done) | (simp; omega), by omega, Nat.le_of_ble_eq_true rfl⟩ | exact Eq.refl true) ?_)
              | (refine Exists.intro _ (And.intro rfl ?_))
              | (refine And.intro (And.intro rfl (chk_rowI _ _ _ _)) ?_)
              | (refine br_t (by omega) ?_)
              | (refine br_f (by omega) ?_)
              | (refine bs_t (by omega) ?_)
              | (refine bs_f (by omega) ?_)
              | (refine fun (K' : K3) hK' => ?_)
              | (refine hK' _ _ _ ?_; clear hK' K')
              | (refine draw_auto tok mixed (by kernel_rfl) ?_)
              | (refine And.intro (And.intro rfl rfl) ?_))
          exact .inr ⟨6, rfl, rfl⟩
end Go.Proofs.Ytnafllhgjidbkaa

/- Source and Reach, as their callers see them. -/
namespace Go.Proofs.Ytnafllhgjidbkaa
open Go.RowKit
set_option linter.unusedVariables false
set_option linter.unusedSimpArgs false
section
variable {B : Bay} {i n : Int} {w : World} {v : Value}
theorem bay_hp {la sa : Option Addr} {lc sc : Nat} (hl : BoolsAt w la B.Land) (hsh : FivesAt w sa B.Share) : Hp w.heap.size (fun l => match l with | 0 => (la, lc) | _ => (sa, sc)) w [⟨0, .ro 0, B.Land.map C.bool⟩, ⟨1, .ro 0, shareC B.Share⟩] 2 := by
  refine Hp.ros (fun e he => ?_) rfl
  simp only [List.mem_cons, List.not_mem_nil, or_false] at he
  rcases he with rfl | rfl
  · exact ⟨rfl, by simp, wf_bools _ _, by rw [den_bools]; exact hl⟩
  · exact ⟨rfl, by simp, wf_shares _ _, by rw [den_shares]; exact hsh⟩
theorem Source_any (hv : BayAt w v B) (hii : -9223372036854775808 ≤ i ∧ i ≤ 9223372036854775807) (hnn : -9223372036854775808 ≤ n ∧ n ≤ 9223372036854775807) :
    Calls Try.prog 53 #[v, .int .i64 i, .int .i64 n] w fun e w' => e = .returned (.tuple #[.int .i64 (srcI B i n), .int .i64 (srcE B i n)]) ∧ Below w.heap.size w w' := by
  obtain ⟨la, lc, sa, sc, rfl, hl, hsh, hll, hsl⟩ := hv
  have h := source_spec B i n hll hsl hii hnn _ w (bay_hp (lc := lc) (sc := sc) hl hsh) (by
    intro v hv
    simp only [List.mem_cons, List.not_mem_nil, or_false] at hv
    rcases hv with rfl | rfl | rfl <;> simp [V.wf, A.wf, C.wf, C.i])
  refine (show Calls Try.prog 53 #[.agg #[.int .i64 B.W, .int .i64 B.H, .slice la B.Land.length lc, .slice sa B.Share.length sc], .int .i64 i, .int .i64 n] w _ from h).mono ?_
  rintro e w' ⟨v, ρ', L', nx', rfl, h1, h2, h3, h4, h5, h6⟩
  exact ⟨by rw [h6 ρ']; rfl, h4⟩
theorem rSource_any (hv : BayAt w v B) (hii : -9223372036854775808 ≤ i ∧ i ≤ 9223372036854775807) (hnn : -9223372036854775808 ≤ n ∧ n ≤ 9223372036854775807) :
    Calls Try.prog 54 #[v, .int .i64 i, .int .i64 n] w fun e w' => e = .returned (.tuple #[.int .i64 (srcI B i n), .int .i64 (srcE B i n)]) ∧ Below w.heap.size w w' := by
  obtain ⟨la, lc, sa, sc, rfl, hl, hsh, hll, hsl⟩ := hv
  have h := rsource_spec B i n hll hsl hii hnn _ w (bay_hp (lc := lc) (sc := sc) hl hsh) (by
    intro v hv
    simp only [List.mem_cons, List.not_mem_nil, or_false] at hv
    rcases hv with rfl | rfl | rfl <;> simp [V.wf, A.wf, C.wf, C.i])
  refine (show Calls Try.prog 54 #[.agg #[.int .i64 B.W, .int .i64 B.H, .slice la B.Land.length lc, .slice sa B.Share.length sc], .int .i64 i, .int .i64 n] w _ from h).mono ?_
  rintro e w' ⟨v, ρ', L', nx', rfl, h1, h2, h3, h4, h5, h6⟩
  exact ⟨by rw [h6 ρ']; rfl, h4⟩
def RchW (w : World) (l : List Int) (Er : Int) (e : Ending) (w' : World) : Prop := ∃ ao c, e = .returned (.tuple #[.slice ao l.length c, .int .i64 Er]) ∧ IntsAt w' ao l ∧ (∀ a, ao = some a → w.heap.size ≤ a.block) ∧ Below w.heap.size w w'
theorem RchW_of {w' : World} {nx : Nat} {ρ : Env} {l : List Int} {Er : Int} {v : V} {L : List E} (hq : intsQ l Er v L) (hp : Hp w.heap.size ρ w' L nx) (hb : Below w.heap.size w w') : RchW w l Er (.returned (v.den ρ)) w' := by
  obtain ⟨o, rfl, ⟨rfl, h⟩ | ⟨lab, rfl, hf⟩⟩ := hq
  · refine ⟨none, 0, by rw [h]; rfl, ?_, by simp, hb⟩
    intro hc; rw [h] at hc; exact absurd rfl hc
  · obtain ⟨g1, g2⟩ := hp.row hf
    rw [den_ints] at g1
    exact ⟨(ρ lab).1, (ρ lab).2, rfl, g1, fun a ha => g2 rfl a ha, hb⟩
theorem Reach_any (hv : BayAt w v B) (hii : -9223372036854775808 ≤ i ∧ i ≤ 9223372036854775807) (hnn : -9223372036854775808 ≤ n ∧ n ≤ 9223372036854775807) :
    Calls Try.prog 55 #[v, .int .i64 i, .int .i64 n] w (RchW w (rchL B i n) (placE B i false n)) := by
  obtain ⟨la, lc, sa, sc, rfl, hl, hsh, hll, hsl⟩ := hv
  have h := reach_spec B i n hll hsl hii hnn _ w (bay_hp (lc := lc) (sc := sc) hl hsh) (by
    intro v hv
    simp only [List.mem_cons, List.not_mem_nil, or_false] at hv
    rcases hv with rfl | rfl | rfl <;> simp [V.wf, A.wf, C.wf, C.i])
  refine (show Calls Try.prog 55 #[.agg #[.int .i64 B.W, .int .i64 B.H, .slice la B.Land.length lc, .slice sa B.Share.length sc], .int .i64 i, .int .i64 n] w _ from h).mono ?_
  rintro e w' ⟨v, ρ', L', nx', rfl, h1, h2, h3, h4, h5, h6⟩
  exact RchW_of h6 h5 h4
theorem rReach_any (hv : BayAt w v B) (hii : -9223372036854775808 ≤ i ∧ i ≤ 9223372036854775807) (hnn : -9223372036854775808 ≤ n ∧ n ≤ 9223372036854775807) :
    Calls Try.prog 56 #[v, .int .i64 i, .int .i64 n] w (RchW w (rchL B i n) (placE B i false n)) := by
  obtain ⟨la, lc, sa, sc, rfl, hl, hsh, hll, hsl⟩ := hv
  have h := rreach_spec B i n hll hsl hii hnn _ w (bay_hp (lc := lc) (sc := sc) hl hsh) (by
    intro v hv
    simp only [List.mem_cons, List.not_mem_nil, or_false] at hv
    rcases hv with rfl | rfl | rfl <;> simp [V.wf, A.wf, C.wf, C.i])
  refine (show Calls Try.prog 56 #[.agg #[.int .i64 B.W, .int .i64 B.H, .slice la B.Land.length lc, .slice sa B.Share.length sc], .int .i64 i, .int .i64 n] w _ from h).mono ?_
  rintro e w' ⟨v, ρ', L', nx', rfl, h1, h2, h3, h4, h5, h6⟩
  exact RchW_of h6 h5 h4
end
section
variable {n0 nx a b c d : Nat} {ka kb kc kd : Kd} {L : List E} {K : V → List E → Nat → Prop} {B : Bay} {i n : Int}
theorem Source_k (hll : B.Land.length ≤ 100) (hsl : B.Share.length ≤ 100) (hii : -9223372036854775808 ≤ i ∧ i ≤ 9223372036854775807) (hnn : -9223372036854775808 ≤ n ∧ n ≤ 9223372036854775807) (ha : find L a = some ⟨a, ka, B.Land.map C.bool⟩) (hb : find L b = some ⟨b, kb, shareC B.Share⟩)
    (hK : K (V.tup [A.c (C.i (srcI B i n)), A.c (C.i (srcE B i n))]) [] nx) : CallK Try.prog n0 53 [V.agg [C.i B.W, C.i B.H, C.sl a B.Land.length, C.sl b B.Share.length], V.i i, V.i n] L nx K :=
  CallK.old (u := V.tup [A.c (C.i (srcI B i n)), A.c (C.i (srcE B i n))]) (by kernel_rfl) (by simp [V.wf, A.wf, C.wf, C.i]) (fun ρ w hp => Source_any (bay_of hp ha hb hll hsl) hii hnn) hK
theorem rSource_k (hll : B.Land.length ≤ 100) (hsl : B.Share.length ≤ 100) (hii : -9223372036854775808 ≤ i ∧ i ≤ 9223372036854775807) (hnn : -9223372036854775808 ≤ n ∧ n ≤ 9223372036854775807) (ha : find L a = some ⟨a, ka, B.Land.map C.bool⟩) (hb : find L b = some ⟨b, kb, shareC B.Share⟩)
    (hK : K (V.tup [A.c (C.i (srcI B i n)), A.c (C.i (srcE B i n))]) [] nx) : CallK Try.prog n0 54 [V.agg [C.i B.W, C.i B.H, C.sl a B.Land.length, C.sl b B.Share.length], V.i i, V.i n] L nx K :=
  CallK.old (u := V.tup [A.c (C.i (srcI B i n)), A.c (C.i (srcE B i n))]) (by kernel_rfl) (by simp [V.wf, A.wf, C.wf, C.i]) (fun ρ w hp => rSource_any (bay_of hp ha hb hll hsl) hii hnn) hK
theorem Worst_k (hll : B.Land.length ≤ 100) (hsl : B.Share.length ≤ 100) (hii : -9223372036854775808 ≤ i ∧ i ≤ 9223372036854775807) (hnn : -9223372036854775808 ≤ n ∧ n ≤ 9223372036854775807) (ha : find L a = some ⟨a, ka, B.Land.map C.bool⟩) (hb : find L b = some ⟨b, kb, shareC B.Share⟩)
    (hK : K (V.tup [A.c (C.i (worstI B i n)), A.c (C.i (worstE B i n))]) [] nx) : CallK Try.prog n0 51 [V.agg [C.i B.W, C.i B.H, C.sl a B.Land.length, C.sl b B.Share.length], V.i i, V.i n] L nx K :=
  CallK.old (u := V.tup [A.c (C.i (worstI B i n)), A.c (C.i (worstE B i n))]) (by kernel_rfl) (by simp [V.wf, A.wf, C.wf, C.i]) (fun ρ w hp => Worst_any _ B i n w (bay_of hp ha hb hll hsl) hii hnn) hK
theorem rWorst_k (hll : B.Land.length ≤ 100) (hsl : B.Share.length ≤ 100) (hii : -9223372036854775808 ≤ i ∧ i ≤ 9223372036854775807) (hnn : -9223372036854775808 ≤ n ∧ n ≤ 9223372036854775807) (ha : find L a = some ⟨a, ka, B.Land.map C.bool⟩) (hb : find L b = some ⟨b, kb, shareC B.Share⟩)
    (hK : K (V.tup [A.c (C.i (worstI B i n)), A.c (C.i (worstE B i n))]) [] nx) : CallK Try.prog n0 52 [V.agg [C.i B.W, C.i B.H, C.sl a B.Land.length, C.sl b B.Share.length], V.i i, V.i n] L nx K :=
  CallK.old (u := V.tup [A.c (C.i (worstI B i n)), A.c (C.i (worstE B i n))]) (by kernel_rfl) (by simp [V.wf, A.wf, C.wf, C.i]) (fun ρ w hp => rWorst_any _ B i n w (bay_of hp ha hb hll hsl) hii hnn) hK
theorem Reach_k (hll : B.Land.length ≤ 100) (hsl : B.Share.length ≤ 100) (hii : -9223372036854775808 ≤ i ∧ i ≤ 9223372036854775807) (hnn : -9223372036854775808 ≤ n ∧ n ≤ 9223372036854775807) (ha : find L a = some ⟨a, ka, B.Land.map C.bool⟩) (hb : find L b = some ⟨b, kb, shareC B.Share⟩)
    (hK : K (V.tup [A.c (C.sl nx (rchL B i n).length), A.c (C.i (placE B i false n))]) [⟨nx, .ro 0, (rchL B i n).map C.i⟩] (nx + 1)) : CallK Try.prog n0 55 [V.agg [C.i B.W, C.i B.H, C.sl a B.Land.length, C.sl b B.Share.length], V.i i, V.i n] L nx K := by
  refine CallK.oldRo (l := rchL B i n) (u := V.tup [A.c (C.sl nx (rchL B i n).length), A.c (C.i (placE B i false n))]) (by kernel_rfl) (by simp [V.wf, A.wf, C.wf, C.i]) (fun ρ w hp => (Reach_any (bay_of hp ha hb hll hsl) hii hnn).mono ?_) hK
  rintro e w' ⟨ao, cc, rfl, h1, h2, h3⟩
  exact ⟨ao, cc, by simp [V.den, A.den, C.den, C.i, Env.put_same], h1, h2, h3⟩
theorem rReach_k (hll : B.Land.length ≤ 100) (hsl : B.Share.length ≤ 100) (hii : -9223372036854775808 ≤ i ∧ i ≤ 9223372036854775807) (hnn : -9223372036854775808 ≤ n ∧ n ≤ 9223372036854775807) (ha : find L a = some ⟨a, ka, B.Land.map C.bool⟩) (hb : find L b = some ⟨b, kb, shareC B.Share⟩)
    (hK : K (V.tup [A.c (C.sl nx (rchL B i n).length), A.c (C.i (placE B i false n))]) [⟨nx, .ro 0, (rchL B i n).map C.i⟩] (nx + 1)) : CallK Try.prog n0 56 [V.agg [C.i B.W, C.i B.H, C.sl a B.Land.length, C.sl b B.Share.length], V.i i, V.i n] L nx K := by
  refine CallK.oldRo (l := rchL B i n) (u := V.tup [A.c (C.sl nx (rchL B i n).length), A.c (C.i (placE B i false n))]) (by kernel_rfl) (by simp [V.wf, A.wf, C.wf, C.i]) (fun ρ w hp => (rReach_any (bay_of hp ha hb hll hsl) hii hnn).mono ?_) hK
  rintro e w' ⟨ao, cc, rfl, h1, h2, h3⟩
  exact ⟨ao, cc, by simp [V.den, A.den, C.den, C.i, Env.put_same], h1, h2, h3⟩
theorem sameInts_k {l : List Int} (hn : l.length ≤ 1000000) (hc : find L c = some ⟨c, kc, l.map C.i⟩) (hd : find L d = some ⟨d, kd, l.map C.i⟩) (hK : K (V.c (.bool (sameB l l))) [] nx) :
    CallK Try.prog n0 29 [V.c (.sl c l.length), V.c (.sl d l.length)] L nx K :=
  CallK.old (u := V.c (.bool (sameB l l))) (by kernel_rfl) trivial (fun ρ w hp => sameInts_any _ _ _ _ l l w (ints_of hp hc) (ints_of hp hd) hn hn) hK
theorem has_k {l : List Int} {x : Int} (hn : l.length ≤ 1000) (hc : find L c = some ⟨c, kc, l.map C.i⟩) (hK : K (V.c (.bool (l.contains x))) [] nx) : CallK Try.prog n0 57 [V.c (.sl c l.length), V.i x] L nx K :=
  CallK.old (u := V.c (.bool (l.contains x))) (by kernel_rfl) trivial (fun ρ w hp => has_any _ _ l x w (ints_of hp hc) hn) hK
end
theorem rchL_le (B : Bay) (i n : Int) : (rchL B i n).length ≤ B.Share.length := by
  unfold rchL; split
  · exact reachL_le _ _ _ _
  · simp
end Go.Proofs.Ytnafllhgjidbkaa

/- Oil of a cell is only where it is said to come: the plain law. -/
namespace Go.Proofs.Ytnafllhgjidbkaa
open Go.RowKit
set_option linter.unusedVariables false
set_option linter.unusedSimpArgs false
theorem reach_mem {B : Bay} {i m : Nat} {x : Int} : x ∈ reachL B i m B.Share.length ↔ ∃ j : Nat, j < B.Share.length ∧ reachB B i m j = true ∧ x = j := by
  unfold reachL reachN
  simp only [List.mem_map, List.mem_filter, List.mem_range]
  constructor
  · rintro ⟨j, ⟨h1, h2⟩, rfl⟩; exact ⟨j, h1, h2, rfl⟩
  · rintro ⟨j, h1, h2, rfl⟩; exact ⟨j, ⟨h1, h2⟩, rfl⟩
theorem reach_has {B : Bay} {i m j : Nat} (hj : j < B.Share.length) (h : reachB B i m j = true) : (reachL B i m B.Share.length).contains (j : Int) = true := by
  rw [List.contains_iff_mem]; exact reach_mem.2 ⟨j, hj, h, rfl⟩
theorem place_yes {B : Bay} {i k : Nat} {ld : Bool} (hval : validP B) (hi : i < B.Share.length) (hk : k ≤ 5) (hl : B.Land.getD i false = ld) : placE B i ld k = 0 := by
  unfold placE
  rw [if_pos (validB_true hval), if_pos ⟨cellB_true ⟨by omega, by omega, by simpa using hl⟩, by omega, by omega⟩]
theorem place_not {B : Bay} {i k : Nat} {ld : Bool} (hval : validP B) (hl : B.Land.getD i false ≠ ld) : placE B i ld k = 2 := by
  unfold placE
  rw [if_pos (validB_true hval), if_neg (fun h => by rw [cellB_false (fun hc => hl (by simpa using hc.2.2))] at h; exact absurd h.1 (by decide))]
theorem src_facts {B : Bay} {i k : Nat} (hval : validP B) (hi : i < B.Share.length) (hk : k ≤ 5) (hl : B.Land.getD i false = true) :
    (srcE B i k = 5 ∧ srcI B i k = 0) ∨ (srcE B i k = 0 ∧ srcI B i k < B.Share.length ∧ placE B (srcI B i k) false k = 0 ∧ (rchL B (srcI B i k) k).contains (i : Int) = true) := by
  obtain ⟨hE, hI⟩ := src_yes (place_yes hval hi hk hl)
  have hfn := fromL_nonneg (B := B) (i := i) (n := k) hval hk
  have hsp := bestU_spec (fromL B i k) B.Share.length (fun j hj => (hfn j hj).1)
  rcases hsp.2.2 with ⟨h1, h2⟩ | ⟨h1, h2, h3, _⟩
  · left
    rw [hE, hI, h1, h2]; exact ⟨rfl, rfl⟩
  · right
    have hg : gE (bestU (fromL B i k) B.Share.length).2 = 0 := by unfold gE; rw [if_neg (by omega)]
    rw [hE, hI]
    generalize (bestU (fromL B i k) B.Share.length).1 = f at *
    rw [fromL_get h2] at h3
    have hlf : B.Land.getD f false = false := by
      cases hlf : B.Land.getD f false
      · rfl
      · rw [if_pos hlf] at h3; omega
    rw [if_neg (by rw [hlf]; simp)] at h3
    have hp := place_yes (k := k) hval h2 hk hlf
    refine ⟨hg, h2, hp, ?_⟩
    rw [rchL_yes hp]
    exact reach_has hi (reachB_iff.2 ⟨k, Nat.le_refl _, by omega⟩)
theorem worst_facts {B : Bay} {i k : Nat} (hval : validP B) (hi : i < B.Share.length) (hk : k ≤ 5) (hl : B.Land.getD i false = false) :
    (worstE B i k = 5 ∧ worstI B i k = 0 ∧ ∀ j, j < B.Share.length → B.Land.getD j false = true → (mvN B (oneS B i) k).Oil.getD j 0 ≤ 0) ∨
      (worstE B i k = 0 ∧ worstI B i k < B.Share.length ∧ (∀ j, j < B.Share.length → B.Land.getD j false = true → (mvN B (oneS B i) k).Oil.getD j 0 ≤ (mvN B (oneS B i) k).Oil.getD (worstI B i k) 0) ∧ (rchL B i k).contains (worstI B i k : Int) = true) := by
  have hp := place_yes (k := k) hval hi hk hl
  have hol : (mvN B (oneS B i) k).Oil.length = B.Share.length := by rw [mvN_len, oneS_len]
  have hE : worstE B i k = gE (bestU (landsL B (mvN B (oneS B i) k).Oil true) B.Share.length).2 := by unfold worstE; rw [if_pos hp]; rfl
  have hI : worstI B i k = (bestU (landsL B (mvN B (oneS B i) k).Oil true) B.Share.length).1 := by unfold worstI; rw [if_pos hp]; rfl
  have hg : ∀ j, j < B.Share.length → (landsL B (mvN B (oneS B i) k).Oil true).getD j 0 = if B.Land.getD j false = true then (mvN B (oneS B i) k).Oil.getD j 0 else 0 := fun j hj => lands_get B _ _ (by omega)
  have hn : ∀ j, j < B.Share.length → 0 ≤ (landsL B (mvN B (oneS B i) k).Oil true).getD j 0 := fun j hj => by
    rw [hg j hj]
    split
    · exact (one_nonneg hval hi hk).1
    · omega
  have hsp := bestU_spec (landsL B (mvN B (oneS B i) k).Oil true) B.Share.length hn
  rw [hE, hI]
  rcases hsp.2.2 with ⟨h1, h2⟩ | ⟨h1, h2, h3, _⟩
  · left
    refine ⟨by rw [h1]; rfl, h2, fun j hj hlj => ?_⟩
    have h4 := hsp.2.1 j hj
    rw [hg j hj, if_pos hlj] at h4; omega
  · right
    have hge : gE (bestU (landsL B (mvN B (oneS B i) k).Oil true) B.Share.length).2 = 0 := by unfold gE; rw [if_neg (by omega)]
    have h4 := hsp.2.1
    generalize (bestU (landsL B (mvN B (oneS B i) k).Oil true) B.Share.length).1 = f at *
    generalize (bestU (landsL B (mvN B (oneS B i) k).Oil true) B.Share.length).2 = v at *
    rw [hg f h2] at h3
    have hlf : B.Land.getD f false = true := by
      cases hlf : B.Land.getD f false
      · rw [if_neg (by rw [hlf]; simp)] at h3; omega
      · rfl
    rw [if_pos hlf] at h3
    refine ⟨hge, h2, fun j hj hlj => ?_, ?_⟩
    · have h5 := h4 j hj
      rw [hg j hj, if_pos hlj] at h5; omega
    · rw [rchL_yes hp]
      exact reach_has h2 (reachB_iff.2 ⟨k, Nat.le_refl _, by omega⟩)
theorem reach_self {B : Bay} {i k : Nat} (hval : validP B) (hi : i < B.Share.length) (hk : k ≤ 5) (hl : B.Land.getD i false = false) : (rchL B i k).contains (i : Int) = true := by
  rw [rchL_yes (place_yes hval hi hk hl)]
  refine reach_has hi (reachB_iff.2 ⟨0, Nat.zero_le _, ?_⟩)
  show 0 < (oneS B i).Oil.getD i 0
  rw [oneS_get hi, if_pos rfl]; omega
theorem reach_pos {B : Bay} {i k j : Nat} (hval : validP B) (hi : i < B.Share.length) (hj : j < B.Share.length) (hk : k ≤ 5) (hl : B.Land.getD i false = false) (h : 0 < (mvN B (oneS B i) k).Oil.getD j 0) : (rchL B i k).contains (j : Int) = true := by
  rw [rchL_yes (place_yes hval hi hk hl)]
  exact reach_has hj (reachB_iff.2 ⟨k, Nat.le_refl _, h⟩)
theorem filter_one {p : Nat → Bool} {i : Nat} (hp : ∀ j, p j = decide (j = i)) : ∀ n, ((List.range n).filter p).length = if i < n then 1 else 0
  | 0 => by simp
  | n + 1 => by
    rw [List.range_succ, List.filter_append, List.length_append, filter_one hp n]
    by_cases h : n = i
    · subst h
      rw [if_neg (by omega), if_pos (by omega)]
      simp [hp]
    · have hd : p n = false := by rw [hp]; exact decide_eq_false h
      by_cases h2 : i < n
      · rw [if_pos h2, if_pos (by omega)]; simp [hd]
      · rw [if_neg h2, if_neg (by omega)]; simp [hd]
theorem reach_one {B : Bay} {i : Nat} (hval : validP B) (hi : i < B.Share.length) (hl : B.Land.getD i false = false) : (rchL B i (0 : Nat)).length = 1 := by
  rw [rchL_yes (place_yes hval hi (by omega) hl)]
  unfold reachL reachN
  rw [List.length_map, filter_one (fun j => reachB_zero hi), if_pos hi]
theorem reach_more {B : Bay} {i k m j : Nat} (hval : validP B) (hi : i < B.Share.length) (hk : k ≤ 5) (hm : m ≤ k) (hl : B.Land.getD i false = false) (hj : j < (rchL B i m).length) : (rchL B i k).contains ((rchL B i m).getD j 0) = true := by
  have e1 := rchL_yes (place_yes (k := k) hval hi hk hl)
  have e2 := rchL_yes (place_yes (k := m) hval hi (by omega) hl)
  rw [e1, e2]
  rw [e2] at hj
  have hmem : (reachL B i m B.Share.length).getD j 0 ∈ reachL B i m B.Share.length := by
    rw [List.getD_eq_getElem?_getD, List.getElem?_eq_getElem hj]; simp
  obtain ⟨x, h1, h2, h3⟩ := reach_mem.1 hmem
  rw [h3]
  obtain ⟨q, hq, h4⟩ := reachB_iff.1 h2
  exact reach_has h1 (reachB_iff.2 ⟨q, by omega, h4⟩)
section
variable {n0 nx a b c d : Nat} {ka kb kc kd : Kd} {L : List E} {K : V → List E → Nat → Prop} {B : Bay} {i n : Nat} {z y : Int}
theorem Source_kz (hz : z = i) (hy : y = n) (hll : B.Land.length ≤ 100) (hsl : B.Share.length ≤ 100) (hii : i ≤ 1000) (hnn : n ≤ 1000) (ha : find L a = some ⟨a, ka, B.Land.map C.bool⟩) (hb : find L b = some ⟨b, kb, shareC B.Share⟩)
    (hK : K (V.tup [A.c (C.i (srcI B i n)), A.c (C.i (srcE B i n))]) [] nx) : CallK Try.prog n0 53 [V.agg [C.i B.W, C.i B.H, C.sl a B.Land.length, C.sl b B.Share.length], V.i z, V.i y] L nx K := by
  subst hz hy; exact Source_k hll hsl (by omega) (by omega) ha hb hK
theorem Worst_kz (hz : z = i) (hy : y = n) (hll : B.Land.length ≤ 100) (hsl : B.Share.length ≤ 100) (hii : i ≤ 1000) (hnn : n ≤ 1000) (ha : find L a = some ⟨a, ka, B.Land.map C.bool⟩) (hb : find L b = some ⟨b, kb, shareC B.Share⟩)
    (hK : K (V.tup [A.c (C.i (worstI B i n)), A.c (C.i (worstE B i n))]) [] nx) : CallK Try.prog n0 51 [V.agg [C.i B.W, C.i B.H, C.sl a B.Land.length, C.sl b B.Share.length], V.i z, V.i y] L nx K := by
  subst hz hy; exact Worst_k hll hsl (by omega) (by omega) ha hb hK
theorem Reach_kz (hz : z = i) (hy : y = n) (hll : B.Land.length ≤ 100) (hsl : B.Share.length ≤ 100) (hii : i ≤ 1000) (hnn : n ≤ 1000) (ha : find L a = some ⟨a, ka, B.Land.map C.bool⟩) (hb : find L b = some ⟨b, kb, shareC B.Share⟩)
    (hK : K (V.tup [A.c (C.sl nx (rchL B i n).length), A.c (C.i (placE B i false n))]) [⟨nx, .ro 0, (rchL B i n).map C.i⟩] (nx + 1)) : CallK Try.prog n0 55 [V.agg [C.i B.W, C.i B.H, C.sl a B.Land.length, C.sl b B.Share.length], V.i z, V.i y] L nx K := by
  subst hz hy; exact Reach_k hll hsl (by omega) (by omega) ha hb hK
theorem One_kz (hz : z = i) (hval : validP B) (hll : B.Land.length ≤ 100) (hsl : B.Share.length ≤ 100) (hi : i ≤ B.Share.length) (ha : find L a = some ⟨a, ka, B.Land.map C.bool⟩) (hb : find L b = some ⟨b, kb, shareC B.Share⟩)
    (hK : K (V.agg [C.i (oneS B i).K, C.sl nx (oneS B i).Oil.length, C.i (oneS B i).Away]) [⟨nx, .ro 0, (oneS B i).Oil.map C.i⟩] (nx + 1)) :
    CallK Try.prog n0 58 [V.agg [C.i B.W, C.i B.H, C.sl a B.Land.length, C.sl b B.Share.length], V.i z] L nx K := by
  subst hz; exact One_k hval hll hsl hi ha hb hK
theorem After_kz (hy : y = n) (hval : validP B) (hll : B.Land.length ≤ 100) (hsl : B.Share.length ≤ 100) (hi : i < B.Share.length) (hn : n ≤ 5) (ha : find L a = some ⟨a, ka, B.Land.map C.bool⟩) (hb : find L b = some ⟨b, kb, shareC B.Share⟩) (hc : find L c = some ⟨c, kc, (oneS B i).Oil.map C.i⟩)
    (hK : K (V.tup [A.agg [C.i (mvN B (oneS B i) n).K, C.sl nx (mvN B (oneS B i) n).Oil.length, C.i (mvN B (oneS B i) n).Away], A.c (C.i 0)]) [⟨nx, .ro 0, (mvN B (oneS B i) n).Oil.map C.i⟩] (nx + 1)) :
    CallK Try.prog n0 20 [V.agg [C.i B.W, C.i B.H, C.sl a B.Land.length, C.sl b B.Share.length], V.agg [C.i (oneS B i).K, C.sl c (oneS B i).Oil.length, C.i (oneS B i).Away], V.i y] L nx K := by
  subst hy
  have h := aft_ok (n := n) hval (one_mv (k := 0) hval hi (by omega)).1 (by rw [show (mvN B (oneS B i) 0).K = 0 from (one_mv (k := 0) hval hi (by omega)).2]; omega)
  rw [show mvN B (oneS B i) 0 = oneS B i from rfl] at h
  refine After_k (s := oneS B i) hll hsl (by rw [oneS_len]; omega) (by omega) ha hb hc ?_
  rw [h.1, h.2]; exact hK
theorem has_kz {l : List Int} {x : Int} {m : Nat} (hm : m = l.length) (hn : l.length ≤ 1000) (hc : find L c = some ⟨c, kc, l.map C.i⟩) (hK : K (V.c (.bool (l.contains x))) [] nx) : CallK Try.prog n0 57 [V.c (.sl c m), V.i x] L nx K := by
  subst hm; exact has_k hn hc hK
end
end Go.Proofs.Ytnafllhgjidbkaa

/- The law that oil comes only where it is said to come. -/
namespace Go.Proofs.Ytnafllhgjidbkaa
open Go.RowKit
set_option linter.unusedVariables false
set_option linter.unusedSimpArgs false
set_option maxRecDepth 100000 in
set_option maxHeartbeats 1000000 in
theorem spreads_spec (B : Bay) (cell m : Int) (hcell : 0 ≤ cell ∧ cell ≤ 255) (hm : 0 ≤ m ∧ m ≤ 255) :
    Spec Try.prog 14 [V.agg [C.i B.W, C.i B.H, C.sl 0 B.Land.length, C.sl 1 B.Share.length], V.c (.int .u8 cell), V.c (.int .u8 m)] [⟨0, .ro 0, B.Land.map C.bool⟩, ⟨1, .ro 0, shareC B.Share⟩] 2 (Is (V.c (.bool true))) := by
  by_cases hL : 100 < B.Land.length ∨ 100 < B.Share.length
  · have hL' : decide (100 < B.Land.length ∨ 100 < B.Share.length) = true := decide_eq_true hL
    refine Spec.of tok Try.func14 rfl rfl rfl fun n0 => vc_ok tok ?_
    repeat ((conv => whnf); first
        | (refine And.intro (by first | omega | exact Nat.le_of_ble_eq_true rfl | (dsimp only [inK]; omega) | (simp only [mulS_eq]; omega) | (simp only [mulS_eq, setL_length]; omega) | (simp only [setL_length, List.length_map]; omega) | exact ⟨by omega, by omega, by first | exact Nat.le_of_ble_eq_true rfl | (dsimp only; omega) | (simp only [setL_length]; omega) | (simp only [setL_length, List.length_map]; omega)⟩ | exact ⟨by omega, by first | rfl | omega, by omega, Nat.le_of_ble_eq_true rfl, Nat.le_of_ble_eq_true rfl⟩ | exact ⟨rfl, rfl, rfl, Nat.le_of_ble_eq_true rfl, by first | rfl | omega | exact Nat.le_of_ble_eq_true rfl | (simp; done) | (simp; omega), by first | rfl | omega | exact Nat.le_of_ble_eq_true rfl | (simp; done) | (simp; omega), by omega, Nat.le_of_ble_eq_true rfl⟩ | exact Eq.refl true) ?_)
        | (refine Exists.intro _ (And.intro rfl ?_))
        | (refine And.intro (And.intro rfl (chk_rowI _ _ _ _)) ?_)
        | (refine br_t (by omega) ?_)
        | (refine br_f (by omega) ?_)
        | (refine bs_t (by omega) ?_)
        | (refine bs_f (by omega) ?_)
        | (refine fun (K' : K3) hK' => ?_)
        | (refine hK' _ _ _ ?_; clear hK' K')
        | (refine draw_auto tok mixed (by kernel_rfl) ?_)
        | (refine Long_k B ?_)
        | (refine Sane_k ?_)
        | (refine bs_bt hL' ?_)
        | (refine br_bt hL' ?_)
        | (refine And.intro (And.intro rfl rfl) ?_))
    intro ρ; rfl
  have hL' : decide (100 < B.Land.length ∨ 100 < B.Share.length) = false := decide_eq_false hL
  have hll : B.Land.length ≤ 100 := by omega
  have hsl : B.Share.length ≤ 100 := by omega
  rcases bool_or (validB B) with hvb | hvb
  · have hv' : (!validB B) = true := by rw [hvb]; rfl
    refine Spec.of tok Try.func14 rfl rfl rfl fun n0 => vc_ok tok ?_
    repeat ((conv => whnf); first
        | (refine And.intro (by first | omega | exact Nat.le_of_ble_eq_true rfl | (dsimp only [inK]; omega) | (simp only [mulS_eq]; omega) | (simp only [mulS_eq, setL_length]; omega) | (simp only [setL_length, List.length_map]; omega) | exact ⟨by omega, by omega, by first | exact Nat.le_of_ble_eq_true rfl | (dsimp only; omega) | (simp only [setL_length]; omega) | (simp only [setL_length, List.length_map]; omega)⟩ | exact ⟨by omega, by first | rfl | omega, by omega, Nat.le_of_ble_eq_true rfl, Nat.le_of_ble_eq_true rfl⟩ | exact ⟨rfl, rfl, rfl, Nat.le_of_ble_eq_true rfl, by first | rfl | omega | exact Nat.le_of_ble_eq_true rfl | (simp; done) | (simp; omega), by first | rfl | omega | exact Nat.le_of_ble_eq_true rfl | (simp; done) | (simp; omega), by omega, Nat.le_of_ble_eq_true rfl⟩ | exact Eq.refl true) ?_)
        | (refine Exists.intro _ (And.intro rfl ?_))
        | (refine And.intro (And.intro rfl (chk_rowI _ _ _ _)) ?_)
        | (refine br_t (by omega) ?_)
        | (refine br_f (by omega) ?_)
        | (refine bs_t (by omega) ?_)
        | (refine bs_f (by omega) ?_)
        | (refine fun (K' : K3) hK' => ?_)
        | (refine hK' _ _ _ ?_; clear hK' K')
        | (refine draw_auto tok mixed (by kernel_rfl) ?_)
        | (refine Long_k B ?_)
        | (refine rvalid_k hll hsl rfl rfl ?_)
        | (refine Sane_k ?_)
        | (refine bs_bf hL' ?_)
        | (refine br_bf hL' ?_)
        | (refine bs_bt hv' ?_)
        | (refine br_bt hv' ?_)
        | (refine And.intro (And.intro rfl rfl) ?_))
    intro ρ; rfl
  have hv' : (!validB B) = false := by rw [hvb]; rfl
  have hval : validP B := by simpa [validB] using hvb
  have hN : B.Land.length = B.Share.length := by have := hval.2.2.1; have := hval.2.2.2.1; omega
  have hN36 := mul36 hval.1.1 hval.1.2 hval.2.1.1 hval.2.1.2
  have hSS := hval.2.2.2.1
  have hN1 : 1 ≤ B.Share.length := by omega
  obtain ⟨i, hi⟩ : ∃ i : Nat, cell % (B.Land.length : Int) = i := ⟨(cell % (B.Land.length : Int)).toNat, by have := Int.emod_nonneg cell (show (B.Land.length : Int) ≠ 0 by omega); omega⟩
  have hiN : i < B.Share.length := by have := Int.emod_lt_of_pos cell (show (0 : Int) < B.Land.length by omega); omega
  obtain ⟨k, hk⟩ : ∃ k : Nat, m % 6 = k := ⟨(m % 6).toNat, by omega⟩
  have hk5 : k ≤ 5 := by omega
  rcases bool_or (B.Land.getD i false) with hld | hld
  · have hpl := place_yes (k := k) hval hiN hk5 hld
    have hself := reach_self hval hiN hk5 hld
    have hself' : (!(rchL B i k).contains (cell % (B.Land.length : Int))) = false := by rw [hi, hself]; rfl
    have hrl := rchL_le B i k
    have hml : (mvN B (oneS B i) k).Oil.length = B.Share.length := by rw [mvN_len, oneS_len]
    have hol : (oneS B i).Oil.length = B.Share.length := oneS_len B i
    have hwf := worst_facts hval hiN hk5 hld
    have hpos : ∀ j, j < B.Share.length → 0 < (mvN B (oneS B i) k).Oil.getD j 0 → (rchL B i k).contains (j : Int) = true := fun j hj h => reach_pos hval hiN hj hk5 hld h
    have hone := reach_one hval hiN hld
    have hwI : worstI B i k < B.Share.length := by rcases hwf with h | h <;> omega
    have hwE : worstE B i k = 0 ∨ worstE B i k = 5 := by rcases hwf with h | h <;> omega
    -- the walk up to the first loop
    have hwf0 : ∀ j, j < B.Share.length → B.Land.getD j false = true → (worstE B i k = 5 → (mvN B (oneS B i) k).Oil.getD j 0 ≤ 0) ∧ (worstE B i k = 0 → (mvN B (oneS B i) k).Oil.getD j 0 ≤ (mvN B (oneS B i) k).Oil.getD (worstI B i k) 0) := fun j hj hl => by
      rcases hwf with h | h
      · exact ⟨fun _ => h.2.2 j hj hl, fun h2 => by omega⟩
      · exact ⟨fun h2 => by omega, fun _ => h.2.2.1 j hj hl⟩
    have hhasw : worstE B i k = 0 → (rchL B i k).contains (worstI B i k : Int) = true := fun h0 => by
      rcases hwf with h | h
      · omega
      · exact h.2.2.2
    clear hwf
    have hwE' := hwE
    rcases hwE with hwE | hwE
    · skip
      refine Spec.of tok Try.func14 rfl rfl rfl fun n0 => vc_ok tok ?_
      repeat ((conv => whnf); first
          | (refine And.intro (by first | omega | exact Nat.le_of_ble_eq_true rfl | (dsimp only [inK]; omega) | (simp only [mulS_eq]; omega) | (simp only [mulS_eq, setL_length]; omega) | (simp only [setL_length, List.length_map]; omega) | exact ⟨by omega, by omega, by first | exact Nat.le_of_ble_eq_true rfl | (dsimp only; omega) | (simp only [setL_length]; omega) | (simp only [setL_length, List.length_map]; omega)⟩ | exact ⟨by omega, by first | rfl | omega, by omega, Nat.le_of_ble_eq_true rfl, Nat.le_of_ble_eq_true rfl⟩ | exact ⟨rfl, rfl, rfl, Nat.le_of_ble_eq_true rfl, by first | rfl | omega | exact Nat.le_of_ble_eq_true rfl | (simp; done) | (simp; omega), by first | rfl | omega | exact Nat.le_of_ble_eq_true rfl | (simp; done) | (simp; omega), by omega, Nat.le_of_ble_eq_true rfl⟩ | exact Eq.refl true) ?_)
          | (with_reducible refine ld (boolLz hi (by omega)) ?_)
          | (refine Exists.intro _ (And.intro rfl ?_))
          | (refine And.intro (And.intro rfl (chk_rowI _ _ _ _)) ?_)
          | (refine br_t (by omega) ?_)
          | (refine br_f (by omega) ?_)
          | (refine bs_t (by omega) ?_)
          | (refine bs_f (by omega) ?_)
          | (refine fun (K' : K3) hK' => ?_)
          | (refine hK' _ _ _ ?_; clear hK' K')
          | (refine draw_late 11 [6] tok mixed (by kernel_rfl) ?_)
          | (refine draw_auto tok mixed (by kernel_rfl) ?_)
          | (refine Long_k B ?_)
          | (refine rvalid_k hll hsl rfl rfl ?_)
          | (refine bs_bf hL' ?_)
          | (refine br_bf hL' ?_)
          | (refine bs_bf hv' ?_)
          | (refine br_bf hv' ?_)
          | (refine Reach_kz hi hk hll hsl (by omega) (by omega) rfl rfl ?_)
          | (refine br_bf hld ?_)
          | (refine bs_bf hld ?_)
          | (refine HD_mk (fun _ h => One_kz hi hval hll hsl (by omega) rfl rfl h) ?_)
          | (refine HD_mk (fun _ h => After_kz (i := i) hk hval hll hsl hiN hk5 rfl rfl rfl h) ?_)
          | (refine Worst_kz hi hk hll hsl (by omega) (by omega) rfl rfl ?_)
          | (refine has_kz (l := rchL B i k) rfl (by omega) rfl ?_)
          | (refine bs_bf hself' ?_)
          | (refine br_bf hself' ?_)
          | (refine And.intro (And.intro rfl rfl) ?_))
      refine Tri.loop (γ := Nat) (fun j => j ≤ B.Share.length)
        (fun j => [(3, V.c (.ptr 2 0)), (7, V.i (cell % (B.Land.length : Int))), (8, V.i (m % 6)), (9, V.c (.sl 3 (rchL B i k).length)), (15, V.c (.ptr 6 0)), (17, V.i (worstI B i k : Int)), (18, V.i (worstE B i k)), (19, V.i (j : Int))])
        (fun j => [⟨0, .ro 0, B.Land.map C.bool⟩, ⟨1, .ro 0, shareC B.Share⟩, ⟨2, .own 25, [C.i B.W, C.i B.H, C.sl 0 B.Land.length, C.sl 1 B.Share.length]⟩, ⟨3, .ro 0, (rchL B i k).map C.i⟩, ⟨5, .ro 0, (mvN B (oneS B i) k).Oil.map C.i⟩, ⟨6, .own 28, [C.i (mvN B (oneS B i) k).K, C.sl 5 (mvN B (oneS B i) k).Oil.length, C.i (mvN B (oneS B i) k).Away]⟩]) 8 (fun j => B.Share.length - j) 0 (R0 := []) ?_ ?_ ?_
      · exact Nat.zero_le _
      · skip
        refine ⟨?_, ?_, rfl, rfl, Nat.le_of_ble_eq_true rfl⟩
        · repeat (first | exact trivial | refine And.intro (covS_syn (by first | rfl) rfl (by first | exact trivial | exact Nat.le_of_ble_eq_true rfl)) ?_ | refine And.intro (covS_bool rfl rfl (by first | rfl)) ?_)
        · repeat (first | exact trivial | refine And.intro (covE_id (Nat.le_of_ble_eq_true rfl) (by first | exact wf_ints _ _ | exact wf_bools _ _ | exact wf_shares _ _ | simp [C.wf]) rfl (by first | rfl | (fail))) ?_)
      · rintro j hj
        refine vc_ok tok ?_
        by_cases hlt : j < B.Share.length
        · have hjm : j < (mvN B (oneS B i) k).Oil.length := by omega
          have hwm : worstI B i k < (mvN B (oneS B i) k).Oil.length := by omega
          have hjl : j < B.Land.length := by omega
          by_cases hpj : 0 < (mvN B (oneS B i) k).Oil.getD j 0
          · have hneg : (!(rchL B i k).contains (j : Int)) = false := by rw [hpos j hlt hpj]; rfl
            rcases bool_or (B.Land.getD j false) with hlj | hlj
            · repeat ((conv => whnf); first
                  | (refine And.intro (by first | omega | exact Nat.le_of_ble_eq_true rfl | (dsimp only [inK]; omega) | (simp only [mulS_eq]; omega) | (simp only [mulS_eq, setL_length]; omega) | (simp only [setL_length, List.length_map]; omega) | exact ⟨by omega, by omega, by first | exact Nat.le_of_ble_eq_true rfl | (dsimp only; omega) | (simp only [setL_length]; omega) | (simp only [setL_length, List.length_map]; omega)⟩ | exact ⟨by omega, by first | rfl | omega, by omega, Nat.le_of_ble_eq_true rfl, Nat.le_of_ble_eq_true rfl⟩ | exact ⟨rfl, rfl, rfl, Nat.le_of_ble_eq_true rfl, by first | rfl | omega | exact Nat.le_of_ble_eq_true rfl | (simp; done) | (simp; omega), by first | rfl | omega | exact Nat.le_of_ble_eq_true rfl | (simp; done) | (simp; omega), by omega, Nat.le_of_ble_eq_true rfl⟩ | exact Eq.refl true) ?_)
                  | (with_reducible refine ld (intL hjm) ?_)
                  | (with_reducible refine ld (intL hwm) ?_)
                  | (with_reducible refine ld (boolL hjl) ?_)
                  | (refine Exists.intro _ (And.intro rfl ?_))
                  | (refine And.intro (And.intro rfl (chk_rowI _ _ _ _)) ?_)
                  | (refine br_t (by omega) ?_)
                  | (refine br_f (by omega) ?_)
                  | (refine bs_t (by omega) ?_)
                  | (refine bs_f (by omega) ?_)
                  | (refine fun (K' : K3) hK' => ?_)
                  | (refine hK' _ _ _ ?_; clear hK' K')
                  | (refine draw_auto tok mixed (by kernel_rfl) ?_)
                  | (refine HD_mk (fun _ h => has_kz (l := rchL B i k) rfl (by omega) rfl h) ?_)
                  | (refine bs_bf hneg ?_)
                  | (refine br_bf hneg ?_)
                  | (refine bs_bf hlj ?_)
                  | (refine br_bf hlj ?_)
                  | (refine And.intro (And.intro rfl rfl) ?_))
              refine ⟨j + 1, [], by omega, by omega, ?_⟩
              refine ⟨?_, ?_, rfl, rfl, Nat.le_of_ble_eq_true rfl⟩
              · repeat (first | exact trivial | refine And.intro (covS_syn (by first | rfl) rfl (by first | exact trivial | exact Nat.le_of_ble_eq_true rfl)) ?_ | refine And.intro (covS_bool rfl rfl (by first | rfl)) ?_)
              · repeat (first | exact trivial | refine And.intro (covE_id (Nat.le_of_ble_eq_true rfl) (by first | exact wf_ints _ _ | exact wf_bools _ _ | exact wf_shares _ _ | simp [C.wf]) rfl (by first | rfl | (fail))) ?_)
            · have hw0 := hwf0 j hlt hlj
              have hw1 := fun h => hw0.1 h
              have hw2 : (mvN B (oneS B i) k).Oil.getD j 0 ≤ (mvN B (oneS B i) k).Oil.getD (worstI B i k) 0 := by
                rcases hwE' with h | h
                · exact hw0.2 h
                · have := hw0.1 h; omega
              have hw3 : worstE B i k = 0 := by
                rcases hwE' with h | h
                · exact h
                · have := hw0.1 h; omega
              clear hw0 hw1
              repeat ((conv => whnf); first
                  | (refine And.intro (by first | omega | exact Nat.le_of_ble_eq_true rfl | (dsimp only [inK]; omega) | (simp only [mulS_eq]; omega) | (simp only [mulS_eq, setL_length]; omega) | (simp only [setL_length, List.length_map]; omega) | exact ⟨by omega, by omega, by first | exact Nat.le_of_ble_eq_true rfl | (dsimp only; omega) | (simp only [setL_length]; omega) | (simp only [setL_length, List.length_map]; omega)⟩ | exact ⟨by omega, by first | rfl | omega, by omega, Nat.le_of_ble_eq_true rfl, Nat.le_of_ble_eq_true rfl⟩ | exact ⟨rfl, rfl, rfl, Nat.le_of_ble_eq_true rfl, by first | rfl | omega | exact Nat.le_of_ble_eq_true rfl | (simp; done) | (simp; omega), by first | rfl | omega | exact Nat.le_of_ble_eq_true rfl | (simp; done) | (simp; omega), by omega, Nat.le_of_ble_eq_true rfl⟩ | exact Eq.refl true) ?_)
                  | (with_reducible refine ld (intL hjm) ?_)
                  | (with_reducible refine ld (intL hwm) ?_)
                  | (with_reducible refine ld (boolL hjl) ?_)
                  | (refine Exists.intro _ (And.intro rfl ?_))
                  | (refine And.intro (And.intro rfl (chk_rowI _ _ _ _)) ?_)
                  | (refine br_t (by omega) ?_)
                  | (refine br_f (by omega) ?_)
                  | (refine bs_t (by omega) ?_)
                  | (refine bs_f (by omega) ?_)
                  | (refine fun (K' : K3) hK' => ?_)
                  | (refine hK' _ _ _ ?_; clear hK' K')
                  | (refine draw_auto tok mixed (by kernel_rfl) ?_)
                  | (refine HD_mk (fun _ h => has_kz (l := rchL B i k) rfl (by omega) rfl h) ?_)
                  | (refine bs_bf hneg ?_)
                  | (refine br_bf hneg ?_)
                  | (refine bs_bt hlj ?_)
                  | (refine br_bt hlj ?_)
                  | (refine And.intro (And.intro rfl rfl) ?_))
              refine ⟨j + 1, [], by omega, by omega, ?_⟩
              refine ⟨?_, ?_, rfl, rfl, Nat.le_of_ble_eq_true rfl⟩
              · repeat (first | exact trivial | refine And.intro (covS_syn (by first | rfl) rfl (by first | exact trivial | exact Nat.le_of_ble_eq_true rfl)) ?_ | refine And.intro (covS_bool rfl rfl (by first | rfl)) ?_)
              · repeat (first | exact trivial | refine And.intro (covE_id (Nat.le_of_ble_eq_true rfl) (by first | exact wf_ints _ _ | exact wf_bools _ _ | exact wf_shares _ _ | simp [C.wf]) rfl (by first | rfl | (fail))) ?_)
          · rcases bool_or (B.Land.getD j false) with hlj | hlj
            · repeat ((conv => whnf); first
                  | (refine And.intro (by first | omega | exact Nat.le_of_ble_eq_true rfl | (dsimp only [inK]; omega) | (simp only [mulS_eq]; omega) | (simp only [mulS_eq, setL_length]; omega) | (simp only [setL_length, List.length_map]; omega) | exact ⟨by omega, by omega, by first | exact Nat.le_of_ble_eq_true rfl | (dsimp only; omega) | (simp only [setL_length]; omega) | (simp only [setL_length, List.length_map]; omega)⟩ | exact ⟨by omega, by first | rfl | omega, by omega, Nat.le_of_ble_eq_true rfl, Nat.le_of_ble_eq_true rfl⟩ | exact ⟨rfl, rfl, rfl, Nat.le_of_ble_eq_true rfl, by first | rfl | omega | exact Nat.le_of_ble_eq_true rfl | (simp; done) | (simp; omega), by first | rfl | omega | exact Nat.le_of_ble_eq_true rfl | (simp; done) | (simp; omega), by omega, Nat.le_of_ble_eq_true rfl⟩ | exact Eq.refl true) ?_)
                  | (with_reducible refine ld (intL hjm) ?_)
                  | (with_reducible refine ld (intL hwm) ?_)
                  | (with_reducible refine ld (boolL hjl) ?_)
                  | (refine Exists.intro _ (And.intro rfl ?_))
                  | (refine And.intro (And.intro rfl (chk_rowI _ _ _ _)) ?_)
                  | (refine br_t (by omega) ?_)
                  | (refine br_f (by omega) ?_)
                  | (refine bs_t (by omega) ?_)
                  | (refine bs_f (by omega) ?_)
                  | (refine fun (K' : K3) hK' => ?_)
                  | (refine hK' _ _ _ ?_; clear hK' K')
                  | (refine draw_auto tok mixed (by kernel_rfl) ?_)
                  | (refine bs_bf hlj ?_)
                  | (refine br_bf hlj ?_)
                  | (refine And.intro (And.intro rfl rfl) ?_))
              refine ⟨j + 1, [], by omega, by omega, ?_⟩
              refine ⟨?_, ?_, rfl, rfl, Nat.le_of_ble_eq_true rfl⟩
              · repeat (first | exact trivial | refine And.intro (covS_syn (by first | rfl) rfl (by first | exact trivial | exact Nat.le_of_ble_eq_true rfl)) ?_ | refine And.intro (covS_bool rfl rfl (by first | rfl)) ?_)
              · repeat (first | exact trivial | refine And.intro (covE_id (Nat.le_of_ble_eq_true rfl) (by first | exact wf_ints _ _ | exact wf_bools _ _ | exact wf_shares _ _ | simp [C.wf]) rfl (by first | rfl | (fail))) ?_)
            · have hw0 := hwf0 j hlt hlj
              have hw2 : (mvN B (oneS B i) k).Oil.getD j 0 ≤ (mvN B (oneS B i) k).Oil.getD (worstI B i k) 0 := by
                rcases hwE' with h | h
                · exact hw0.2 h
                · have := (one_nonneg (B := B) (j := i) (k := k) (i := worstI B i k) hval hiN hk5).1; omega
              clear hw0
              repeat ((conv => whnf); first
                  | (refine And.intro (by first | omega | exact Nat.le_of_ble_eq_true rfl | (dsimp only [inK]; omega) | (simp only [mulS_eq]; omega) | (simp only [mulS_eq, setL_length]; omega) | (simp only [setL_length, List.length_map]; omega) | exact ⟨by omega, by omega, by first | exact Nat.le_of_ble_eq_true rfl | (dsimp only; omega) | (simp only [setL_length]; omega) | (simp only [setL_length, List.length_map]; omega)⟩ | exact ⟨by omega, by first | rfl | omega, by omega, Nat.le_of_ble_eq_true rfl, Nat.le_of_ble_eq_true rfl⟩ | exact ⟨rfl, rfl, rfl, Nat.le_of_ble_eq_true rfl, by first | rfl | omega | exact Nat.le_of_ble_eq_true rfl | (simp; done) | (simp; omega), by first | rfl | omega | exact Nat.le_of_ble_eq_true rfl | (simp; done) | (simp; omega), by omega, Nat.le_of_ble_eq_true rfl⟩ | exact Eq.refl true) ?_)
                  | (with_reducible refine ld (intL hjm) ?_)
                  | (with_reducible refine ld (intL hwm) ?_)
                  | (with_reducible refine ld (boolL hjl) ?_)
                  | (refine Exists.intro _ (And.intro rfl ?_))
                  | (refine And.intro (And.intro rfl (chk_rowI _ _ _ _)) ?_)
                  | (refine br_t (by omega) ?_)
                  | (refine br_f (by omega) ?_)
                  | (refine bs_t (by omega) ?_)
                  | (refine bs_f (by omega) ?_)
                  | (refine fun (K' : K3) hK' => ?_)
                  | (refine hK' _ _ _ ?_; clear hK' K')
                  | (refine draw_auto tok mixed (by kernel_rfl) ?_)
                  | (refine bs_bt hlj ?_)
                  | (refine br_bt hlj ?_)
                  | (refine And.intro (And.intro rfl rfl) ?_))
              refine ⟨j + 1, [], by omega, by omega, ?_⟩
              refine ⟨?_, ?_, rfl, rfl, Nat.le_of_ble_eq_true rfl⟩
              · repeat (first | exact trivial | refine And.intro (covS_syn (by first | rfl) rfl (by first | exact trivial | exact Nat.le_of_ble_eq_true rfl)) ?_ | refine And.intro (covS_bool rfl rfl (by first | rfl)) ?_)
              · repeat (first | exact trivial | refine And.intro (covE_id (Nat.le_of_ble_eq_true rfl) (by first | exact wf_ints _ _ | exact wf_bools _ _ | exact wf_shares _ _ | simp [C.wf]) rfl (by first | rfl | (fail))) ?_)
        · obtain rfl : j = B.Share.length := by omega
          by_cases hk0 : k = 0
          · subst hk0
            repeat ((conv => whnf); first
                | (refine And.intro (by first | omega | exact Nat.le_of_ble_eq_true rfl | (dsimp only [inK]; omega) | (simp only [mulS_eq]; omega) | (simp only [mulS_eq, setL_length]; omega) | (simp only [setL_length, List.length_map]; omega) | exact ⟨by omega, by omega, by first | exact Nat.le_of_ble_eq_true rfl | (dsimp only; omega) | (simp only [setL_length]; omega) | (simp only [setL_length, List.length_map]; omega)⟩ | exact ⟨by omega, by first | rfl | omega, by omega, Nat.le_of_ble_eq_true rfl, Nat.le_of_ble_eq_true rfl⟩ | exact ⟨rfl, rfl, rfl, Nat.le_of_ble_eq_true rfl, by first | rfl | omega | exact Nat.le_of_ble_eq_true rfl | (simp; done) | (simp; omega), by first | rfl | omega | exact Nat.le_of_ble_eq_true rfl | (simp; done) | (simp; omega), by omega, Nat.le_of_ble_eq_true rfl⟩ | exact Eq.refl true) ?_)
                | (refine Exists.intro _ (And.intro rfl ?_))
                | (refine And.intro (And.intro rfl (chk_rowI _ _ _ _)) ?_)
                | (refine br_t (by omega) ?_)
                | (refine br_f (by omega) ?_)
                | (refine bs_t (by omega) ?_)
                | (refine bs_f (by omega) ?_)
                | (refine fun (K' : K3) hK' => ?_)
                | (refine hK' _ _ _ ?_; clear hK' K')
                | (refine draw_auto tok mixed (by kernel_rfl) ?_)
                | (refine Sane_k ?_)
                | (refine And.intro (And.intro rfl rfl) ?_))
            intro ρ; rfl
          · obtain ⟨q, hq⟩ : ∃ q : Nat, k = q + 1 := ⟨k - 1, by omega⟩
            have hmq : m % 6 - 1 = (q : Int) := by omega
            have hpl1 := place_yes (k := q) hval hiN (by omega) hld
            have hrl1 := rchL_le B i q
            have hmore : ∀ x, x < (rchL B i q).length → (rchL B i k).contains ((rchL B i q).getD x 0) = true := fun x hx => reach_more hval hiN hk5 (by omega) hld hx
            repeat ((conv => whnf); first
                | (refine And.intro (by first | omega | exact Nat.le_of_ble_eq_true rfl | (dsimp only [inK]; omega) | (simp only [mulS_eq]; omega) | (simp only [mulS_eq, setL_length]; omega) | (simp only [setL_length, List.length_map]; omega) | exact ⟨by omega, by omega, by first | exact Nat.le_of_ble_eq_true rfl | (dsimp only; omega) | (simp only [setL_length]; omega) | (simp only [setL_length, List.length_map]; omega)⟩ | exact ⟨by omega, by first | rfl | omega, by omega, Nat.le_of_ble_eq_true rfl, Nat.le_of_ble_eq_true rfl⟩ | exact ⟨rfl, rfl, rfl, Nat.le_of_ble_eq_true rfl, by first | rfl | omega | exact Nat.le_of_ble_eq_true rfl | (simp; done) | (simp; omega), by first | rfl | omega | exact Nat.le_of_ble_eq_true rfl | (simp; done) | (simp; omega), by omega, Nat.le_of_ble_eq_true rfl⟩ | exact Eq.refl true) ?_)
                | (refine Exists.intro _ (And.intro rfl ?_))
                | (refine And.intro (And.intro rfl (chk_rowI _ _ _ _)) ?_)
                | (refine br_t (by omega) ?_)
                | (refine br_f (by omega) ?_)
                | (refine bs_t (by omega) ?_)
                | (refine bs_f (by omega) ?_)
                | (refine fun (K' : K3) hK' => ?_)
                | (refine hK' _ _ _ ?_; clear hK' K')
                | (refine draw_auto tok mixed (by kernel_rfl) ?_)
                | (refine Reach_kz hi hmq hll hsl (by omega) (by omega) rfl rfl ?_)
                | (refine And.intro (And.intro rfl rfl) ?_))
            refine Tri.loop (γ := Nat) (fun x => x ≤ (rchL B i q).length)
              (fun x => [(9, V.c (.sl 3 (rchL B i k).length)), (10, V.i (placE B i false q)), (17, V.i (worstI B i k : Int)), (18, V.i (worstE B i k)), (20, V.c (.sl 8 (rchL B i q).length)), (21, V.i (x : Int))])
              (fun x => [⟨3, .ro 0, (rchL B i k).map C.i⟩, ⟨8, .ro 0, (rchL B i q).map C.i⟩]) 9 (fun x => (rchL B i q).length - x) 0 (R0 := []) ?_ ?_ ?_
            · exact Nat.zero_le _
            · skip
              refine ⟨?_, ?_, rfl, rfl, Nat.le_of_ble_eq_true rfl⟩
              · repeat (first | exact trivial | refine And.intro (covS_syn (by first | rfl) rfl (by first | exact trivial | exact Nat.le_of_ble_eq_true rfl)) ?_ | refine And.intro (covS_bool rfl rfl (by first | rfl)) ?_)
              · repeat (first | exact trivial | refine And.intro (covE_id (Nat.le_of_ble_eq_true rfl) (by first | exact wf_ints _ _ | exact wf_bools _ _ | exact wf_shares _ _ | simp [C.wf]) rfl (by first | rfl | (fail))) ?_)
            · rintro x hx
              refine vc_ok tok ?_
              by_cases hxl : x < (rchL B i q).length
              · have hneg : (!(rchL B i k).contains ((rchL B i q).getD x 0)) = false := by rw [hmore x hxl]; rfl
                repeat ((conv => whnf); first
                    | (refine And.intro (by first | omega | exact Nat.le_of_ble_eq_true rfl | (dsimp only [inK]; omega) | (simp only [mulS_eq]; omega) | (simp only [mulS_eq, setL_length]; omega) | (simp only [setL_length, List.length_map]; omega) | exact ⟨by omega, by omega, by first | exact Nat.le_of_ble_eq_true rfl | (dsimp only; omega) | (simp only [setL_length]; omega) | (simp only [setL_length, List.length_map]; omega)⟩ | exact ⟨by omega, by first | rfl | omega, by omega, Nat.le_of_ble_eq_true rfl, Nat.le_of_ble_eq_true rfl⟩ | exact ⟨rfl, rfl, rfl, Nat.le_of_ble_eq_true rfl, by first | rfl | omega | exact Nat.le_of_ble_eq_true rfl | (simp; done) | (simp; omega), by first | rfl | omega | exact Nat.le_of_ble_eq_true rfl | (simp; done) | (simp; omega), by omega, Nat.le_of_ble_eq_true rfl⟩ | exact Eq.refl true) ?_)
                    | (with_reducible refine ld (intL hxl) ?_)
                    | (refine Exists.intro _ (And.intro rfl ?_))
                    | (refine And.intro (And.intro rfl (chk_rowI _ _ _ _)) ?_)
                    | (refine br_t (by omega) ?_)
                    | (refine br_f (by omega) ?_)
                    | (refine bs_t (by omega) ?_)
                    | (refine bs_f (by omega) ?_)
                    | (refine fun (K' : K3) hK' => ?_)
                    | (refine hK' _ _ _ ?_; clear hK' K')
                    | (refine draw_auto tok mixed (by kernel_rfl) ?_)
                    | (refine has_kz (l := rchL B i k) rfl (by omega) rfl ?_)
                    | (refine bs_bf hneg ?_)
                    | (refine br_bf hneg ?_)
                    | (refine And.intro (And.intro rfl rfl) ?_))
                refine ⟨x + 1, [], by omega, by omega, ?_⟩
                refine ⟨?_, ?_, rfl, rfl, Nat.le_of_ble_eq_true rfl⟩
                · repeat (first | exact trivial | refine And.intro (covS_syn (by first | rfl) rfl (by first | exact trivial | exact Nat.le_of_ble_eq_true rfl)) ?_ | refine And.intro (covS_bool rfl rfl (by first | rfl)) ?_)
                · repeat (first | exact trivial | refine And.intro (covE_id (Nat.le_of_ble_eq_true rfl) (by first | exact wf_ints _ _ | exact wf_bools _ _ | exact wf_shares _ _ | simp [C.wf]) rfl (by first | rfl | (fail))) ?_)
              · obtain rfl : x = (rchL B i q).length := by omega
                have hcw := hhasw hwE
                repeat ((conv => whnf); first
                    | (refine And.intro (by first | omega | exact Nat.le_of_ble_eq_true rfl | (dsimp only [inK]; omega) | (simp only [mulS_eq]; omega) | (simp only [mulS_eq, setL_length]; omega) | (simp only [setL_length, List.length_map]; omega) | exact ⟨by omega, by omega, by first | exact Nat.le_of_ble_eq_true rfl | (dsimp only; omega) | (simp only [setL_length]; omega) | (simp only [setL_length, List.length_map]; omega)⟩ | exact ⟨by omega, by first | rfl | omega, by omega, Nat.le_of_ble_eq_true rfl, Nat.le_of_ble_eq_true rfl⟩ | exact ⟨rfl, rfl, rfl, Nat.le_of_ble_eq_true rfl, by first | rfl | omega | exact Nat.le_of_ble_eq_true rfl | (simp; done) | (simp; omega), by first | rfl | omega | exact Nat.le_of_ble_eq_true rfl | (simp; done) | (simp; omega), by omega, Nat.le_of_ble_eq_true rfl⟩ | exact Eq.refl true) ?_)
                    | (refine Exists.intro _ (And.intro rfl ?_))
                    | (refine And.intro (And.intro rfl (chk_rowI _ _ _ _)) ?_)
                    | (refine br_t (by omega) ?_)
                    | (refine br_f (by omega) ?_)
                    | (refine bs_t (by omega) ?_)
                    | (refine bs_f (by omega) ?_)
                    | (refine fun (K' : K3) hK' => ?_)
                    | (refine hK' _ _ _ ?_; clear hK' K')
                    | (refine draw_auto tok mixed (by kernel_rfl) ?_)
                    | (refine has_kz (l := rchL B i k) rfl (by omega) rfl ?_)
                    | (refine bs_bt hcw ?_)
                    | (refine br_bt hcw ?_)
                    | (refine Sane_k ?_)
                    | (refine And.intro (And.intro rfl rfl) ?_))
                intro ρ; rfl
    · skip
      refine Spec.of tok Try.func14 rfl rfl rfl fun n0 => vc_ok tok ?_
      repeat ((conv => whnf); first
          | (refine And.intro (by first | omega | exact Nat.le_of_ble_eq_true rfl | (dsimp only [inK]; omega) | (simp only [mulS_eq]; omega) | (simp only [mulS_eq, setL_length]; omega) | (simp only [setL_length, List.length_map]; omega) | exact ⟨by omega, by omega, by first | exact Nat.le_of_ble_eq_true rfl | (dsimp only; omega) | (simp only [setL_length]; omega) | (simp only [setL_length, List.length_map]; omega)⟩ | exact ⟨by omega, by first | rfl | omega, by omega, Nat.le_of_ble_eq_true rfl, Nat.le_of_ble_eq_true rfl⟩ | exact ⟨rfl, rfl, rfl, Nat.le_of_ble_eq_true rfl, by first | rfl | omega | exact Nat.le_of_ble_eq_true rfl | (simp; done) | (simp; omega), by first | rfl | omega | exact Nat.le_of_ble_eq_true rfl | (simp; done) | (simp; omega), by omega, Nat.le_of_ble_eq_true rfl⟩ | exact Eq.refl true) ?_)
          | (with_reducible refine ld (boolLz hi (by omega)) ?_)
          | (refine Exists.intro _ (And.intro rfl ?_))
          | (refine And.intro (And.intro rfl (chk_rowI _ _ _ _)) ?_)
          | (refine br_t (by omega) ?_)
          | (refine br_f (by omega) ?_)
          | (refine bs_t (by omega) ?_)
          | (refine bs_f (by omega) ?_)
          | (refine fun (K' : K3) hK' => ?_)
          | (refine hK' _ _ _ ?_; clear hK' K')
          | (refine draw_late 11 [6] tok mixed (by kernel_rfl) ?_)
          | (refine draw_auto tok mixed (by kernel_rfl) ?_)
          | (refine Long_k B ?_)
          | (refine rvalid_k hll hsl rfl rfl ?_)
          | (refine bs_bf hL' ?_)
          | (refine br_bf hL' ?_)
          | (refine bs_bf hv' ?_)
          | (refine br_bf hv' ?_)
          | (refine Reach_kz hi hk hll hsl (by omega) (by omega) rfl rfl ?_)
          | (refine br_bf hld ?_)
          | (refine bs_bf hld ?_)
          | (refine HD_mk (fun _ h => One_kz hi hval hll hsl (by omega) rfl rfl h) ?_)
          | (refine HD_mk (fun _ h => After_kz (i := i) hk hval hll hsl hiN hk5 rfl rfl rfl h) ?_)
          | (refine Worst_kz hi hk hll hsl (by omega) (by omega) rfl rfl ?_)
          | (refine has_kz (l := rchL B i k) rfl (by omega) rfl ?_)
          | (refine bs_bf hself' ?_)
          | (refine br_bf hself' ?_)
          | (refine And.intro (And.intro rfl rfl) ?_))
      refine Tri.loop (γ := Nat) (fun j => j ≤ B.Share.length)
        (fun j => [(3, V.c (.ptr 2 0)), (7, V.i (cell % (B.Land.length : Int))), (8, V.i (m % 6)), (9, V.c (.sl 3 (rchL B i k).length)), (15, V.c (.ptr 6 0)), (17, V.i (worstI B i k : Int)), (18, V.i (worstE B i k)), (19, V.i (j : Int))])
        (fun j => [⟨0, .ro 0, B.Land.map C.bool⟩, ⟨1, .ro 0, shareC B.Share⟩, ⟨2, .own 25, [C.i B.W, C.i B.H, C.sl 0 B.Land.length, C.sl 1 B.Share.length]⟩, ⟨3, .ro 0, (rchL B i k).map C.i⟩, ⟨5, .ro 0, (mvN B (oneS B i) k).Oil.map C.i⟩, ⟨6, .own 28, [C.i (mvN B (oneS B i) k).K, C.sl 5 (mvN B (oneS B i) k).Oil.length, C.i (mvN B (oneS B i) k).Away]⟩]) 8 (fun j => B.Share.length - j) 0 (R0 := []) ?_ ?_ ?_
      · exact Nat.zero_le _
      · skip
        refine ⟨?_, ?_, rfl, rfl, Nat.le_of_ble_eq_true rfl⟩
        · repeat (first | exact trivial | refine And.intro (covS_syn (by first | rfl) rfl (by first | exact trivial | exact Nat.le_of_ble_eq_true rfl)) ?_ | refine And.intro (covS_bool rfl rfl (by first | rfl)) ?_)
        · repeat (first | exact trivial | refine And.intro (covE_id (Nat.le_of_ble_eq_true rfl) (by first | exact wf_ints _ _ | exact wf_bools _ _ | exact wf_shares _ _ | simp [C.wf]) rfl (by first | rfl | (fail))) ?_)
      · rintro j hj
        refine vc_ok tok ?_
        by_cases hlt : j < B.Share.length
        · have hjm : j < (mvN B (oneS B i) k).Oil.length := by omega
          have hwm : worstI B i k < (mvN B (oneS B i) k).Oil.length := by omega
          have hjl : j < B.Land.length := by omega
          by_cases hpj : 0 < (mvN B (oneS B i) k).Oil.getD j 0
          · have hneg : (!(rchL B i k).contains (j : Int)) = false := by rw [hpos j hlt hpj]; rfl
            rcases bool_or (B.Land.getD j false) with hlj | hlj
            · repeat ((conv => whnf); first
                  | (refine And.intro (by first | omega | exact Nat.le_of_ble_eq_true rfl | (dsimp only [inK]; omega) | (simp only [mulS_eq]; omega) | (simp only [mulS_eq, setL_length]; omega) | (simp only [setL_length, List.length_map]; omega) | exact ⟨by omega, by omega, by first | exact Nat.le_of_ble_eq_true rfl | (dsimp only; omega) | (simp only [setL_length]; omega) | (simp only [setL_length, List.length_map]; omega)⟩ | exact ⟨by omega, by first | rfl | omega, by omega, Nat.le_of_ble_eq_true rfl, Nat.le_of_ble_eq_true rfl⟩ | exact ⟨rfl, rfl, rfl, Nat.le_of_ble_eq_true rfl, by first | rfl | omega | exact Nat.le_of_ble_eq_true rfl | (simp; done) | (simp; omega), by first | rfl | omega | exact Nat.le_of_ble_eq_true rfl | (simp; done) | (simp; omega), by omega, Nat.le_of_ble_eq_true rfl⟩ | exact Eq.refl true) ?_)
                  | (with_reducible refine ld (intL hjm) ?_)
                  | (with_reducible refine ld (intL hwm) ?_)
                  | (with_reducible refine ld (boolL hjl) ?_)
                  | (refine Exists.intro _ (And.intro rfl ?_))
                  | (refine And.intro (And.intro rfl (chk_rowI _ _ _ _)) ?_)
                  | (refine br_t (by omega) ?_)
                  | (refine br_f (by omega) ?_)
                  | (refine bs_t (by omega) ?_)
                  | (refine bs_f (by omega) ?_)
                  | (refine fun (K' : K3) hK' => ?_)
                  | (refine hK' _ _ _ ?_; clear hK' K')
                  | (refine draw_auto tok mixed (by kernel_rfl) ?_)
                  | (refine HD_mk (fun _ h => has_kz (l := rchL B i k) rfl (by omega) rfl h) ?_)
                  | (refine bs_bf hneg ?_)
                  | (refine br_bf hneg ?_)
                  | (refine bs_bf hlj ?_)
                  | (refine br_bf hlj ?_)
                  | (refine And.intro (And.intro rfl rfl) ?_))
              refine ⟨j + 1, [], by omega, by omega, ?_⟩
              refine ⟨?_, ?_, rfl, rfl, Nat.le_of_ble_eq_true rfl⟩
              · repeat (first | exact trivial | refine And.intro (covS_syn (by first | rfl) rfl (by first | exact trivial | exact Nat.le_of_ble_eq_true rfl)) ?_ | refine And.intro (covS_bool rfl rfl (by first | rfl)) ?_)
              · repeat (first | exact trivial | refine And.intro (covE_id (Nat.le_of_ble_eq_true rfl) (by first | exact wf_ints _ _ | exact wf_bools _ _ | exact wf_shares _ _ | simp [C.wf]) rfl (by first | rfl | (fail))) ?_)
            · have hw0 := hwf0 j hlt hlj
              have hw1 := fun h => hw0.1 h
              have hw2 : (mvN B (oneS B i) k).Oil.getD j 0 ≤ (mvN B (oneS B i) k).Oil.getD (worstI B i k) 0 := by
                rcases hwE' with h | h
                · exact hw0.2 h
                · have := hw0.1 h; omega
              have hw3 : worstE B i k = 0 := by
                rcases hwE' with h | h
                · exact h
                · have := hw0.1 h; omega
              exact absurd hw3 (by omega)
          · rcases bool_or (B.Land.getD j false) with hlj | hlj
            · repeat ((conv => whnf); first
                  | (refine And.intro (by first | omega | exact Nat.le_of_ble_eq_true rfl | (dsimp only [inK]; omega) | (simp only [mulS_eq]; omega) | (simp only [mulS_eq, setL_length]; omega) | (simp only [setL_length, List.length_map]; omega) | exact ⟨by omega, by omega, by first | exact Nat.le_of_ble_eq_true rfl | (dsimp only; omega) | (simp only [setL_length]; omega) | (simp only [setL_length, List.length_map]; omega)⟩ | exact ⟨by omega, by first | rfl | omega, by omega, Nat.le_of_ble_eq_true rfl, Nat.le_of_ble_eq_true rfl⟩ | exact ⟨rfl, rfl, rfl, Nat.le_of_ble_eq_true rfl, by first | rfl | omega | exact Nat.le_of_ble_eq_true rfl | (simp; done) | (simp; omega), by first | rfl | omega | exact Nat.le_of_ble_eq_true rfl | (simp; done) | (simp; omega), by omega, Nat.le_of_ble_eq_true rfl⟩ | exact Eq.refl true) ?_)
                  | (with_reducible refine ld (intL hjm) ?_)
                  | (with_reducible refine ld (intL hwm) ?_)
                  | (with_reducible refine ld (boolL hjl) ?_)
                  | (refine Exists.intro _ (And.intro rfl ?_))
                  | (refine And.intro (And.intro rfl (chk_rowI _ _ _ _)) ?_)
                  | (refine br_t (by omega) ?_)
                  | (refine br_f (by omega) ?_)
                  | (refine bs_t (by omega) ?_)
                  | (refine bs_f (by omega) ?_)
                  | (refine fun (K' : K3) hK' => ?_)
                  | (refine hK' _ _ _ ?_; clear hK' K')
                  | (refine draw_auto tok mixed (by kernel_rfl) ?_)
                  | (refine bs_bf hlj ?_)
                  | (refine br_bf hlj ?_)
                  | (refine And.intro (And.intro rfl rfl) ?_))
              refine ⟨j + 1, [], by omega, by omega, ?_⟩
              refine ⟨?_, ?_, rfl, rfl, Nat.le_of_ble_eq_true rfl⟩
              · repeat (first | exact trivial | refine And.intro (covS_syn (by first | rfl) rfl (by first | exact trivial | exact Nat.le_of_ble_eq_true rfl)) ?_ | refine And.intro (covS_bool rfl rfl (by first | rfl)) ?_)
              · repeat (first | exact trivial | refine And.intro (covE_id (Nat.le_of_ble_eq_true rfl) (by first | exact wf_ints _ _ | exact wf_bools _ _ | exact wf_shares _ _ | simp [C.wf]) rfl (by first | rfl | (fail))) ?_)
            · have hw0 := hwf0 j hlt hlj
              have hw2 : (mvN B (oneS B i) k).Oil.getD j 0 ≤ (mvN B (oneS B i) k).Oil.getD (worstI B i k) 0 := by
                rcases hwE' with h | h
                · exact hw0.2 h
                · have := (one_nonneg (B := B) (j := i) (k := k) (i := worstI B i k) hval hiN hk5).1; omega
              clear hw0
              repeat ((conv => whnf); first
                  | (refine And.intro (by first | omega | exact Nat.le_of_ble_eq_true rfl | (dsimp only [inK]; omega) | (simp only [mulS_eq]; omega) | (simp only [mulS_eq, setL_length]; omega) | (simp only [setL_length, List.length_map]; omega) | exact ⟨by omega, by omega, by first | exact Nat.le_of_ble_eq_true rfl | (dsimp only; omega) | (simp only [setL_length]; omega) | (simp only [setL_length, List.length_map]; omega)⟩ | exact ⟨by omega, by first | rfl | omega, by omega, Nat.le_of_ble_eq_true rfl, Nat.le_of_ble_eq_true rfl⟩ | exact ⟨rfl, rfl, rfl, Nat.le_of_ble_eq_true rfl, by first | rfl | omega | exact Nat.le_of_ble_eq_true rfl | (simp; done) | (simp; omega), by first | rfl | omega | exact Nat.le_of_ble_eq_true rfl | (simp; done) | (simp; omega), by omega, Nat.le_of_ble_eq_true rfl⟩ | exact Eq.refl true) ?_)
                  | (with_reducible refine ld (intL hjm) ?_)
                  | (with_reducible refine ld (intL hwm) ?_)
                  | (with_reducible refine ld (boolL hjl) ?_)
                  | (refine Exists.intro _ (And.intro rfl ?_))
                  | (refine And.intro (And.intro rfl (chk_rowI _ _ _ _)) ?_)
                  | (refine br_t (by omega) ?_)
                  | (refine br_f (by omega) ?_)
                  | (refine bs_t (by omega) ?_)
                  | (refine bs_f (by omega) ?_)
                  | (refine fun (K' : K3) hK' => ?_)
                  | (refine hK' _ _ _ ?_; clear hK' K')
                  | (refine draw_auto tok mixed (by kernel_rfl) ?_)
                  | (refine bs_bt hlj ?_)
                  | (refine br_bt hlj ?_)
                  | (refine And.intro (And.intro rfl rfl) ?_))
              refine ⟨j + 1, [], by omega, by omega, ?_⟩
              refine ⟨?_, ?_, rfl, rfl, Nat.le_of_ble_eq_true rfl⟩
              · repeat (first | exact trivial | refine And.intro (covS_syn (by first | rfl) rfl (by first | exact trivial | exact Nat.le_of_ble_eq_true rfl)) ?_ | refine And.intro (covS_bool rfl rfl (by first | rfl)) ?_)
              · repeat (first | exact trivial | refine And.intro (covE_id (Nat.le_of_ble_eq_true rfl) (by first | exact wf_ints _ _ | exact wf_bools _ _ | exact wf_shares _ _ | simp [C.wf]) rfl (by first | rfl | (fail))) ?_)
        · obtain rfl : j = B.Share.length := by omega
          by_cases hk0 : k = 0
          · subst hk0
            repeat ((conv => whnf); first
                | (refine And.intro (by first | omega | exact Nat.le_of_ble_eq_true rfl | (dsimp only [inK]; omega) | (simp only [mulS_eq]; omega) | (simp only [mulS_eq, setL_length]; omega) | (simp only [setL_length, List.length_map]; omega) | exact ⟨by omega, by omega, by first | exact Nat.le_of_ble_eq_true rfl | (dsimp only; omega) | (simp only [setL_length]; omega) | (simp only [setL_length, List.length_map]; omega)⟩ | exact ⟨by omega, by first | rfl | omega, by omega, Nat.le_of_ble_eq_true rfl, Nat.le_of_ble_eq_true rfl⟩ | exact ⟨rfl, rfl, rfl, Nat.le_of_ble_eq_true rfl, by first | rfl | omega | exact Nat.le_of_ble_eq_true rfl | (simp; done) | (simp; omega), by first | rfl | omega | exact Nat.le_of_ble_eq_true rfl | (simp; done) | (simp; omega), by omega, Nat.le_of_ble_eq_true rfl⟩ | exact Eq.refl true) ?_)
                | (refine Exists.intro _ (And.intro rfl ?_))
                | (refine And.intro (And.intro rfl (chk_rowI _ _ _ _)) ?_)
                | (refine br_t (by omega) ?_)
                | (refine br_f (by omega) ?_)
                | (refine bs_t (by omega) ?_)
                | (refine bs_f (by omega) ?_)
                | (refine fun (K' : K3) hK' => ?_)
                | (refine hK' _ _ _ ?_; clear hK' K')
                | (refine draw_auto tok mixed (by kernel_rfl) ?_)
                | (refine Sane_k ?_)
                | (refine And.intro (And.intro rfl rfl) ?_))
            intro ρ; rfl
          · obtain ⟨q, hq⟩ : ∃ q : Nat, k = q + 1 := ⟨k - 1, by omega⟩
            have hmq : m % 6 - 1 = (q : Int) := by omega
            have hpl1 := place_yes (k := q) hval hiN (by omega) hld
            have hrl1 := rchL_le B i q
            have hmore : ∀ x, x < (rchL B i q).length → (rchL B i k).contains ((rchL B i q).getD x 0) = true := fun x hx => reach_more hval hiN hk5 (by omega) hld hx
            repeat ((conv => whnf); first
                | (refine And.intro (by first | omega | exact Nat.le_of_ble_eq_true rfl | (dsimp only [inK]; omega) | (simp only [mulS_eq]; omega) | (simp only [mulS_eq, setL_length]; omega) | (simp only [setL_length, List.length_map]; omega) | exact ⟨by omega, by omega, by first | exact Nat.le_of_ble_eq_true rfl | (dsimp only; omega) | (simp only [setL_length]; omega) | (simp only [setL_length, List.length_map]; omega)⟩ | exact ⟨by omega, by first | rfl | omega, by omega, Nat.le_of_ble_eq_true rfl, Nat.le_of_ble_eq_true rfl⟩ | exact ⟨rfl, rfl, rfl, Nat.le_of_ble_eq_true rfl, by first | rfl | omega | exact Nat.le_of_ble_eq_true rfl | (simp; done) | (simp; omega), by first | rfl | omega | exact Nat.le_of_ble_eq_true rfl | (simp; done) | (simp; omega), by omega, Nat.le_of_ble_eq_true rfl⟩ | exact Eq.refl true) ?_)
                | (refine Exists.intro _ (And.intro rfl ?_))
                | (refine And.intro (And.intro rfl (chk_rowI _ _ _ _)) ?_)
                | (refine br_t (by omega) ?_)
                | (refine br_f (by omega) ?_)
                | (refine bs_t (by omega) ?_)
                | (refine bs_f (by omega) ?_)
                | (refine fun (K' : K3) hK' => ?_)
                | (refine hK' _ _ _ ?_; clear hK' K')
                | (refine draw_auto tok mixed (by kernel_rfl) ?_)
                | (refine Reach_kz hi hmq hll hsl (by omega) (by omega) rfl rfl ?_)
                | (refine And.intro (And.intro rfl rfl) ?_))
            refine Tri.loop (γ := Nat) (fun x => x ≤ (rchL B i q).length)
              (fun x => [(9, V.c (.sl 3 (rchL B i k).length)), (10, V.i (placE B i false q)), (17, V.i (worstI B i k : Int)), (18, V.i (worstE B i k)), (20, V.c (.sl 8 (rchL B i q).length)), (21, V.i (x : Int))])
              (fun x => [⟨3, .ro 0, (rchL B i k).map C.i⟩, ⟨8, .ro 0, (rchL B i q).map C.i⟩]) 9 (fun x => (rchL B i q).length - x) 0 (R0 := []) ?_ ?_ ?_
            · exact Nat.zero_le _
            · skip
              refine ⟨?_, ?_, rfl, rfl, Nat.le_of_ble_eq_true rfl⟩
              · repeat (first | exact trivial | refine And.intro (covS_syn (by first | rfl) rfl (by first | exact trivial | exact Nat.le_of_ble_eq_true rfl)) ?_ | refine And.intro (covS_bool rfl rfl (by first | rfl)) ?_)
              · repeat (first | exact trivial | refine And.intro (covE_id (Nat.le_of_ble_eq_true rfl) (by first | exact wf_ints _ _ | exact wf_bools _ _ | exact wf_shares _ _ | simp [C.wf]) rfl (by first | rfl | (fail))) ?_)
            · rintro x hx
              refine vc_ok tok ?_
              by_cases hxl : x < (rchL B i q).length
              · have hneg : (!(rchL B i k).contains ((rchL B i q).getD x 0)) = false := by rw [hmore x hxl]; rfl
                repeat ((conv => whnf); first
                    | (refine And.intro (by first | omega | exact Nat.le_of_ble_eq_true rfl | (dsimp only [inK]; omega) | (simp only [mulS_eq]; omega) | (simp only [mulS_eq, setL_length]; omega) | (simp only [setL_length, List.length_map]; omega) | exact ⟨by omega, by omega, by first | exact Nat.le_of_ble_eq_true rfl | (dsimp only; omega) | (simp only [setL_length]; omega) | (simp only [setL_length, List.length_map]; omega)⟩ | exact ⟨by omega, by first | rfl | omega, by omega, Nat.le_of_ble_eq_true rfl, Nat.le_of_ble_eq_true rfl⟩ | exact ⟨rfl, rfl, rfl, Nat.le_of_ble_eq_true rfl, by first | rfl | omega | exact Nat.le_of_ble_eq_true rfl | (simp; done) | (simp; omega), by first | rfl | omega | exact Nat.le_of_ble_eq_true rfl | (simp; done) | (simp; omega), by omega, Nat.le_of_ble_eq_true rfl⟩ | exact Eq.refl true) ?_)
                    | (with_reducible refine ld (intL hxl) ?_)
                    | (refine Exists.intro _ (And.intro rfl ?_))
                    | (refine And.intro (And.intro rfl (chk_rowI _ _ _ _)) ?_)
                    | (refine br_t (by omega) ?_)
                    | (refine br_f (by omega) ?_)
                    | (refine bs_t (by omega) ?_)
                    | (refine bs_f (by omega) ?_)
                    | (refine fun (K' : K3) hK' => ?_)
                    | (refine hK' _ _ _ ?_; clear hK' K')
                    | (refine draw_auto tok mixed (by kernel_rfl) ?_)
                    | (refine has_kz (l := rchL B i k) rfl (by omega) rfl ?_)
                    | (refine bs_bf hneg ?_)
                    | (refine br_bf hneg ?_)
                    | (refine And.intro (And.intro rfl rfl) ?_))
                refine ⟨x + 1, [], by omega, by omega, ?_⟩
                refine ⟨?_, ?_, rfl, rfl, Nat.le_of_ble_eq_true rfl⟩
                · repeat (first | exact trivial | refine And.intro (covS_syn (by first | rfl) rfl (by first | exact trivial | exact Nat.le_of_ble_eq_true rfl)) ?_ | refine And.intro (covS_bool rfl rfl (by first | rfl)) ?_)
                · repeat (first | exact trivial | refine And.intro (covE_id (Nat.le_of_ble_eq_true rfl) (by first | exact wf_ints _ _ | exact wf_bools _ _ | exact wf_shares _ _ | simp [C.wf]) rfl (by first | rfl | (fail))) ?_)
              · obtain rfl : x = (rchL B i q).length := by omega
                repeat ((conv => whnf); first
                    | (refine And.intro (by first | omega | exact Nat.le_of_ble_eq_true rfl | (dsimp only [inK]; omega) | (simp only [mulS_eq]; omega) | (simp only [mulS_eq, setL_length]; omega) | (simp only [setL_length, List.length_map]; omega) | exact ⟨by omega, by omega, by first | exact Nat.le_of_ble_eq_true rfl | (dsimp only; omega) | (simp only [setL_length]; omega) | (simp only [setL_length, List.length_map]; omega)⟩ | exact ⟨by omega, by first | rfl | omega, by omega, Nat.le_of_ble_eq_true rfl, Nat.le_of_ble_eq_true rfl⟩ | exact ⟨rfl, rfl, rfl, Nat.le_of_ble_eq_true rfl, by first | rfl | omega | exact Nat.le_of_ble_eq_true rfl | (simp; done) | (simp; omega), by first | rfl | omega | exact Nat.le_of_ble_eq_true rfl | (simp; done) | (simp; omega), by omega, Nat.le_of_ble_eq_true rfl⟩ | exact Eq.refl true) ?_)
                    | (refine Exists.intro _ (And.intro rfl ?_))
                    | (refine And.intro (And.intro rfl (chk_rowI _ _ _ _)) ?_)
                    | (refine br_t (by omega) ?_)
                    | (refine br_f (by omega) ?_)
                    | (refine bs_t (by omega) ?_)
                    | (refine bs_f (by omega) ?_)
                    | (refine fun (K' : K3) hK' => ?_)
                    | (refine hK' _ _ _ ?_; clear hK' K')
                    | (refine draw_auto tok mixed (by kernel_rfl) ?_)
                    | (refine Sane_k ?_)
                    | (refine And.intro (And.intro rfl rfl) ?_))
                intro ρ; rfl
  · have hpf := place_not (B := B) (i := i) (k := k) (ld := false) hval (by rw [hld]; simp)
    rcases src_facts hval hiN hk5 hld with ⟨hE, hI⟩ | ⟨hE, hI, hP, hC⟩
    · refine Spec.of tok Try.func14 rfl rfl rfl fun n0 => vc_ok tok ?_
      repeat ((conv => whnf); first
          | (refine And.intro (by first | omega | exact Nat.le_of_ble_eq_true rfl | (dsimp only [inK]; omega) | (simp only [mulS_eq]; omega) | (simp only [mulS_eq, setL_length]; omega) | (simp only [setL_length, List.length_map]; omega) | exact ⟨by omega, by omega, by first | exact Nat.le_of_ble_eq_true rfl | (dsimp only; omega) | (simp only [setL_length]; omega) | (simp only [setL_length, List.length_map]; omega)⟩ | exact ⟨by omega, by first | rfl | omega, by omega, Nat.le_of_ble_eq_true rfl, Nat.le_of_ble_eq_true rfl⟩ | exact ⟨rfl, rfl, rfl, Nat.le_of_ble_eq_true rfl, by first | rfl | omega | exact Nat.le_of_ble_eq_true rfl | (simp; done) | (simp; omega), by first | rfl | omega | exact Nat.le_of_ble_eq_true rfl | (simp; done) | (simp; omega), by omega, Nat.le_of_ble_eq_true rfl⟩ | exact Eq.refl true) ?_)
          | (with_reducible refine ld (boolLz hi (by omega)) ?_)
          | (refine Exists.intro _ (And.intro rfl ?_))
          | (refine And.intro (And.intro rfl (chk_rowI _ _ _ _)) ?_)
          | (refine br_t (by omega) ?_)
          | (refine br_f (by omega) ?_)
          | (refine bs_t (by omega) ?_)
          | (refine bs_f (by omega) ?_)
          | (refine fun (K' : K3) hK' => ?_)
          | (refine hK' _ _ _ ?_; clear hK' K')
          | (refine draw_auto tok mixed (by kernel_rfl) ?_)
          | (refine Long_k B ?_)
          | (refine rvalid_k hll hsl rfl rfl ?_)
          | (refine bs_bf hL' ?_)
          | (refine br_bf hL' ?_)
          | (refine bs_bf hv' ?_)
          | (refine br_bf hv' ?_)
          | (refine Reach_kz hi hk hll hsl (by omega) (by omega) rfl rfl ?_)
          | (refine br_bt hld ?_)
          | (refine bs_bt hld ?_)
          | (refine Source_kz hi hk hll hsl (by omega) (by omega) rfl rfl ?_)
          | (refine Sane_k ?_)
          | (refine And.intro (And.intro rfl rfl) ?_))
      intro ρ; rfl
    · have hC' : (rchL B (srcI B i k) k).contains (cell % (B.Land.length : Int)) = true := by rw [hi]; exact hC
      have hrl := rchL_le B (srcI B i k) k
      refine Spec.of tok Try.func14 rfl rfl rfl fun n0 => vc_ok tok ?_
      repeat ((conv => whnf); first
          | (refine And.intro (by first | omega | exact Nat.le_of_ble_eq_true rfl | (dsimp only [inK]; omega) | (simp only [mulS_eq]; omega) | (simp only [mulS_eq, setL_length]; omega) | (simp only [setL_length, List.length_map]; omega) | exact ⟨by omega, by omega, by first | exact Nat.le_of_ble_eq_true rfl | (dsimp only; omega) | (simp only [setL_length]; omega) | (simp only [setL_length, List.length_map]; omega)⟩ | exact ⟨by omega, by first | rfl | omega, by omega, Nat.le_of_ble_eq_true rfl, Nat.le_of_ble_eq_true rfl⟩ | exact ⟨rfl, rfl, rfl, Nat.le_of_ble_eq_true rfl, by first | rfl | omega | exact Nat.le_of_ble_eq_true rfl | (simp; done) | (simp; omega), by first | rfl | omega | exact Nat.le_of_ble_eq_true rfl | (simp; done) | (simp; omega), by omega, Nat.le_of_ble_eq_true rfl⟩ | exact Eq.refl true) ?_)
          | (with_reducible refine ld (boolLz hi (by omega)) ?_)
          | (refine Exists.intro _ (And.intro rfl ?_))
          | (refine And.intro (And.intro rfl (chk_rowI _ _ _ _)) ?_)
          | (refine br_t (by omega) ?_)
          | (refine br_f (by omega) ?_)
          | (refine bs_t (by omega) ?_)
          | (refine bs_f (by omega) ?_)
          | (refine fun (K' : K3) hK' => ?_)
          | (refine hK' _ _ _ ?_; clear hK' K')
          | (refine draw_auto tok mixed (by kernel_rfl) ?_)
          | (refine Long_k B ?_)
          | (refine rvalid_k hll hsl rfl rfl ?_)
          | (refine bs_bf hL' ?_)
          | (refine br_bf hL' ?_)
          | (refine bs_bf hv' ?_)
          | (refine br_bf hv' ?_)
          | (refine Reach_kz hi hk hll hsl (by omega) (by omega) rfl rfl ?_)
          | (refine br_bt hld ?_)
          | (refine bs_bt hld ?_)
          | (refine Source_kz hi hk hll hsl (by omega) (by omega) rfl rfl ?_)
          | (refine Reach_kz (i := srcI B i k) rfl hk hll hsl (by omega) (by omega) rfl rfl ?_)
          | (refine has_kz (l := rchL B (srcI B i k) k) rfl (by omega) rfl ?_)
          | (refine bs_bt hC' ?_)
          | (refine br_bt hC' ?_)
          | (refine Sane_k ?_)
          | (refine And.intro (And.intro rfl rfl) ?_))
      intro ρ; rfl
theorem spreads_any (B : Bay) (cell m : Int) (la sa : Option Addr) (lc sc : Nat) (w : World) (hl : BoolsAt w la B.Land) (hsh : FivesAt w sa B.Share) (hcell : 0 ≤ cell ∧ cell ≤ 255) (hm : 0 ≤ m ∧ m ≤ 255) :
    Calls Try.prog 14 #[.agg #[.int .i64 B.W, .int .i64 B.H, .slice la B.Land.length lc, .slice sa B.Share.length sc], .int .u8 cell, .int .u8 m] w fun e w' => e = .returned (.bool true) ∧ Below w.heap.size w w' := by
  have h := spreads_spec B cell m hcell hm _ w (bay_hp (lc := lc) (sc := sc) hl hsh) (by
    intro v hv
    simp only [List.mem_cons, List.not_mem_nil, or_false] at hv
    rcases hv with rfl | rfl | rfl <;> simp [V.wf, A.wf, C.wf, C.i])
  refine (show Calls Try.prog 14 #[.agg #[.int .i64 B.W, .int .i64 B.H, .slice la B.Land.length lc, .slice sa B.Share.length sc], .int .u8 cell, .int .u8 m] w _ from h).mono ?_
  rintro e w' ⟨v, ρ', L', nx', rfl, h1, h2, h3, h4, h5, h6⟩
  exact ⟨by rw [h6 ρ']; rfl, h4⟩
end Go.Proofs.Ytnafllhgjidbkaa

/- The law that the moves of a sum are the sum of the moves. -/
namespace Go.Proofs.Ytnafllhgjidbkaa
open Go.RowKit
set_option linter.unusedVariables false
set_option linter.unusedSimpArgs false
theorem adds_plain {B : Bay} {s t : Slk} (n : Int) (hn : 0 ≤ n) (h0 : sumE B s t = 0) :
    0 ≤ s.K ∧ s.K ≤ 5 ∧ ∀ k : Nat, s.K + k ≤ 5 → aftE B (addS s t) k = 0 ∧ aftE B s k = 0 ∧ aftE B t k = 0 ∧ aftS B (addS s t) k = mvN B (addS s t) k ∧ aftS B s k = mvN B s k ∧ aftS B t k = mvN B t k ∧
      sumE B (mvN B s k) (mvN B t k) = 0 ∧ sumS B (mvN B s k) (mvN B t k) = mvN B (addS s t) k ∧ samB (mvN B (addS s t) k) (mvN B (addS s t) k) = true ∧ (mvN B (addS s t) k).Oil.length ≤ 100 ∧ (mvN B s k).Oil.length ≤ 100 ∧ (mvN B t k).Oil.length ≤ 100 := by
  have hval : validB B = true := by
    cases h : validB B
    · rw [rsE_bay h] at h0; cases h0
    · rfl
  have hall : fitsB B s = true ∧ fitsB B t = true ∧ s.K = t.K ∧ fitsB B (addS s t) = true := by
    refine Classical.byContradiction fun h => ?_
    rw [rsE_no hval h] at h0; cases h0
  obtain ⟨hs, ht, hk, ha⟩ := hall
  have hvp : validP B := by simpa [validB] using hval
  have fs := fitsB_iff.1 hs
  have ft := fitsB_iff.1 ht
  have fa := fitsB_iff.1 ha
  have hp36 := mul36 hvp.1.1 hvp.1.2 hvp.2.1.1 hvp.2.1.2
  have hSS := hvp.2.2.2.1
  have hsl : s.Oil.length = B.Share.length := by have := fs.2.1; omega
  have htl : t.Oil.length = B.Share.length := by have := ft.2.1; omega
  have hal : (addS s t).Oil.length = B.Share.length := by have := fa.2.1; omega
  refine ⟨fs.1.1, fs.1.2, fun k hkk => ?_⟩
  have hkt : t.K + k ≤ 5 := by omega
  have hka : (addS s t).K + k ≤ 5 := hkk
  have a1 := aft_ok hvp fa hka
  have a2 := aft_ok hvp fs hkk
  have a3 := aft_ok hvp ft hkt
  have m1 := mvN_fits hvp fs k hkk
  have m2 := mvN_fits hvp ft k hkt
  have m3 := mvN_fits hvp fa k hka
  have hm := mvN_addS hvp hsl htl k
  have hKs : (mvN B s k).K = (mvN B t k).K := by rw [mvN_K, mvN_K, hk]
  have hE : sumE B (mvN B s k) (mvN B t k) = 0 := rsE_ok hval ⟨fitsB_true m1, fitsB_true m2, hKs, by rw [← hm]; exact fitsB_true m3⟩
  refine ⟨a1.1, a2.1, a3.1, a1.2, a2.2, a3.2, hE, by rw [rsS_ok hE, hm], ?_, ?_, ?_, ?_⟩
  · have hr : rngP (mvN B (addS s t) k) := by
      have hsum := sum_bd _ (amt_range m3.2.2.1)
      exact ⟨m3.1, m3.2.2.1, m3.2.2.2.1, by have := m3.2.2.2.2; omega⟩
    exact samB_true ⟨hr, hr, ⟨rfl, fun _ _ => by simp [prB]⟩, by simp [prB]⟩
  · rw [mvN_len]; omega
  · rw [mvN_len]; omega
  · rw [mvN_len]; omega
theorem sumS_nil {B : Bay} {s t : Slk} (h : sumE B s t ≠ 0) : (sumS B s t).Oil.length = 0 := by rw [rsS_no h]; rfl
set_option maxRecDepth 100000 in
theorem adds_spec (B : Bay) (s t : Slk) (n : Int) (hn : 0 ≤ n ∧ n ≤ 255) :
    Spec Try.prog 9 [V.agg [C.i B.W, C.i B.H, C.sl 0 B.Land.length, C.sl 1 B.Share.length], V.agg [C.i s.K, C.sl 2 s.Oil.length, C.i s.Away, C.i t.K, C.sl 3 t.Oil.length, C.i t.Away], V.c (.int .u8 n)]
      [⟨0, .ro 0, B.Land.map C.bool⟩, ⟨1, .ro 0, shareC B.Share⟩, ⟨2, .ro 0, s.Oil.map C.i⟩, ⟨3, .ro 0, t.Oil.map C.i⟩] 4 (Is (V.c (.bool true))) := by
  by_cases hL : 100 < B.Land.length ∨ 100 < B.Share.length
  · have hL' : decide (100 < B.Land.length ∨ 100 < B.Share.length) = true := decide_eq_true hL
    refine Spec.of tok Try.func9 rfl rfl rfl fun n0 => vc_ok tok ?_
    repeat ((conv => whnf); first
        | (refine And.intro (by first | omega | exact Nat.le_of_ble_eq_true rfl | (dsimp only [inK]; omega) | (simp only [mulS_eq]; omega) | (simp only [mulS_eq, setL_length]; omega) | (simp only [setL_length, List.length_map]; omega) | exact ⟨by omega, by omega, by first | exact Nat.le_of_ble_eq_true rfl | (dsimp only; omega) | (simp only [setL_length]; omega) | (simp only [setL_length, List.length_map]; omega)⟩ | exact ⟨by omega, by first | rfl | omega, by omega, Nat.le_of_ble_eq_true rfl, Nat.le_of_ble_eq_true rfl⟩ | exact ⟨rfl, rfl, rfl, Nat.le_of_ble_eq_true rfl, by first | rfl | omega | exact Nat.le_of_ble_eq_true rfl | (simp; done) | (simp; omega), by first | rfl | omega | exact Nat.le_of_ble_eq_true rfl | (simp; done) | (simp; omega), by omega, Nat.le_of_ble_eq_true rfl⟩ | exact Eq.refl true) ?_)
        | (refine Exists.intro _ (And.intro rfl ?_))
        | (refine And.intro (And.intro rfl (chk_rowI _ _ _ _)) ?_)
        | (refine br_t (by omega) ?_)
        | (refine br_f (by omega) ?_)
        | (refine bs_t (by omega) ?_)
        | (refine bs_f (by omega) ?_)
        | (refine fun (K' : K3) hK' => ?_)
        | (refine hK' _ _ _ ?_; clear hK' K')
        | (refine draw_late 7 [6] tok mixed (by kernel_rfl) ?_)
        | (refine draw_auto tok mixed (by kernel_rfl) ?_)
        | (refine Long_k B ?_)
        | (refine Sane_k ?_)
        | (refine bs_bt hL' ?_)
        | (refine br_bt hL' ?_)
        | (refine And.intro (And.intro rfl rfl) ?_))
    intro ρ; rfl
  have hL' : decide (100 < B.Land.length ∨ 100 < B.Share.length) = false := decide_eq_false hL
  by_cases hs : 100 < s.Oil.length
  · have hs' : decide (100 < s.Oil.length) = true := decide_eq_true hs
    refine Spec.of tok Try.func9 rfl rfl rfl fun n0 => vc_ok tok ?_
    repeat ((conv => whnf); first
        | (refine And.intro (by first | omega | exact Nat.le_of_ble_eq_true rfl | (dsimp only [inK]; omega) | (simp only [mulS_eq]; omega) | (simp only [mulS_eq, setL_length]; omega) | (simp only [setL_length, List.length_map]; omega) | exact ⟨by omega, by omega, by first | exact Nat.le_of_ble_eq_true rfl | (dsimp only; omega) | (simp only [setL_length]; omega) | (simp only [setL_length, List.length_map]; omega)⟩ | exact ⟨by omega, by first | rfl | omega, by omega, Nat.le_of_ble_eq_true rfl, Nat.le_of_ble_eq_true rfl⟩ | exact ⟨rfl, rfl, rfl, Nat.le_of_ble_eq_true rfl, by first | rfl | omega | exact Nat.le_of_ble_eq_true rfl | (simp; done) | (simp; omega), by first | rfl | omega | exact Nat.le_of_ble_eq_true rfl | (simp; done) | (simp; omega), by omega, Nat.le_of_ble_eq_true rfl⟩ | exact Eq.refl true) ?_)
        | (refine Exists.intro _ (And.intro rfl ?_))
        | (refine And.intro (And.intro rfl (chk_rowI _ _ _ _)) ?_)
        | (refine br_t (by omega) ?_)
        | (refine br_f (by omega) ?_)
        | (refine bs_t (by omega) ?_)
        | (refine bs_f (by omega) ?_)
        | (refine fun (K' : K3) hK' => ?_)
        | (refine hK' _ _ _ ?_; clear hK' K')
        | (refine draw_late 7 [6] tok mixed (by kernel_rfl) ?_)
        | (refine draw_auto tok mixed (by kernel_rfl) ?_)
        | (refine Long_k B ?_)
        | (refine long_k s ?_)
        | (refine Sane_k ?_)
        | (refine bs_bf hL' ?_)
        | (refine br_bf hL' ?_)
        | (refine bs_bt hs' ?_)
        | (refine br_bt hs' ?_)
        | (refine And.intro (And.intro rfl rfl) ?_))
    intro ρ; rfl
  have hs' : decide (100 < s.Oil.length) = false := decide_eq_false hs
  by_cases ht : 100 < t.Oil.length
  · have ht' : decide (100 < t.Oil.length) = true := decide_eq_true ht
    refine Spec.of tok Try.func9 rfl rfl rfl fun n0 => vc_ok tok ?_
    repeat ((conv => whnf); first
        | (refine And.intro (by first | omega | exact Nat.le_of_ble_eq_true rfl | (dsimp only [inK]; omega) | (simp only [mulS_eq]; omega) | (simp only [mulS_eq, setL_length]; omega) | (simp only [setL_length, List.length_map]; omega) | exact ⟨by omega, by omega, by first | exact Nat.le_of_ble_eq_true rfl | (dsimp only; omega) | (simp only [setL_length]; omega) | (simp only [setL_length, List.length_map]; omega)⟩ | exact ⟨by omega, by first | rfl | omega, by omega, Nat.le_of_ble_eq_true rfl, Nat.le_of_ble_eq_true rfl⟩ | exact ⟨rfl, rfl, rfl, Nat.le_of_ble_eq_true rfl, by first | rfl | omega | exact Nat.le_of_ble_eq_true rfl | (simp; done) | (simp; omega), by first | rfl | omega | exact Nat.le_of_ble_eq_true rfl | (simp; done) | (simp; omega), by omega, Nat.le_of_ble_eq_true rfl⟩ | exact Eq.refl true) ?_)
        | (refine Exists.intro _ (And.intro rfl ?_))
        | (refine And.intro (And.intro rfl (chk_rowI _ _ _ _)) ?_)
        | (refine br_t (by omega) ?_)
        | (refine br_f (by omega) ?_)
        | (refine bs_t (by omega) ?_)
        | (refine bs_f (by omega) ?_)
        | (refine fun (K' : K3) hK' => ?_)
        | (refine hK' _ _ _ ?_; clear hK' K')
        | (refine draw_late 7 [6] tok mixed (by kernel_rfl) ?_)
        | (refine draw_auto tok mixed (by kernel_rfl) ?_)
        | (refine Long_k B ?_)
        | (refine long_k s ?_)
        | (refine long_k t ?_)
        | (refine Sane_k ?_)
        | (refine bs_bf hL' ?_)
        | (refine br_bf hL' ?_)
        | (refine bs_bf hs' ?_)
        | (refine br_bf hs' ?_)
        | (refine bs_bt ht' ?_)
        | (refine br_bt ht' ?_)
        | (refine And.intro (And.intro rfl rfl) ?_))
    intro ρ; rfl
  have ht' : decide (100 < t.Oil.length) = false := decide_eq_false ht
  have hll : B.Land.length ≤ 100 := by omega
  have hsl : B.Share.length ≤ 100 := by omega
  by_cases h0 : sumE B s t = 0
  case neg =>
    have h1 : ((sumS B s t).Oil.length : Int) = 0 := by rw [sumS_nil h0]; rfl
    refine Spec.of tok Try.func9 rfl rfl rfl fun n0 => vc_ok tok ?_
    repeat ((conv => whnf); first
        | (refine And.intro (by first | omega | exact Nat.le_of_ble_eq_true rfl | (dsimp only [inK]; omega) | (simp only [mulS_eq]; omega) | (simp only [mulS_eq, setL_length]; omega) | (simp only [setL_length, List.length_map]; omega) | exact ⟨by omega, by omega, by first | exact Nat.le_of_ble_eq_true rfl | (dsimp only; omega) | (simp only [setL_length]; omega) | (simp only [setL_length, List.length_map]; omega)⟩ | exact ⟨by omega, by first | rfl | omega, by omega, Nat.le_of_ble_eq_true rfl, Nat.le_of_ble_eq_true rfl⟩ | exact ⟨rfl, rfl, rfl, Nat.le_of_ble_eq_true rfl, by first | rfl | omega | exact Nat.le_of_ble_eq_true rfl | (simp; done) | (simp; omega), by first | rfl | omega | exact Nat.le_of_ble_eq_true rfl | (simp; done) | (simp; omega), by omega, Nat.le_of_ble_eq_true rfl⟩ | exact Eq.refl true) ?_)
        | (refine Exists.intro _ (And.intro rfl ?_))
        | (refine And.intro (And.intro rfl (chk_rowI _ _ _ _)) ?_)
        | (refine br_t (by omega) ?_)
        | (refine br_f (by omega) ?_)
        | (refine bs_t (by omega) ?_)
        | (refine bs_f (by omega) ?_)
        | (refine fun (K' : K3) hK' => ?_)
        | (refine hK' _ _ _ ?_; clear hK' K')
        | (refine draw_late 7 [6] tok mixed (by kernel_rfl) ?_)
        | (refine draw_auto tok mixed (by kernel_rfl) ?_)
        | (refine Long_k B ?_)
        | (refine long_k s ?_)
        | (refine long_k t ?_)
        | (refine bs_bf hL' ?_)
        | (refine br_bf hL' ?_)
        | (refine bs_bf hs' ?_)
        | (refine br_bf hs' ?_)
        | (refine bs_bf ht' ?_)
        | (refine br_bf ht' ?_)
        | (refine Sum_k (s := s) (t := t) hll hsl (by omega) (by omega) rfl rfl rfl rfl ?_)
        | (refine Sane_k ?_)
        | (refine And.intro (And.intro rfl rfl) ?_))
    intro ρ; rfl
  obtain ⟨k0, k5, hall⟩ := adds_plain n hn.1 h0
  obtain ⟨k, hkn⟩ : ∃ k : Nat, n % (5 - s.K + 1) = k := ⟨(n % (5 - s.K + 1)).toNat, by have := Int.emod_nonneg n (show 5 - s.K + 1 ≠ 0 by omega); omega⟩
  have hkb : s.K + k ≤ 5 := by have := Int.emod_lt_of_pos n (show 0 < 5 - s.K + 1 by omega); omega
  obtain ⟨e1, e2, e3, e4, e5, e6, e7, e8, e9, l1, l2, l3⟩ := hall k hkb
  have hS := rsS_ok h0
  have he : eqSlk (mvN B (addS s t) k) (mvN B (addS s t) k) = true := eqSlk_refl _
  have hSl := sumS_100 (B := B) (s := s) (t := t) (by omega)
  rw [hS] at hSl
  have A1 : ∀ {n0 nx a b c : Nat} {ka kb kc : Kd} {L : List E} {K : V → List E → Nat → Prop}, find L a = some ⟨a, ka, B.Land.map C.bool⟩ → find L b = some ⟨b, kb, shareC B.Share⟩ → find L c = some ⟨c, kc, (sumS B s t).Oil.map C.i⟩ →
      K (V.tup [A.agg [C.i (mvN B (addS s t) k).K, C.sl nx (mvN B (addS s t) k).Oil.length, C.i (mvN B (addS s t) k).Away], A.c (C.i 0)]) [⟨nx, .ro 0, (mvN B (addS s t) k).Oil.map C.i⟩] (nx + 1) →
      CallK Try.prog n0 20 [V.agg [C.i B.W, C.i B.H, C.sl a B.Land.length, C.sl b B.Share.length], V.agg [C.i (sumS B s t).K, C.sl c (sumS B s t).Oil.length, C.i (sumS B s t).Away], V.i (n % (5 - s.K + 1))] L nx K := by
    intro n0 nx a b c ka kb kc L K h1 h2 h3 hK
    rw [hS] at h3 ⊢
    rw [hkn]
    refine After_k hll hsl (by omega) (by omega) h1 h2 h3 ?_
    rw [e1, e4]; exact hK
  have A2 : ∀ {n0 nx a b c : Nat} {ka kb kc : Kd} {L : List E} {K : V → List E → Nat → Prop}, find L a = some ⟨a, ka, B.Land.map C.bool⟩ → find L b = some ⟨b, kb, shareC B.Share⟩ → find L c = some ⟨c, kc, s.Oil.map C.i⟩ →
      K (V.tup [A.agg [C.i (mvN B s k).K, C.sl nx (mvN B s k).Oil.length, C.i (mvN B s k).Away], A.c (C.i 0)]) [⟨nx, .ro 0, (mvN B s k).Oil.map C.i⟩] (nx + 1) →
      CallK Try.prog n0 20 [V.agg [C.i B.W, C.i B.H, C.sl a B.Land.length, C.sl b B.Share.length], V.agg [C.i s.K, C.sl c s.Oil.length, C.i s.Away], V.i (n % (5 - s.K + 1))] L nx K := by
    intro n0 nx a b c ka kb kc L K h1 h2 h3 hK
    rw [hkn]
    refine After_k hll hsl (by omega) (by omega) h1 h2 h3 ?_
    rw [e2, e5]; exact hK
  have A3 : ∀ {n0 nx a b c : Nat} {ka kb kc : Kd} {L : List E} {K : V → List E → Nat → Prop}, find L a = some ⟨a, ka, B.Land.map C.bool⟩ → find L b = some ⟨b, kb, shareC B.Share⟩ → find L c = some ⟨c, kc, t.Oil.map C.i⟩ →
      K (V.tup [A.agg [C.i (mvN B t k).K, C.sl nx (mvN B t k).Oil.length, C.i (mvN B t k).Away], A.c (C.i 0)]) [⟨nx, .ro 0, (mvN B t k).Oil.map C.i⟩] (nx + 1) →
      CallK Try.prog n0 20 [V.agg [C.i B.W, C.i B.H, C.sl a B.Land.length, C.sl b B.Share.length], V.agg [C.i t.K, C.sl c t.Oil.length, C.i t.Away], V.i (n % (5 - s.K + 1))] L nx K := by
    intro n0 nx a b c ka kb kc L K h1 h2 h3 hK
    rw [hkn]
    refine After_k hll hsl (by omega) (by omega) h1 h2 h3 ?_
    rw [e3, e6]; exact hK
  have A4 : ∀ {n0 nx a b c d : Nat} {ka kb kc kd : Kd} {L : List E} {K : V → List E → Nat → Prop}, find L a = some ⟨a, ka, B.Land.map C.bool⟩ → find L b = some ⟨b, kb, shareC B.Share⟩ → find L c = some ⟨c, kc, (mvN B s k).Oil.map C.i⟩ → find L d = some ⟨d, kd, (mvN B t k).Oil.map C.i⟩ →
      K (V.tup [A.agg [C.i (mvN B (addS s t) k).K, C.sl nx (mvN B (addS s t) k).Oil.length, C.i (mvN B (addS s t) k).Away], A.c (C.i 0)]) [⟨nx, .ro 0, (mvN B (addS s t) k).Oil.map C.i⟩] (nx + 1) →
      CallK Try.prog n0 40 [V.agg [C.i B.W, C.i B.H, C.sl a B.Land.length, C.sl b B.Share.length], V.agg [C.i (mvN B s k).K, C.sl c (mvN B s k).Oil.length, C.i (mvN B s k).Away], V.agg [C.i (mvN B t k).K, C.sl d (mvN B t k).Oil.length, C.i (mvN B t k).Away]] L nx K := by
    intro n0 nx a b c d ka kb kc kd L K h1 h2 h3 h4 hK
    refine Sum_k hll hsl (by omega) (by omega) h1 h2 h3 h4 ?_
    rw [e7, e8]; exact hK
  refine Spec.of tok Try.func9 rfl rfl rfl fun n0 => vc_ok tok ?_
  repeat ((conv => whnf); first
      | (refine And.intro (by first | omega | exact Nat.le_of_ble_eq_true rfl | (dsimp only [inK]; omega) | (simp only [mulS_eq]; omega) | (simp only [mulS_eq, setL_length]; omega) | (simp only [setL_length, List.length_map]; omega) | exact ⟨by omega, by omega, by first | exact Nat.le_of_ble_eq_true rfl | (dsimp only; omega) | (simp only [setL_length]; omega) | (simp only [setL_length, List.length_map]; omega)⟩ | exact ⟨by omega, by first | rfl | omega, by omega, Nat.le_of_ble_eq_true rfl, Nat.le_of_ble_eq_true rfl⟩ | exact ⟨rfl, rfl, rfl, Nat.le_of_ble_eq_true rfl, by first | rfl | omega | exact Nat.le_of_ble_eq_true rfl | (simp; done) | (simp; omega), by first | rfl | omega | exact Nat.le_of_ble_eq_true rfl | (simp; done) | (simp; omega), by omega, Nat.le_of_ble_eq_true rfl⟩ | exact Eq.refl true) ?_)
      | (refine Exists.intro _ (And.intro rfl ?_))
      | (refine And.intro (And.intro rfl (chk_rowI _ _ _ _)) ?_)
      | (refine br_t (by omega) ?_)
      | (refine br_f (by omega) ?_)
      | (refine bs_t (by omega) ?_)
      | (refine bs_f (by omega) ?_)
      | (refine fun (K' : K3) hK' => ?_)
      | (refine hK' _ _ _ ?_; clear hK' K')
      | (refine draw_late 7 [6] tok mixed (by kernel_rfl) ?_)
      | (refine draw_auto tok mixed (by kernel_rfl) ?_)
      | (refine Long_k B ?_)
      | (refine long_k s ?_)
      | (refine long_k t ?_)
      | (refine bs_bf hL' ?_)
      | (refine br_bf hL' ?_)
      | (refine bs_bf hs' ?_)
      | (refine br_bf hs' ?_)
      | (refine bs_bf ht' ?_)
      | (refine br_bf ht' ?_)
      | (refine A4 rfl rfl rfl rfl ?_)
      | (refine Sum_k (s := s) (t := t) hll hsl (by omega) (by omega) rfl rfl rfl rfl ?_)
      | (refine A1 rfl rfl rfl ?_)
      | (refine A2 rfl rfl rfl ?_)
      | (refine A3 rfl rfl rfl ?_)
      | (refine equal_k (s := mvN B (addS s t) k) (t := mvN B (addS s t) k) (by omega) (by omega) rfl rfl ?_)
      | (refine Same_k (s := mvN B (addS s t) k) (t := mvN B (addS s t) k) (by omega) (by omega) rfl rfl ?_)
      | (refine Sane_k ?_)
      | (refine bs_bt he ?_)
      | (refine br_bt he ?_)
      | (refine bs_bt e9 ?_)
      | (refine br_bt e9 ?_)
      | (refine And.intro (And.intro rfl rfl) ?_))
  intro ρ; rfl
theorem adds_any (B : Bay) (s t : Slk) (n : Int) (la sa ao bo : Option Addr) (lc sc c d : Nat) (w : World) (hl : BoolsAt w la B.Land) (hsh : FivesAt w sa B.Share) (hi : IntsAt w ao s.Oil) (hj : IntsAt w bo t.Oil) (hn : 0 ≤ n ∧ n ≤ 255) :
    Calls Try.prog 9 #[.agg #[.int .i64 B.W, .int .i64 B.H, .slice la B.Land.length lc, .slice sa B.Share.length sc], .agg #[.int .i64 s.K, .slice ao s.Oil.length c, .int .i64 s.Away, .int .i64 t.K, .slice bo t.Oil.length d, .int .i64 t.Away], .int .u8 n] w fun e w' => e = .returned (.bool true) ∧ Below w.heap.size w w' := by
  let ρ : Env := fun l => match l with | 0 => (la, lc) | 1 => (sa, sc) | 2 => (ao, c) | _ => (bo, d)
  have hp : Hp w.heap.size ρ w [⟨0, .ro 0, B.Land.map C.bool⟩, ⟨1, .ro 0, shareC B.Share⟩, ⟨2, .ro 0, s.Oil.map C.i⟩, ⟨3, .ro 0, t.Oil.map C.i⟩] 4 := by
    refine Hp.ros (fun e he => ?_) rfl
    simp only [List.mem_cons, List.not_mem_nil, or_false] at he
    rcases he with rfl | rfl | rfl | rfl
    · exact ⟨rfl, by simp, wf_bools _ _, by rw [den_bools]; exact hl⟩
    · exact ⟨rfl, by simp, wf_shares _ _, by rw [den_shares]; exact hsh⟩
    · exact ⟨rfl, by simp, wf_ints _ _, by rw [den_ints]; exact hi⟩
    · exact ⟨rfl, by simp, wf_ints _ _, by rw [den_ints]; exact hj⟩
  have h := adds_spec B s t n hn ρ w hp (by
    intro v hv
    simp only [List.mem_cons, List.not_mem_nil, or_false] at hv
    rcases hv with rfl | rfl | rfl <;> simp [V.wf, A.wf, C.wf, C.i])
  refine (show Calls Try.prog 9 #[.agg #[.int .i64 B.W, .int .i64 B.H, .slice la B.Land.length lc, .slice sa B.Share.length sc], .agg #[.int .i64 s.K, .slice ao s.Oil.length c, .int .i64 s.Away, .int .i64 t.K, .slice bo t.Oil.length d, .int .i64 t.Away], .int .u8 n] w _ from h).mono ?_
  rintro e w' ⟨v, ρ', L', nx', rfl, h1, h2, h3, h4, h5, h6⟩
  refine ⟨?_, h4⟩
  rw [h6 ρ']
  rfl
end Go.Proofs.Ytnafllhgjidbkaa

/- How what came in reads as bays and slicks. -/
namespace Go.Proofs.Ytnafllhgjidbkaa
open Go.ChangeShapes Go.WideShapes Go.ChangeAt Go.RowKit Go.Deep Go.Joins
set_option linter.unusedVariables false
set_option linter.unusedSimpArgs false

theorem cells_at {w : World} {a : Addr} {cs : List Value} (h : ∀ i, i < cs.length → w.cell? (a.add i) = some (cs.getD i undef)) : CellsAt w (some a) cs := by
  intro hne
  have hp : 0 < cs.length := List.length_pos_iff.2 hne
  obtain ⟨b, off, spot⟩ := a
  have hspot : spot = none := by simpa [Addr.add] using World.cell?_spot (h 0 hp)
  subst hspot
  refine ⟨b, off, rfl, ?_, fun j hj => by rw [← Go.WideShapes.add_plain]; exact h j hj⟩
  have := World.block_lt_of_cell? _ _ (h 0 hp)
  simpa [Addr.add] using this

section
variable {H : Type} {enc : TypeId × Value → H} {W : World} {sp : Nat → Bool}

theorem open_bools22 {n : Nat} {v : Value} {x : DataW H × List MemPlace} (h : DataW.trod enc Try.prog W 0 sp true n 22 [v] = some x) :
    ∃ (ao : Option Addr) (c : Nat) (l : List Bool), v = .slice ao l.length c ∧ BoolsAt W ao l := by
  rcases open_slice1 Try.underlying22 (by kernel_rfl) h with ⟨hcs, _⟩ | ⟨a, len, cap, m, f, V, D, Pl, hcs, _, hl, _, hm, _, hx⟩
  · cases hcs
    exact ⟨none, 0, [], rfl, fun hne => absurd rfl hne⟩
  · cases hcs
    have hlm : len ≤ m := by rw [hm]; split <;> omega
    obtain ⟨b, hb⟩ := choose_lt (α := Bool) (n := len) (p := fun i b => V i = .bool b) (fun i hi => by
      obtain ⟨b, hb, _⟩ := DataW.trod_bool Try.underlying4 (hx i (by omega)).2
      exact ⟨b, by simpa using hb⟩)
    refine ⟨some a, cap, (List.range len).map b, by simp, ?_⟩
    refine cells_at (fun i hi => ?_)
    have hi' : i < len := by simpa using hi
    rw [(hx i (by omega)).1, hb i hi']
    simp [List.getD_eq_getElem?_getD, hi']

theorem open_ints26 {n : Nat} {v : Value} {x : DataW H × List MemPlace} (h : DataW.trod enc Try.prog W 0 sp true n 26 [v] = some x) :
    ∃ (ao : Option Addr) (c : Nat) (l : List Int), v = .slice ao l.length c ∧ IntsAt W ao l ∧ ∀ k, k < l.length → (Lit.int .i64 (l.getD k 0)).wf = true := by
  rcases open_slice1 Try.underlying26 (by kernel_rfl) h with ⟨hcs, _⟩ | ⟨a, len, cap, m, f, V, D, Pl, hcs, _, hl, _, hm, _, hx⟩
  · cases hcs
    exact ⟨none, 0, [], rfl, fun hne => absurd rfl hne, by intro k hk; simp at hk⟩
  · cases hcs
    have hlm : len ≤ m := by rw [hm]; split <;> omega
    obtain ⟨b, hb⟩ := choose_lt (α := Int) (n := len) (p := fun i b => V i = .int .i64 b ∧ (Lit.int .i64 b).wf = true) (fun i hi => by
      obtain ⟨b, hb, _, hw⟩ := DataW.trod_int Try.underlying3 (hx i (by omega)).2
      exact ⟨b, by simpa using hb, hw⟩)
    refine ⟨some a, cap, (List.range len).map b, by simp, ?_, ?_⟩
    · refine cells_at (fun i hi => ?_)
      have hi' : i < len := by simpa using hi
      rw [(hx i (by omega)).1, (hb i hi').1]
      simp [List.getD_eq_getElem?_getD, hi']
    · intro k hk
      have hk' : k < len := by simpa using hk
      have := (hb k hk').2
      simpa [List.getD_eq_getElem?_getD, hk'] using this

theorem open_fives23 {n : Nat} {v : Value} {x : DataW H × List MemPlace} (h : DataW.trod enc Try.prog W 0 sp true n 23 [v] = some x) :
    ∃ (ao : Option Addr) (c : Nat) (l : List Five), v = .slice ao l.length c ∧ FivesAt W ao l := by
  rcases open_slice Try.underlying23 h with ⟨hcs, _⟩ | ⟨a, len, cap, m, f, D, Pl, hcs, _, hl, _, hm, _, hx⟩
  · cases hcs
    exact ⟨none, 0, [], rfl, fun hne => absurd rfl hne⟩
  · cases hcs
    have hc5 : Try.prog.cellsOf 74 = 5 := by kernel_rfl
    have hc1 : Try.prog.cellsOf 3 = 1 := by kernel_rfl
    have hlm : len ≤ m := by rw [hm]; split <;> omega
    rw [hc5] at hx
    obtain ⟨b, hb⟩ := choose_lt (α := Five) (n := len) (p := fun i y => ∀ j, j < 5 → W.cell? ((a.add (i * 5)).add j) = some ((Five.cells y).getD j undef)) (fun i hi => by
      obtain ⟨cs', h1, h2⟩ := hx i (by omega)
      obtain ⟨_, hlen, hcell⟩ := World.cells?_some h1
      obtain ⟨xs, k, _, _, _, hxl, hxs⟩ := DataW.trod_array Try.underlying74 h2
      rw [hc1] at hxs
      have each : ∀ j, j < 5 → ∃ z : Int, cs'[j]? = some (.int .i64 z) := fun j hj => by
        have h3 := hxs j hj
        have hj' : j < xs.length := by omega
        rw [List.getElem?_eq_getElem hj'] at h3
        obtain ⟨z, hz, _⟩ := DataW.trod_int Try.underlying3 h3
        refine ⟨z, ?_⟩
        have h4 := congrArg (fun l => l[0]?) hz
        simpa [List.getElem?_take, List.getElem?_drop] using h4
      obtain ⟨z0, e0⟩ := each 0 (by omega)
      obtain ⟨z1, e1⟩ := each 1 (by omega)
      obtain ⟨z2, e2⟩ := each 2 (by omega)
      obtain ⟨z3, e3⟩ := each 3 (by omega)
      obtain ⟨z4, e4⟩ := each 4 (by omega)
      refine ⟨(z0, z1, z2, z3, z4), fun j hj => ?_⟩
      rw [hcell j hj]
      match j, hj with
      | 0, _ => rw [e0]; rfl
      | 1, _ => rw [e1]; rfl
      | 2, _ => rw [e2]; rfl
      | 3, _ => rw [e3]; rfl
      | 4, _ => rw [e4]; rfl)
    refine ⟨some a, cap, (List.range len).map b, by simp, ?_⟩
    refine cells_at (fun i hi => ?_)
    rw [flat_len] at hi
    have hi' : i < 5 * len := by simpa using hi
    have hq : i / 5 < len := by omega
    have h5 := hb (i / 5) hq (i % 5) (by omega)
    rw [add_add, show i / 5 * 5 + i % 5 = i by omega] at h5
    rw [h5]
    have h6 := flat_get ((List.range len).map b) (i / 5) (i % 5) (by simpa using hq) (by omega)
    rw [show i / 5 * 5 + i % 5 = i by omega] at h6
    rw [h6]
    simp [List.getD_eq_getElem?_getD, hq]

set_option maxRecDepth 100000 in
theorem open_bay {v : Value} {d : DataW H} {p : List MemPlace} {r : Reach} {b0 : Nat} (hv : Value.okWide Try.prog W r b0 25 v) (h : DataW.Trod enc Try.prog W 0 sp true 25 v d p) :
    ∃ (B : Bay) (la : Option Addr) (lc : Nat) (sa : Option Addr) (sc : Nat), v = .agg #[.int .i64 B.W, .int .i64 B.H, .slice la B.Land.length lc, .slice sa B.Share.length sc] ∧ BoolsAt W la B.Land ∧ FivesAt W sa B.Share ∧
      (Lit.int .i64 B.W).wf = true ∧ (Lit.int .i64 B.H).wf = true := by
  obtain ⟨v0, v1, v2, v3, y0, y1, y2, y3, n, rfl, _, _, h0, h1, h2, h3⟩ := open_agg4 Try.underlying25 (by kernel_rfl) (by kernel_rfl) hv h
  obtain ⟨wW, e0, _, f0⟩ := DataW.trod_int Try.underlying3 h0
  obtain ⟨wH, e1, _, f1⟩ := DataW.trod_int Try.underlying3 h1
  obtain ⟨la, lc, l, rfl, hl⟩ := open_bools22 h2
  obtain ⟨sa, sc, s, rfl, hs⟩ := open_fives23 h3
  cases e0
  cases e1
  exact ⟨⟨wW, wH, l, s⟩, la, lc, sa, sc, rfl, hl, hs, f0, f1⟩

set_option maxRecDepth 100000 in
theorem open_slick {v : Value} {d : DataW H} {p : List MemPlace} {r : Reach} {b0 : Nat} (hv : Value.okWide Try.prog W r b0 28 v) (h : DataW.Trod enc Try.prog W 0 sp true 28 v d p) :
    ∃ (s : Slk) (ao : Option Addr) (c : Nat), v = .agg #[.int .i64 s.K, .slice ao s.Oil.length c, .int .i64 s.Away] ∧ IntsAt W ao s.Oil ∧
      (Lit.int .i64 s.K).wf = true ∧ (Lit.int .i64 s.Away).wf = true ∧ ∀ k, k < s.Oil.length → (Lit.int .i64 (s.Oil.getD k 0)).wf = true := by
  obtain ⟨v0, v1, v2, y0, y1, y2, n, rfl, _, _, h0, h1, h2⟩ := open_agg3 Try.underlying28 (by kernel_rfl) (by kernel_rfl) hv h
  obtain ⟨k, e0, _, f0⟩ := DataW.trod_int Try.underlying3 h0
  obtain ⟨a, e2, _, f2⟩ := DataW.trod_int Try.underlying3 h2
  obtain ⟨ao, c, l, rfl, hl, hw⟩ := open_ints26 h1
  cases e0
  cases e2
  exact ⟨⟨k, l, a⟩, ao, c, rfl, hl, f0, f2, hw⟩
end
end Go.Proofs.Ytnafllhgjidbkaa

/- Two small numbers that came in. -/
namespace Go.Proofs.Ytnafllhgjidbkaa
open Go.ChangeShapes Go.WideShapes Go.ChangeAt Go.RowKit Go.Deep Go.Joins
set_option linter.unusedVariables false
set_option linter.unusedSimpArgs false
section
variable {H : Type} {enc : TypeId × Value → H} {W : World} {sp : Nat → Bool}
theorem u8_bd {n : Int} (h : (Lit.int .u8 n).wf = true) : 0 ≤ n ∧ n ≤ 255 := by
  simp [Lit.wf, IntKind.min, IntKind.max, IntKind.signed, IntKind.bits] at h; omega
theorem i64_bd {n : Int} (h : (Lit.int .i64 n).wf = true) : -9223372036854775808 ≤ n ∧ n ≤ 9223372036854775807 := by
  simp [Lit.wf, IntKind.min, IntKind.max, IntKind.signed, IntKind.bits] at h; omega
set_option maxRecDepth 100000 in
theorem open_two45 {v : Value} {d : DataW H} {p : List MemPlace} {r : Reach} {b0 : Nat} (hv : Value.okWide Try.prog W r b0 45 v) (h : DataW.Trod enc Try.prog W 0 sp true 45 v d p) :
    ∃ a b : Int, v = .agg #[.int .u8 a, .int .u8 b] ∧ (0 ≤ a ∧ a ≤ 255) ∧ 0 ≤ b ∧ b ≤ 255 := by
  simp only [Value.okWide, Try.underlying45] at hv
  obtain ⟨cs, rfl, hsz, _⟩ := hv
  obtain ⟨fuel, hf⟩ := h
  have hc : Try.prog.cellsOf 5 = 1 := by kernel_rfl
  have hc2 : Try.prog.cellsOf 45 = 2 := by kernel_rfl
  rw [hc2] at hsz
  obtain ⟨xs, m, _, _, hl, hxl, hx⟩ := DataW.trod_array Try.underlying45 hf
  rw [hc] at hx
  obtain ⟨l⟩ := cs
  have hl2 : l.length = 2 := by simpa using hsz
  match l, hl2 with
  | [c0, c1], _ =>
    have h0 := hx 0 (by omega)
    have h1 := hx 1 (by omega)
    rw [List.getElem?_eq_getElem (by omega)] at h0 h1
    simp [Value.cells] at h0 h1
    obtain ⟨a, e0, _, w0⟩ := DataW.trod_int Try.underlying5 h0
    obtain ⟨b, e1, _, w1⟩ := DataW.trod_int Try.underlying5 h1
    cases e0
    cases e1
    exact ⟨a, b, rfl, u8_bd w0, u8_bd w1⟩
end
end Go.Proofs.Ytnafllhgjidbkaa

/- How prices, pairs of slicks and lists of numbers that came in read. -/
namespace Go.Proofs.Ytnafllhgjidbkaa
open Go.ChangeShapes Go.WideShapes Go.ChangeAt Go.RowKit Go.Deep Go.Joins
set_option linter.unusedVariables false
set_option linter.unusedSimpArgs false
section
variable {H : Type} {enc : TypeId × Value → H} {W : World} {sp : Nat → Bool}
set_option maxRecDepth 100000 in
theorem open_priced {v : Value} {d : DataW H} {p : List MemPlace} {r : Reach} {b0 : Nat} (hv : Value.okWide Try.prog W r b0 64 v) (h : DataW.Trod enc Try.prog W 0 sp true 64 v d p) :
    ∃ (po : Option Addr) (pc : Nat) (l : List Int) (N : Int), v = .agg #[.slice po l.length pc, .int .i64 N] ∧ IntsAt W po l ∧ -9223372036854775808 ≤ N ∧ N ≤ 9223372036854775807 := by
  obtain ⟨v0, v1, y0, y1, n, rfl, _, _, h0, h1⟩ := open_agg2 Try.underlying64 (by kernel_rfl) (by kernel_rfl) hv h
  obtain ⟨po, pc, l, rfl, hl, hw⟩ := open_ints26 h0
  obtain ⟨k, e0, _, f0⟩ := DataW.trod_int Try.underlying3 h1
  cases e0
  exact ⟨po, pc, l, k, rfl, hl, i64_bd f0⟩
set_option maxRecDepth 100000 in
theorem open_intsv {v : Value} {d : DataW H} {p : List MemPlace} {r : Reach} {b0 : Nat} (hv : Value.okWide Try.prog W r b0 26 v) (h : DataW.Trod enc Try.prog W 0 sp true 26 v d p) :
    ∃ (po : Option Addr) (pc : Nat) (l : List Int), v = .slice po l.length pc ∧ IntsAt W po l := by
  obtain ⟨fuel, hf⟩ := h
  obtain ⟨ao, n, cp, rfl⟩ := okWide_slice Try.underlying26 hv
  simp only [Value.cells] at hf
  obtain ⟨po, pc, l, e, hl, hw⟩ := open_ints26 hf
  exact ⟨po, pc, l, e, hl⟩
set_option maxRecDepth 100000 in
theorem open_pair {v : Value} {d : DataW H} {p : List MemPlace} {r : Reach} {b0 : Nat} (hv : Value.okWide Try.prog W r b0 56 v) (h : DataW.Trod enc Try.prog W 0 sp true 56 v d p) :
    ∃ (s t : Slk) (ao : Option Addr) (c : Nat) (bo : Option Addr) (d : Nat), v = .agg #[.int .i64 s.K, .slice ao s.Oil.length c, .int .i64 s.Away, .int .i64 t.K, .slice bo t.Oil.length d, .int .i64 t.Away] ∧ IntsAt W ao s.Oil ∧ IntsAt W bo t.Oil := by
  simp only [Value.okWide, Try.underlying56] at hv
  obtain ⟨cs, rfl, hsz, _⟩ := hv
  obtain ⟨fuel, hf⟩ := h
  have hc : Try.prog.cellsOf 28 = 3 := by kernel_rfl
  have hc3 : Try.prog.cellsOf 3 = 1 := by kernel_rfl
  have hc26 : Try.prog.cellsOf 26 = 1 := by kernel_rfl
  have hc2 : Try.prog.cellsOf 56 = 6 := by kernel_rfl
  rw [hc2] at hsz
  obtain ⟨xs, m, _, _, hl, hxl, hx⟩ := DataW.trod_array Try.underlying56 hf
  rw [hc] at hx
  obtain ⟨l⟩ := cs
  have hl2 : l.length = 6 := by simpa using hsz
  match l, hl2 with
  | [c0, c1, c2, c3, c4, c5], _ =>
    have h0 := hx 0 (by omega)
    have h1 := hx 1 (by omega)
    rw [List.getElem?_eq_getElem (by omega)] at h0 h1
    simp [Value.cells] at h0 h1
    obtain ⟨a0, a1, a2, n, _, _, g0, g1, g2⟩ := trod_struct3 Try.underlying28 h0
    obtain ⟨b0, b1, b2, n', _, _, k0, k1, k2⟩ := trod_struct3 Try.underlying28 h1
    simp [hc3, hc26] at g0 g1 g2 k0 k1 k2
    obtain ⟨z0, e0, _, _⟩ := DataW.trod_int Try.underlying3 g0
    obtain ⟨z2, e2, _, _⟩ := DataW.trod_int Try.underlying3 g2
    obtain ⟨y0, f0, _, _⟩ := DataW.trod_int Try.underlying3 k0
    obtain ⟨y2, f2, _, _⟩ := DataW.trod_int Try.underlying3 k2
    obtain ⟨ao, c, la, rfl, hla, _⟩ := open_ints26 g1
    obtain ⟨bo, d, lb, rfl, hlb, _⟩ := open_ints26 k1
    cases e0
    cases e2
    cases f0
    cases f2
    exact ⟨⟨z0, la, z2⟩, ⟨y0, lb, y2⟩, ao, c, bo, d, rfl, hla, hlb⟩
end
end Go.Proofs.Ytnafllhgjidbkaa

