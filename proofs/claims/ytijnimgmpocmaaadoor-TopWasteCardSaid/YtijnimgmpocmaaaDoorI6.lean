/- Texts of the proof, part 6: R1, R2, X1, F1, F2, F3, F4, U6, V1, V2, V3. -/
import Derived.Test.YtijnimgmpocmaaaDoorI5
import Derived.WalkKit
import Derived.Below
import Derived.Lib.TrailingZeros
import Derived.Laws.OwnMore
import Derived.Maps.AppendAt
import Derived.Laws.IdiomCopy
import Derived.Laws.CopyRow
import Derived.IntWalk
import Derived.StillTail
import Derived.Scope
import Derived.ChangeKeysEq
import Derived.Laws.Small
import Derived.OrdersIn
import Derived.TacticsIn
import Derived.OwnWalkIn
import Derived.RangeFuncNested
import Derived.RangeFuncLeaves
import Derived.RangeFuncRecord
import Derived.Maps.Keyed
import Derived.Maps.RangeRun
import Derived.DeepKeys4
import Derived.Test.YtijnimgmpocmaaaDoorRows
import Derived.KernelRfl
import Derived.Shelf.Spec.TrailingZeros
/- Waste: the document's Valid. -/
namespace Go.Proofs.YtijnimgmpocmaaaDoor
open Go.RowKit
set_option linter.unusedVariables false
set_option linter.unusedSimpArgs false
set_option maxRecDepth 10000 in
set_option maxHeartbeats 4000000 in
theorem rvalid_spec (N : Int) (ps : List Cell) (hl : ps.length ≤ 100) : Spec Tryd.prog 22 [V.agg [C.i N, C.sl 0 ps.length]] [⟨0, .ro 2, cellC ps⟩] 1 (Is (V.c (.bool (okK' N ps)))) := by
  have hcl := cellC_len ps
  have hlen : okK' N ps = true → ps.length ≤ 28 := fun h => by
    obtain ⟨n, qs, rfl, rfl, hk⟩ := knd_of h
    rw [castP_len]; exact knd_len hk
  refine Spec.of tok Tryd.func22 rfl rfl rfl fun n0 cx => vc_ok tok ?_
  by_cases h1 : N < 1
  · repeat ((conv => whnf); first | (refine And.intro (by first | omega | exact Nat.le_of_ble_eq_true rfl | (dsimp only [inK]; omega) | (simp only [mulS_eq]; omega) | (simp only [mulS_eq, setL_length]; omega) | (simp only [setL_length]; omega) | (simp only [setL_length, List.length_map]; omega) | (exact ⟨by omega, by omega, by first | exact Nat.le_of_ble_eq_true rfl | (dsimp only; omega) | (simp only [setL_length]; omega) | (simp only [setL_length, List.length_map]; omega)⟩) | (exact ⟨by omega, by first | rfl | omega, by omega, Nat.le_of_ble_eq_true rfl, Nat.le_of_ble_eq_true rfl⟩) | (exact ⟨rfl, rfl, rfl, Nat.le_of_ble_eq_true rfl, by first | rfl | omega | exact Nat.le_of_ble_eq_true rfl | (dsimp only; omega) | (simp; done) | (simp; omega), by first | rfl | omega | exact Nat.le_of_ble_eq_true rfl | (dsimp only; omega) | (simp; done) | (simp; omega), by omega, Nat.le_of_ble_eq_true rfl⟩) | exact Eq.refl true) ?_) | refine Exists.intro _ (And.intro rfl ?_) | refine And.intro (And.intro rfl (chk_rowI _ _ _ _)) ?_ | refine br_t (by omega) ?_ | refine br_f (by omega) ?_ | refine bs_t (by omega) ?_ | refine bs_f (by omega) ?_ | refine fun (K' : K3) hK' => ?_ | (refine hK' _ _ _ ?_; clear hK' K') | refine draw_auto tok mixed (by kernel_rfl) ?_ | refine bs_t h1 ?_ | refine br_t h1 ?_ | refine bs_bt (Eq.refl true) ?_ | refine bs_bf (Eq.refl false) ?_ | refine br_bt (Eq.refl true) ?_ | refine br_bf (Eq.refl false) ?_ | refine CallK.m ?_ | refine Two.l ?_ | refine And.intro (And.intro rfl rfl) ?_)
    intro ρ; show Value.bool _ = Value.bool _; unfold okK'; rw [decide_eq_false (by omega)]; rfl
  by_cases h2 : N > 8
  · repeat ((conv => whnf); first | (refine And.intro (by first | omega | exact Nat.le_of_ble_eq_true rfl | (dsimp only [inK]; omega) | (simp only [mulS_eq]; omega) | (simp only [mulS_eq, setL_length]; omega) | (simp only [setL_length]; omega) | (simp only [setL_length, List.length_map]; omega) | (exact ⟨by omega, by omega, by first | exact Nat.le_of_ble_eq_true rfl | (dsimp only; omega) | (simp only [setL_length]; omega) | (simp only [setL_length, List.length_map]; omega)⟩) | (exact ⟨by omega, by first | rfl | omega, by omega, Nat.le_of_ble_eq_true rfl, Nat.le_of_ble_eq_true rfl⟩) | (exact ⟨rfl, rfl, rfl, Nat.le_of_ble_eq_true rfl, by first | rfl | omega | exact Nat.le_of_ble_eq_true rfl | (dsimp only; omega) | (simp; done) | (simp; omega), by first | rfl | omega | exact Nat.le_of_ble_eq_true rfl | (dsimp only; omega) | (simp; done) | (simp; omega), by omega, Nat.le_of_ble_eq_true rfl⟩) | exact Eq.refl true) ?_) | refine Exists.intro _ (And.intro rfl ?_) | refine And.intro (And.intro rfl (chk_rowI _ _ _ _)) ?_ | refine br_t (by omega) ?_ | refine br_f (by omega) ?_ | refine bs_t (by omega) ?_ | refine bs_f (by omega) ?_ | refine fun (K' : K3) hK' => ?_ | (refine hK' _ _ _ ?_; clear hK' K') | refine draw_auto tok mixed (by kernel_rfl) ?_ | refine bs_f h1 ?_ | refine br_f h1 ?_ | refine bs_t h2 ?_ | refine br_t h2 ?_ | refine bs_bt (Eq.refl true) ?_ | refine bs_bf (Eq.refl false) ?_ | refine br_bt (Eq.refl true) ?_ | refine br_bf (Eq.refl false) ?_ | refine CallK.m ?_ | refine Two.l ?_ | refine And.intro (And.intro rfl rfl) ?_)
    intro ρ; show Value.bool _ = Value.bool _; unfold okK'; rw [decide_eq_false (by omega)]; rfl
  by_cases h3 : (ps.length : Int) > 28
  · repeat ((conv => whnf); first | (refine And.intro (by first | omega | exact Nat.le_of_ble_eq_true rfl | (dsimp only [inK]; omega) | (simp only [mulS_eq]; omega) | (simp only [mulS_eq, setL_length]; omega) | (simp only [setL_length]; omega) | (simp only [setL_length, List.length_map]; omega) | (exact ⟨by omega, by omega, by first | exact Nat.le_of_ble_eq_true rfl | (dsimp only; omega) | (simp only [setL_length]; omega) | (simp only [setL_length, List.length_map]; omega)⟩) | (exact ⟨by omega, by first | rfl | omega, by omega, Nat.le_of_ble_eq_true rfl, Nat.le_of_ble_eq_true rfl⟩) | (exact ⟨rfl, rfl, rfl, Nat.le_of_ble_eq_true rfl, by first | rfl | omega | exact Nat.le_of_ble_eq_true rfl | (dsimp only; omega) | (simp; done) | (simp; omega), by first | rfl | omega | exact Nat.le_of_ble_eq_true rfl | (dsimp only; omega) | (simp; done) | (simp; omega), by omega, Nat.le_of_ble_eq_true rfl⟩) | exact Eq.refl true) ?_) | refine Exists.intro _ (And.intro rfl ?_) | refine And.intro (And.intro rfl (chk_rowI _ _ _ _)) ?_ | refine br_t (by omega) ?_ | refine br_f (by omega) ?_ | refine bs_t (by omega) ?_ | refine bs_f (by omega) ?_ | refine fun (K' : K3) hK' => ?_ | (refine hK' _ _ _ ?_; clear hK' K') | refine draw_auto tok mixed (by kernel_rfl) ?_ | refine bs_f h1 ?_ | refine br_f h1 ?_ | refine bs_f h2 ?_ | refine br_f h2 ?_ | refine bs_t h3 ?_ | refine br_t h3 ?_ | refine bs_bt (Eq.refl true) ?_ | refine bs_bf (Eq.refl false) ?_ | refine br_bt (Eq.refl true) ?_ | refine br_bf (Eq.refl false) ?_ | refine CallK.m ?_ | refine Two.l ?_ | refine And.intro (And.intro rfl rfl) ?_)
    intro ρ; show Value.bool _ = Value.bool _
    cases h : okK' N ps with
    | false => rfl
    | true => have := hlen h; omega
  repeat ((conv => whnf); first | (refine And.intro (by first | omega | exact Nat.le_of_ble_eq_true rfl | (dsimp only [inK]; omega) | (simp only [mulS_eq]; omega) | (simp only [mulS_eq, setL_length]; omega) | (simp only [setL_length]; omega) | (simp only [setL_length, List.length_map]; omega) | (exact ⟨by omega, by omega, by first | exact Nat.le_of_ble_eq_true rfl | (dsimp only; omega) | (simp only [setL_length]; omega) | (simp only [setL_length, List.length_map]; omega)⟩) | (exact ⟨by omega, by first | rfl | omega, by omega, Nat.le_of_ble_eq_true rfl, Nat.le_of_ble_eq_true rfl⟩) | (exact ⟨rfl, rfl, rfl, Nat.le_of_ble_eq_true rfl, by first | rfl | omega | exact Nat.le_of_ble_eq_true rfl | (dsimp only; omega) | (simp; done) | (simp; omega), by first | rfl | omega | exact Nat.le_of_ble_eq_true rfl | (dsimp only; omega) | (simp; done) | (simp; omega), by omega, Nat.le_of_ble_eq_true rfl⟩) | exact Eq.refl true) ?_) | refine Exists.intro _ (And.intro rfl ?_) | refine And.intro (And.intro rfl (chk_rowI _ _ _ _)) ?_ | refine br_t (by omega) ?_ | refine br_f (by omega) ?_ | refine bs_t (by omega) ?_ | refine bs_f (by omega) ?_ | refine fun (K' : K3) hK' => ?_ | (refine hK' _ _ _ ?_; clear hK' K') | refine draw_auto tok mixed (by kernel_rfl) ?_ | refine bs_f h1 ?_ | refine br_f h1 ?_ | refine bs_f h2 ?_ | refine br_f h2 ?_ | refine bs_f h3 ?_ | refine br_f h3 ?_ | refine bs_bt (Eq.refl true) ?_ | refine bs_bf (Eq.refl false) ?_ | refine br_bt (Eq.refl true) ?_ | refine br_bf (Eq.refl false) ?_ | refine CallK.m ?_ | refine Two.l ?_ | refine And.intro (And.intro rfl rfl) ?_)
  refine Tri.loop (γ := Nat) (fun k => k ≤ ps.length ∧ okPk N ps k = true) (fun k => [(1, V.c (.ptr 1 0)), (2, V.c .ff), (22, V.c (.sl 0 ps.length)), (23, V.i ps.length), (24, V.i (k : Nat))])
    (fun k => [⟨1, .own 24, [C.i N, .sl 0 ps.length]⟩, ⟨0, .ro 2, cellC ps⟩]) 2 (fun k => ps.length - k) 0 (R0 := []) ?_ ?_ ?_
  · exact ⟨by omega, rfl⟩
  · skip
    refine ⟨?_, ?_, rfl, rfl, by first | exact Nat.le_of_ble_eq_true rfl | exact Nat.le_refl _ | omega⟩
    · repeat (first | exact trivial | (refine And.intro (covS_syn (by rfl) rfl (by first | exact trivial | exact Nat.le_of_ble_eq_true rfl | exact hy | (first | ((show ∀ p ∈ (_ : List (Nat × Nat)), p.1 < _); decide) | exact (fun p hp => nomatch hp)) | (show (_ : Nat) < _; omega))) ?_) | refine And.intro (covS_bool rfl rfl (by rfl)) ?_)
    · repeat (first | exact trivial | (refine And.intro (covE_id (Nat.le_of_ble_eq_true rfl) (by first | exact wf_ints _ _ | exact wf_bools _ _ | first | exact wf_us _ _ | exact wf_cells _ _ | (simp [C.wf]; done) | simp [C.wf]) rfl (by rfl)) ?_))
  · rintro k ⟨hk, hok⟩
    refine vc_ok tok ?_
    by_cases hlt : k < ps.length
    · have hbad : badP N ps k = (decide ((ps.getD k cz).1 < 0) || (decide ((ps.getD k cz).1 ≥ (ps.getD k cz).2) || (decide ((ps.getD k cz).2 ≥ N) || seenP ps k (ps.getD k cz)))) := rfl
      have hld := cellT (l := ps) (k := k) rfl hlt
      change takeC (cellC ps) (mulS ((k : Nat) : Int).toNat 2) 2 = some [C.i (ps.getD k cz).1, C.i (ps.getD k cz).2] at hld
      have fails : badP N ps k = true → okK' N ps = false := fun h => by
        unfold okK'; rw [okPk_false hlt h]; simp
      obtain ⟨p, hp⟩ : ∃ p, p = ps.getD k cz := ⟨_, rfl⟩
      rw [← hp] at hbad hld
      by_cases h4 : p.1 < 0
      · repeat ((conv => whnf); first | (refine And.intro (by first | omega | exact Nat.le_of_ble_eq_true rfl | (dsimp only [inK]; omega) | (simp only [mulS_eq]; omega) | (simp only [mulS_eq, setL_length]; omega) | (simp only [setL_length]; omega) | (simp only [setL_length, List.length_map]; omega) | (exact ⟨by omega, by omega, by first | exact Nat.le_of_ble_eq_true rfl | (dsimp only; omega) | (simp only [setL_length]; omega) | (simp only [setL_length, List.length_map]; omega)⟩) | (exact ⟨by omega, by first | rfl | omega, by omega, Nat.le_of_ble_eq_true rfl, Nat.le_of_ble_eq_true rfl⟩) | (exact ⟨rfl, rfl, rfl, Nat.le_of_ble_eq_true rfl, by first | rfl | omega | exact Nat.le_of_ble_eq_true rfl | (dsimp only; omega) | (simp; done) | (simp; omega), by first | rfl | omega | exact Nat.le_of_ble_eq_true rfl | (dsimp only; omega) | (simp; done) | (simp; omega), by omega, Nat.le_of_ble_eq_true rfl⟩) | exact Eq.refl true) ?_) | with_reducible refine ld (hld) ?_ | refine Exists.intro _ (And.intro rfl ?_) | refine And.intro (And.intro rfl (chk_rowI _ _ _ _)) ?_ | refine br_t (by omega) ?_ | refine br_f (by omega) ?_ | refine bs_t (by omega) ?_ | refine bs_f (by omega) ?_ | refine fun (K' : K3) hK' => ?_ | (refine hK' _ _ _ ?_; clear hK' K') | refine draw_auto tok mixed (by kernel_rfl) ?_ | refine bs_t h4 ?_ | refine br_t h4 ?_ | refine bs_bt (Eq.refl true) ?_ | refine bs_bf (Eq.refl false) ?_ | refine br_bt (Eq.refl true) ?_ | refine br_bf (Eq.refl false) ?_ | refine CallK.m ?_ | refine Two.l ?_ | refine And.intro (And.intro rfl rfl) ?_)
        intro ρ; rw [fails (by rw [hbad]; simp [h4])]; rfl
      by_cases h5 : p.1 ≥ p.2
      · repeat ((conv => whnf); first | (refine And.intro (by first | omega | exact Nat.le_of_ble_eq_true rfl | (dsimp only [inK]; omega) | (simp only [mulS_eq]; omega) | (simp only [mulS_eq, setL_length]; omega) | (simp only [setL_length]; omega) | (simp only [setL_length, List.length_map]; omega) | (exact ⟨by omega, by omega, by first | exact Nat.le_of_ble_eq_true rfl | (dsimp only; omega) | (simp only [setL_length]; omega) | (simp only [setL_length, List.length_map]; omega)⟩) | (exact ⟨by omega, by first | rfl | omega, by omega, Nat.le_of_ble_eq_true rfl, Nat.le_of_ble_eq_true rfl⟩) | (exact ⟨rfl, rfl, rfl, Nat.le_of_ble_eq_true rfl, by first | rfl | omega | exact Nat.le_of_ble_eq_true rfl | (dsimp only; omega) | (simp; done) | (simp; omega), by first | rfl | omega | exact Nat.le_of_ble_eq_true rfl | (dsimp only; omega) | (simp; done) | (simp; omega), by omega, Nat.le_of_ble_eq_true rfl⟩) | exact Eq.refl true) ?_) | with_reducible refine ld (hld) ?_ | refine Exists.intro _ (And.intro rfl ?_) | refine And.intro (And.intro rfl (chk_rowI _ _ _ _)) ?_ | refine br_t (by omega) ?_ | refine br_f (by omega) ?_ | refine bs_t (by omega) ?_ | refine bs_f (by omega) ?_ | refine fun (K' : K3) hK' => ?_ | (refine hK' _ _ _ ?_; clear hK' K') | refine draw_auto tok mixed (by kernel_rfl) ?_ | refine bs_f h4 ?_ | refine br_f h4 ?_ | refine bs_t h5 ?_ | refine br_t h5 ?_ | refine bs_bt (Eq.refl true) ?_ | refine bs_bf (Eq.refl false) ?_ | refine br_bt (Eq.refl true) ?_ | refine br_bf (Eq.refl false) ?_ | refine CallK.m ?_ | refine Two.l ?_ | refine And.intro (And.intro rfl rfl) ?_)
        intro ρ; rw [fails (by rw [hbad]; simp [h5])]; rfl
      by_cases h6 : p.2 ≥ N
      · repeat ((conv => whnf); first | (refine And.intro (by first | omega | exact Nat.le_of_ble_eq_true rfl | (dsimp only [inK]; omega) | (simp only [mulS_eq]; omega) | (simp only [mulS_eq, setL_length]; omega) | (simp only [setL_length]; omega) | (simp only [setL_length, List.length_map]; omega) | (exact ⟨by omega, by omega, by first | exact Nat.le_of_ble_eq_true rfl | (dsimp only; omega) | (simp only [setL_length]; omega) | (simp only [setL_length, List.length_map]; omega)⟩) | (exact ⟨by omega, by first | rfl | omega, by omega, Nat.le_of_ble_eq_true rfl, Nat.le_of_ble_eq_true rfl⟩) | (exact ⟨rfl, rfl, rfl, Nat.le_of_ble_eq_true rfl, by first | rfl | omega | exact Nat.le_of_ble_eq_true rfl | (dsimp only; omega) | (simp; done) | (simp; omega), by first | rfl | omega | exact Nat.le_of_ble_eq_true rfl | (dsimp only; omega) | (simp; done) | (simp; omega), by omega, Nat.le_of_ble_eq_true rfl⟩) | exact Eq.refl true) ?_) | with_reducible refine ld (hld) ?_ | refine Exists.intro _ (And.intro rfl ?_) | refine And.intro (And.intro rfl (chk_rowI _ _ _ _)) ?_ | refine br_t (by omega) ?_ | refine br_f (by omega) ?_ | refine bs_t (by omega) ?_ | refine bs_f (by omega) ?_ | refine fun (K' : K3) hK' => ?_ | (refine hK' _ _ _ ?_; clear hK' K') | refine draw_auto tok mixed (by kernel_rfl) ?_ | refine bs_f h4 ?_ | refine br_f h4 ?_ | refine bs_f h5 ?_ | refine br_f h5 ?_ | refine bs_t h6 ?_ | refine br_t h6 ?_ | refine bs_bt (Eq.refl true) ?_ | refine bs_bf (Eq.refl false) ?_ | refine br_bt (Eq.refl true) ?_ | refine br_bf (Eq.refl false) ?_ | refine CallK.m ?_ | refine Two.l ?_ | refine And.intro (And.intro rfl rfl) ?_)
        intro ρ; rw [fails (by rw [hbad]; simp [h6])]; rfl
      repeat ((conv => whnf); first | (refine And.intro (by first | omega | exact Nat.le_of_ble_eq_true rfl | (dsimp only [inK]; omega) | (simp only [mulS_eq]; omega) | (simp only [mulS_eq, setL_length]; omega) | (simp only [setL_length]; omega) | (simp only [setL_length, List.length_map]; omega) | (exact ⟨by omega, by omega, by first | exact Nat.le_of_ble_eq_true rfl | (dsimp only; omega) | (simp only [setL_length]; omega) | (simp only [setL_length, List.length_map]; omega)⟩) | (exact ⟨by omega, by first | rfl | omega, by omega, Nat.le_of_ble_eq_true rfl, Nat.le_of_ble_eq_true rfl⟩) | (exact ⟨rfl, rfl, rfl, Nat.le_of_ble_eq_true rfl, by first | rfl | omega | exact Nat.le_of_ble_eq_true rfl | (dsimp only; omega) | (simp; done) | (simp; omega), by first | rfl | omega | exact Nat.le_of_ble_eq_true rfl | (dsimp only; omega) | (simp; done) | (simp; omega), by omega, Nat.le_of_ble_eq_true rfl⟩) | exact Eq.refl true) ?_) | with_reducible refine ld (hld) ?_ | refine Exists.intro _ (And.intro rfl ?_) | refine And.intro (And.intro rfl (chk_rowI _ _ _ _)) ?_ | refine br_t (by omega) ?_ | refine br_f (by omega) ?_ | refine bs_t (by omega) ?_ | refine bs_f (by omega) ?_ | refine fun (K' : K3) hK' => ?_ | (refine hK' _ _ _ ?_; clear hK' K') | refine draw_auto tok mixed (by kernel_rfl) ?_ | refine bs_f h4 ?_ | refine br_f h4 ?_ | refine bs_f h5 ?_ | refine br_f h5 ?_ | refine bs_f h6 ?_ | refine br_f h6 ?_ | refine bs_bt (Eq.refl true) ?_ | refine bs_bf (Eq.refl false) ?_ | refine br_bt (Eq.refl true) ?_ | refine br_bf (Eq.refl false) ?_ | refine CallK.m ?_ | refine Two.l ?_ | refine And.intro (And.intro rfl rfl) ?_)
      refine Tri.loop (γ := Nat) (fun j => j ≤ k ∧ ∀ i, i < j → ps.getD i cz ≠ p) (fun j => [(1, V.c (.ptr 1 0)), (2, V.c .ff), (3, V.i (k : Nat)), (4, V.c (.ptr 2 0)), (22, V.c (.sl 0 ps.length)), (23, V.i ps.length), (24, V.i (k : Nat)), (49, V.c (.sl 0 k)), (50, V.i (k : Nat)), (51, V.i (j : Nat))])
        (fun j => [⟨2, .own 59, [C.i p.1, C.i p.2]⟩, ⟨1, .own 24, [C.i N, .sl 0 ps.length]⟩, ⟨0, .ro 2, cellC ps⟩]) 3 (fun j => k - j) 0 (R0 := []) ?_ ?_ ?_
      · exact ⟨by omega, by omega⟩
      · skip
        refine ⟨?_, ?_, rfl, rfl, by first | exact Nat.le_of_ble_eq_true rfl | exact Nat.le_refl _ | omega⟩
        · repeat (first | exact trivial | (refine And.intro (covS_syn (by rfl) rfl (by first | exact trivial | exact Nat.le_of_ble_eq_true rfl | exact hy | (first | ((show ∀ p ∈ (_ : List (Nat × Nat)), p.1 < _); decide) | exact (fun p hp => nomatch hp)) | (show (_ : Nat) < _; omega))) ?_) | refine And.intro (covS_bool rfl rfl (by rfl)) ?_)
        · repeat (first | exact trivial | (refine And.intro (covE_id (Nat.le_of_ble_eq_true rfl) (by first | exact wf_ints _ _ | exact wf_bools _ _ | first | exact wf_us _ _ | exact wf_cells _ _ | (simp [C.wf]; done) | simp [C.wf]) rfl (by rfl)) ?_))
      · rintro j ⟨hj, hne⟩
        refine vc_ok tok ?_
        by_cases hjk : j < k
        · have hlj := cellT (l := ps) (k := j) rfl (by omega)
          change takeC (cellC ps) (mulS ((j : Nat) : Int).toNat 2) 2 = some [C.i (ps.getD j cz).1, C.i (ps.getD j cz).2] at hlj
          cases he : (decide (p.1 = (ps.getD j cz).1) && (decide (p.2 = (ps.getD j cz).2) && true)) with
          | true =>
            repeat ((conv => whnf); first | (refine And.intro (by first | omega | exact Nat.le_of_ble_eq_true rfl | (dsimp only [inK]; omega) | (simp only [mulS_eq]; omega) | (simp only [mulS_eq, setL_length]; omega) | (simp only [setL_length]; omega) | (simp only [setL_length, List.length_map]; omega) | (exact ⟨by omega, by omega, by first | exact Nat.le_of_ble_eq_true rfl | (dsimp only; omega) | (simp only [setL_length]; omega) | (simp only [setL_length, List.length_map]; omega)⟩) | (exact ⟨by omega, by first | rfl | omega, by omega, Nat.le_of_ble_eq_true rfl, Nat.le_of_ble_eq_true rfl⟩) | (exact ⟨rfl, rfl, rfl, Nat.le_of_ble_eq_true rfl, by first | rfl | omega | exact Nat.le_of_ble_eq_true rfl | (dsimp only; omega) | (simp; done) | (simp; omega), by first | rfl | omega | exact Nat.le_of_ble_eq_true rfl | (dsimp only; omega) | (simp; done) | (simp; omega), by omega, Nat.le_of_ble_eq_true rfl⟩) | exact Eq.refl true) ?_) | with_reducible refine ld (hlj) ?_ | refine Exists.intro _ (And.intro rfl ?_) | refine And.intro (And.intro rfl (chk_rowI _ _ _ _)) ?_ | refine br_t (by omega) ?_ | refine br_f (by omega) ?_ | refine bs_t (by omega) ?_ | refine bs_f (by omega) ?_ | refine fun (K' : K3) hK' => ?_ | (refine hK' _ _ _ ?_; clear hK' K') | refine draw_auto tok mixed (by kernel_rfl) ?_ | refine br_bt he ?_ | refine bs_bt (Eq.refl true) ?_ | refine bs_bf (Eq.refl false) ?_ | refine br_bt (Eq.refl true) ?_ | refine br_bf (Eq.refl false) ?_ | refine CallK.m ?_ | refine Two.l ?_ | refine And.intro (And.intro rfl rfl) ?_)
            intro ρ; rw [fails]; rfl
            rw [hbad]
            have : seenP ps k p = true := by
              unfold seenP
              rw [List.any_eq_true]
              refine ⟨ps.getD j cz, ?_, ?_⟩
              · rw [List.mem_take_iff_getElem]; exact ⟨j, by omega, by simp [List.getD_eq_getElem?_getD, show j < ps.length by omega]⟩
              · simp at he; simp; exact Prod.ext he.1.symm he.2.symm
            rw [this]; simp
          | false =>
            repeat ((conv => whnf); first | (refine And.intro (by first | omega | exact Nat.le_of_ble_eq_true rfl | (dsimp only [inK]; omega) | (simp only [mulS_eq]; omega) | (simp only [mulS_eq, setL_length]; omega) | (simp only [setL_length]; omega) | (simp only [setL_length, List.length_map]; omega) | (exact ⟨by omega, by omega, by first | exact Nat.le_of_ble_eq_true rfl | (dsimp only; omega) | (simp only [setL_length]; omega) | (simp only [setL_length, List.length_map]; omega)⟩) | (exact ⟨by omega, by first | rfl | omega, by omega, Nat.le_of_ble_eq_true rfl, Nat.le_of_ble_eq_true rfl⟩) | (exact ⟨rfl, rfl, rfl, Nat.le_of_ble_eq_true rfl, by first | rfl | omega | exact Nat.le_of_ble_eq_true rfl | (dsimp only; omega) | (simp; done) | (simp; omega), by first | rfl | omega | exact Nat.le_of_ble_eq_true rfl | (dsimp only; omega) | (simp; done) | (simp; omega), by omega, Nat.le_of_ble_eq_true rfl⟩) | exact Eq.refl true) ?_) | with_reducible refine ld (hlj) ?_ | refine Exists.intro _ (And.intro rfl ?_) | refine And.intro (And.intro rfl (chk_rowI _ _ _ _)) ?_ | refine br_t (by omega) ?_ | refine br_f (by omega) ?_ | refine bs_t (by omega) ?_ | refine bs_f (by omega) ?_ | refine fun (K' : K3) hK' => ?_ | (refine hK' _ _ _ ?_; clear hK' K') | refine draw_auto tok mixed (by kernel_rfl) ?_ | refine br_bf he ?_ | refine bs_bt (Eq.refl true) ?_ | refine bs_bf (Eq.refl false) ?_ | refine br_bt (Eq.refl true) ?_ | refine br_bf (Eq.refl false) ?_ | refine CallK.m ?_ | refine Two.l ?_ | refine And.intro (And.intro rfl rfl) ?_)
            refine ⟨j + 1, [], ⟨by omega, fun i hi => ?_⟩, by omega, ?_⟩
            · by_cases h : i = j
              · rw [h]; intro hh; rw [hh] at he; simp at he
              · exact hne i (by omega)
            refine ⟨?_, ?_, rfl, rfl, by first | exact Nat.le_of_ble_eq_true rfl | exact Nat.le_refl _ | omega⟩
            · repeat (first | exact trivial | (refine And.intro (covS_syn (by first | rfl | (refine congrArg some (congrArg V.i ?_); omega)) rfl (by first | exact trivial | exact Nat.le_of_ble_eq_true rfl | exact hy | (first | ((show ∀ p ∈ (_ : List (Nat × Nat)), p.1 < _); decide) | exact (fun p hp => nomatch hp)) | (show (_ : Nat) < _; omega))) ?_) | refine And.intro (covS_bool rfl rfl (by rfl)) ?_)
            · repeat (first | exact trivial | (refine And.intro (covE_id (Nat.le_of_ble_eq_true rfl) (by first | exact wf_ints _ _ | exact wf_bools _ _ | first | exact wf_us _ _ | exact wf_cells _ _ | (simp [C.wf]; done) | simp [C.wf]) rfl (by rfl)) ?_))
        · obtain rfl : j = k := by omega
          have hsn : seenP ps j p = false := by
            unfold seenP
            rw [List.any_eq_false]
            intro q hq
            rw [List.mem_take_iff_getElem] at hq
            obtain ⟨i, hi, rfl⟩ := hq
            have := hne i (by omega)
            simpa [List.getD_eq_getElem?_getD, show i < ps.length by omega] using this
          repeat ((conv => whnf); first | (refine And.intro (by first | omega | exact Nat.le_of_ble_eq_true rfl | (dsimp only [inK]; omega) | (simp only [mulS_eq]; omega) | (simp only [mulS_eq, setL_length]; omega) | (simp only [setL_length]; omega) | (simp only [setL_length, List.length_map]; omega) | (exact ⟨by omega, by omega, by first | exact Nat.le_of_ble_eq_true rfl | (dsimp only; omega) | (simp only [setL_length]; omega) | (simp only [setL_length, List.length_map]; omega)⟩) | (exact ⟨by omega, by first | rfl | omega, by omega, Nat.le_of_ble_eq_true rfl, Nat.le_of_ble_eq_true rfl⟩) | (exact ⟨rfl, rfl, rfl, Nat.le_of_ble_eq_true rfl, by first | rfl | omega | exact Nat.le_of_ble_eq_true rfl | (dsimp only; omega) | (simp; done) | (simp; omega), by first | rfl | omega | exact Nat.le_of_ble_eq_true rfl | (dsimp only; omega) | (simp; done) | (simp; omega), by omega, Nat.le_of_ble_eq_true rfl⟩) | exact Eq.refl true) ?_) | refine Exists.intro _ (And.intro rfl ?_) | refine And.intro (And.intro rfl (chk_rowI _ _ _ _)) ?_ | refine br_t (by omega) ?_ | refine br_f (by omega) ?_ | refine bs_t (by omega) ?_ | refine bs_f (by omega) ?_ | refine fun (K' : K3) hK' => ?_ | (refine hK' _ _ _ ?_; clear hK' K') | refine draw_auto tok mixed (by kernel_rfl) ?_ | refine bs_bt (Eq.refl true) ?_ | refine bs_bf (Eq.refl false) ?_ | refine br_bt (Eq.refl true) ?_ | refine br_bf (Eq.refl false) ?_ | refine CallK.m ?_ | refine Two.l ?_ | refine And.intro (And.intro rfl rfl) ?_)
          refine ⟨j + 1, [], ⟨by omega, by rw [okPk_succ, hok, hbad, dd_f h4, dd_f h5, dd_f h6, hsn]; rfl⟩, by omega, ?_⟩
          refine ⟨?_, ?_, rfl, rfl, by first | exact Nat.le_of_ble_eq_true rfl | exact Nat.le_refl _ | omega⟩
          · repeat (first | exact trivial | (refine And.intro (covS_syn (by first | rfl | (refine congrArg some (congrArg V.i ?_); omega)) rfl (by first | exact trivial | exact Nat.le_of_ble_eq_true rfl | exact hy | (first | ((show ∀ p ∈ (_ : List (Nat × Nat)), p.1 < _); decide) | exact (fun p hp => nomatch hp)) | (show (_ : Nat) < _; omega))) ?_) | refine And.intro (covS_bool rfl rfl (by rfl)) ?_)
          · repeat (first | exact trivial | (refine And.intro (covE_id (Nat.le_of_ble_eq_true rfl) (by first | exact wf_ints _ _ | exact wf_bools _ _ | first | exact wf_us _ _ | exact wf_cells _ _ | (simp [C.wf]; done) | simp [C.wf]) rfl (by rfl)) ?_))
    · have hkl : k = ps.length := by omega
      subst hkl
      repeat ((conv => whnf); first | (refine And.intro (by first | omega | exact Nat.le_of_ble_eq_true rfl | (dsimp only [inK]; omega) | (simp only [mulS_eq]; omega) | (simp only [mulS_eq, setL_length]; omega) | (simp only [setL_length]; omega) | (simp only [setL_length, List.length_map]; omega) | (exact ⟨by omega, by omega, by first | exact Nat.le_of_ble_eq_true rfl | (dsimp only; omega) | (simp only [setL_length]; omega) | (simp only [setL_length, List.length_map]; omega)⟩) | (exact ⟨by omega, by first | rfl | omega, by omega, Nat.le_of_ble_eq_true rfl, Nat.le_of_ble_eq_true rfl⟩) | (exact ⟨rfl, rfl, rfl, Nat.le_of_ble_eq_true rfl, by first | rfl | omega | exact Nat.le_of_ble_eq_true rfl | (dsimp only; omega) | (simp; done) | (simp; omega), by first | rfl | omega | exact Nat.le_of_ble_eq_true rfl | (dsimp only; omega) | (simp; done) | (simp; omega), by omega, Nat.le_of_ble_eq_true rfl⟩) | exact Eq.refl true) ?_) | refine Exists.intro _ (And.intro rfl ?_) | refine And.intro (And.intro rfl (chk_rowI _ _ _ _)) ?_ | refine br_t (by omega) ?_ | refine br_f (by omega) ?_ | refine bs_t (by omega) ?_ | refine bs_f (by omega) ?_ | refine fun (K' : K3) hK' => ?_ | (refine hK' _ _ _ ?_; clear hK' K') | refine draw_auto tok mixed (by kernel_rfl) ?_ | refine bs_bt (Eq.refl true) ?_ | refine bs_bf (Eq.refl false) ?_ | refine br_bt (Eq.refl true) ?_ | refine br_bf (Eq.refl false) ?_ | refine CallK.m ?_ | refine Two.l ?_ | refine And.intro (And.intro rfl rfl) ?_)
      intro ρ; show Value.bool _ = Value.bool _; unfold okK'; rw [hok, decide_eq_true (by omega)]; rfl
end Go.Proofs.YtijnimgmpocmaaaDoor

/- Waste: the document's clash, At, SameInts. -/
namespace Go.Proofs.YtijnimgmpocmaaaDoor
open Go.RowKit
set_option linter.unusedVariables false
set_option linter.unusedSimpArgs false
def clashI (ps : List Cell) (a b : Int) : Bool := ps.any fun p => decide (p.1 = (if b < a then b else a)) && (decide (p.2 = (if b > a then b else a)) && true)
end Go.Proofs.YtijnimgmpocmaaaDoor

/- Waste: IndexFunc, whatever is asked. -/
namespace Go.Proofs.YtijnimgmpocmaaaDoor
open Go.RowKit
set_option linter.unusedVariables false
set_option linter.unusedSimpArgs false
theorem find_num {l : List Int} {p : Int → Bool} {k : Nat} (hlt : k < l.length) (hbad : p (l.getD k 0) = true) (hb : ∀ i, i < k → p (l.getD i 0) = false) : l.findIdx? p = some k := by
  rw [List.findIdx?_eq_some_iff_getElem]
  refine ⟨hlt, by simpa [List.getD_eq_getElem?_getD, hlt] using hbad, fun i hi => ?_⟩
  have := hb i hi
  simpa [List.getD_eq_getElem?_getD, show i < l.length by omega] using this
theorem find_not {l : List Int} {p : Int → Bool} (hb : ∀ i, i < l.length → p (l.getD i 0) = false) : l.findIdx? p = none := by
  rw [List.findIdx?_eq_none_iff]
  intro x hx
  obtain ⟨i, hi, rfl⟩ := List.mem_iff_getElem.1 hx
  have := hb i (by omega)
  simpa [List.getD_eq_getElem?_getD, hi] using this
def idxV (l : List Int) (p : Int → Bool) : Int := match l.findIdx? p with | some k => (k : Int) | none => -1
theorem index_any {f : FuncId} {caps : List (Nat × Nat)} {Lc : List E} {na : Nat} {p : Int → Bool} {l : List Int} (hl : l.length ≤ 300) (hcb : callB Tryd.prog f = true)
    (hsp : ∀ i, i < l.length → Spec Tryd.prog f ([V.i (l.getD i 0)] ++ caps.map ptrV) Lc na (Is (V.c (.bool (p (l.getD i 0)))))) (hcaps : ∀ q ∈ caps, q.1 < na) (h0 : 0 < na)
    (hw : ∀ e ∈ Lc, e.lab < na ∧ ∀ c ∈ e.cs, c.wf na) (hro : ∀ L, (∀ e ∈ Lc, find L e.lab = some e) → roL [] na L Lc) (hin : injB [] (⟨0, .ro 0, l.map C.i⟩ :: Lc) = true) :
    Spec Tryd.prog 96 [V.c (.sl 0 l.length), V.c (.fn f caps)] (⟨0, .ro 0, l.map C.i⟩ :: Lc) na (Is (V.i (idxV l p))) := by
  have hlm : (l.map C.i).length = l.length := by simp
  have hwL : ∀ e ∈ ((⟨0, .ro 0, l.map C.i⟩ : E) :: Lc), e.lab < na ∧ ∀ c ∈ e.cs, c.wf na := fun e he => by
    rcases List.mem_cons.1 he with rfl | he
    · exact ⟨h0, wf_ints _ _⟩
    · exact hw e he
  have hro' : roL [] na (⟨0, .ro 0, l.map C.i⟩ :: Lc) Lc := hro _ fun e he => find_self hin e (by simp [he])
  have hin' : injB [] Lc = true := by simp only [injB, Bool.and_eq_true] at hin; exact hin.2
  have hfn : (V.c (.fn f caps)).wf na := hcaps
  have hvw : ∀ i, ∀ v ∈ ([V.i (l.getD i 0)] ++ caps.map ptrV), v.wf na := fun i v hv => by
    rcases List.mem_append.1 hv with hv | hv
    · rw [List.mem_singleton.1 hv]; trivial
    · obtain ⟨q, hq, rfl⟩ := List.mem_map.1 hv; exact hcaps q hq
  have hren : ∀ i, renVs [] ([V.i (l.getD i 0)] ++ caps.map ptrV) = some ([V.i (l.getD i 0)] ++ caps.map ptrV) := fun i => by
    have : ∀ m : List (Nat × Nat), seqO ((m.map ptrV).map (V.ren [])) = some (m.map ptrV) := by
      intro m
      induction m with
      | nil => rfl
      | cons q r ih => simp only [List.map_cons, V.ren, A.ren, C.ren, renL, ptrV, V.c] at *; simp only [seqO, ih]
    simp only [renVs, List.singleton_append, List.map_cons, V.ren, A.ren, C.ren, V.i, V.c]
    simp only [seqO, this]
  refine Spec.of tok Tryd.func96 rfl rfl rfl fun n0 cx => vc_ok tok ?_
  repeat ((conv => whnf); first | (refine And.intro (by first | omega | exact Nat.le_of_ble_eq_true rfl | (dsimp only [inK]; omega) | (simp only [mulS_eq]; omega) | (simp only [mulS_eq, setL_length]; omega) | (simp only [setL_length]; omega) | (simp only [setL_length, List.length_map]; omega) | (exact ⟨by omega, by omega, by first | exact Nat.le_of_ble_eq_true rfl | (dsimp only; omega) | (simp only [setL_length]; omega) | (simp only [setL_length, List.length_map]; omega)⟩) | (exact ⟨by omega, by first | rfl | omega, by omega, Nat.le_of_ble_eq_true rfl, Nat.le_of_ble_eq_true rfl⟩) | (exact ⟨rfl, rfl, rfl, Nat.le_of_ble_eq_true rfl, by first | rfl | omega | exact Nat.le_of_ble_eq_true rfl | (dsimp only; omega) | (simp; done) | (simp; omega), by first | rfl | omega | exact Nat.le_of_ble_eq_true rfl | (dsimp only; omega) | (simp; done) | (simp; omega), by omega, Nat.le_of_ble_eq_true rfl⟩) | exact Eq.refl true) ?_) | refine Exists.intro _ (And.intro rfl ?_) | refine And.intro (And.intro rfl (chk_rowI _ _ _ _)) ?_ | refine br_t (by omega) ?_ | refine br_f (by omega) ?_ | refine bs_t (by omega) ?_ | refine bs_f (by omega) ?_ | refine fun (K' : K3) hK' => ?_ | (refine hK' _ _ _ ?_; clear hK' K') | refine draw_auto tok mixed (by kernel_rfl) ?_ | refine bs_bt (Eq.refl true) ?_ | refine bs_bf (Eq.refl false) ?_ | refine br_bt (Eq.refl true) ?_ | refine br_bf (Eq.refl false) ?_ | refine CallK.m ?_ | refine Two.l ?_ | refine And.intro (And.intro rfl rfl) ?_)
  refine Tri.loop (γ := Nat) (fun k => k ≤ l.length ∧ ∀ i, i < k → p (l.getD i 0) = false) (fun k => [(0, V.c (.sl 0 l.length)), (1, V.c (.fn f caps)), (7, V.i l.length), (8, V.i (k : Nat))]) (fun k => ⟨0, .ro 0, l.map C.i⟩ :: Lc) na (fun k => l.length - k) 0 (R0 := []) ?_ ?_ ?_
  · exact ⟨by omega, by omega⟩
  · refine ⟨?_, cov_refl hwL hin, hin, rfl, Nat.le_refl _⟩
    repeat (first | exact trivial | refine And.intro (covS_syn (by first | rfl) rfl (by first | exact trivial | exact h0 | exact hcaps)) ?_)
  · rintro k ⟨hk, hb⟩
    refine vc_ok tok ?_
    by_cases hlt : k < l.length
    · cases hbad : p (l.getD k 0) with
      | true =>
        repeat ((conv => whnf); first | (refine And.intro (by first | omega | exact Nat.le_of_ble_eq_true rfl | (dsimp only [inK]; omega) | (simp only [mulS_eq]; omega) | (simp only [mulS_eq, setL_length]; omega) | (simp only [setL_length]; omega) | (simp only [setL_length, List.length_map]; omega) | (exact ⟨by omega, by omega, by first | exact Nat.le_of_ble_eq_true rfl | (dsimp only; omega) | (simp only [setL_length]; omega) | (simp only [setL_length, List.length_map]; omega)⟩) | (exact ⟨by omega, by first | rfl | omega, by omega, Nat.le_of_ble_eq_true rfl, Nat.le_of_ble_eq_true rfl⟩) | (exact ⟨rfl, rfl, rfl, Nat.le_of_ble_eq_true rfl, by first | rfl | omega | exact Nat.le_of_ble_eq_true rfl | (dsimp only; omega) | (simp; done) | (simp; omega), by first | rfl | omega | exact Nat.le_of_ble_eq_true rfl | (dsimp only; omega) | (simp; done) | (simp; omega), by omega, Nat.le_of_ble_eq_true rfl⟩) | exact Eq.refl true) ?_) | with_reducible refine ld (intL hlt) ?_ | refine Exists.intro _ (And.intro rfl ?_) | refine And.intro (And.intro rfl (chk_rowI _ _ _ _)) ?_ | refine br_t (by omega) ?_ | refine br_f (by omega) ?_ | refine bs_t (by omega) ?_ | refine bs_f (by omega) ?_ | refine fun (K' : K3) hK' => ?_ | (refine hK' _ _ _ ?_; clear hK' K') | refine draw_auto tok mixed (by kernel_rfl) ?_ | refine CallK.val (R := []) (hsp k hlt) hcb (hren k) (hvw k) hro' hin' rfl trivial ?_ | refine br_bt hbad ?_ | refine bs_bt (Eq.refl true) ?_ | refine bs_bf (Eq.refl false) ?_ | refine br_bt (Eq.refl true) ?_ | refine br_bf (Eq.refl false) ?_ | refine CallK.m ?_ | refine Two.l ?_ | refine And.intro (And.intro rfl rfl) ?_)
        intro ρ
        rw [idxV, find_num hlt hbad hb]; rfl
      | false =>
        repeat ((conv => whnf); first | (refine And.intro (by first | omega | exact Nat.le_of_ble_eq_true rfl | (dsimp only [inK]; omega) | (simp only [mulS_eq]; omega) | (simp only [mulS_eq, setL_length]; omega) | (simp only [setL_length]; omega) | (simp only [setL_length, List.length_map]; omega) | (exact ⟨by omega, by omega, by first | exact Nat.le_of_ble_eq_true rfl | (dsimp only; omega) | (simp only [setL_length]; omega) | (simp only [setL_length, List.length_map]; omega)⟩) | (exact ⟨by omega, by first | rfl | omega, by omega, Nat.le_of_ble_eq_true rfl, Nat.le_of_ble_eq_true rfl⟩) | (exact ⟨rfl, rfl, rfl, Nat.le_of_ble_eq_true rfl, by first | rfl | omega | exact Nat.le_of_ble_eq_true rfl | (dsimp only; omega) | (simp; done) | (simp; omega), by first | rfl | omega | exact Nat.le_of_ble_eq_true rfl | (dsimp only; omega) | (simp; done) | (simp; omega), by omega, Nat.le_of_ble_eq_true rfl⟩) | exact Eq.refl true) ?_) | with_reducible refine ld (intL hlt) ?_ | refine Exists.intro _ (And.intro rfl ?_) | refine And.intro (And.intro rfl (chk_rowI _ _ _ _)) ?_ | refine br_t (by omega) ?_ | refine br_f (by omega) ?_ | refine bs_t (by omega) ?_ | refine bs_f (by omega) ?_ | refine fun (K' : K3) hK' => ?_ | (refine hK' _ _ _ ?_; clear hK' K') | refine draw_auto tok mixed (by kernel_rfl) ?_ | refine CallK.val (R := []) (hsp k hlt) hcb (hren k) (hvw k) hro' hin' rfl trivial ?_ | refine br_bf hbad ?_ | refine bs_bt (Eq.refl true) ?_ | refine bs_bf (Eq.refl false) ?_ | refine br_bt (Eq.refl true) ?_ | refine br_bf (Eq.refl false) ?_ | refine CallK.m ?_ | refine Two.l ?_ | refine And.intro (And.intro rfl rfl) ?_)
        refine ⟨k + 1, [], ⟨by omega, fun i hi => ?_⟩, by omega, ?_⟩
        · by_cases h : i = k
          · rw [h]; exact hbad
          · exact hb i (by omega)
        refine ⟨?_, cov_refl hwL hin, hin, rfl, Nat.le_refl _⟩
        repeat (first | exact trivial | refine And.intro (covS_syn (by first | rfl | (refine congrArg some (congrArg V.i ?_); omega)) rfl (by first | exact trivial | exact h0 | exact hcaps)) ?_)
    · have hkl : k = l.length := by omega
      repeat ((conv => whnf); first | (refine And.intro (by first | omega | exact Nat.le_of_ble_eq_true rfl | (dsimp only [inK]; omega) | (simp only [mulS_eq]; omega) | (simp only [mulS_eq, setL_length]; omega) | (simp only [setL_length]; omega) | (simp only [setL_length, List.length_map]; omega) | (exact ⟨by omega, by omega, by first | exact Nat.le_of_ble_eq_true rfl | (dsimp only; omega) | (simp only [setL_length]; omega) | (simp only [setL_length, List.length_map]; omega)⟩) | (exact ⟨by omega, by first | rfl | omega, by omega, Nat.le_of_ble_eq_true rfl, Nat.le_of_ble_eq_true rfl⟩) | (exact ⟨rfl, rfl, rfl, Nat.le_of_ble_eq_true rfl, by first | rfl | omega | exact Nat.le_of_ble_eq_true rfl | (dsimp only; omega) | (simp; done) | (simp; omega), by first | rfl | omega | exact Nat.le_of_ble_eq_true rfl | (dsimp only; omega) | (simp; done) | (simp; omega), by omega, Nat.le_of_ble_eq_true rfl⟩) | exact Eq.refl true) ?_) | refine Exists.intro _ (And.intro rfl ?_) | refine And.intro (And.intro rfl (chk_rowI _ _ _ _)) ?_ | refine br_t (by omega) ?_ | refine br_f (by omega) ?_ | refine bs_t (by omega) ?_ | refine bs_f (by omega) ?_ | refine fun (K' : K3) hK' => ?_ | (refine hK' _ _ _ ?_; clear hK' K') | refine draw_auto tok mixed (by kernel_rfl) ?_ | refine bs_bt (Eq.refl true) ?_ | refine bs_bf (Eq.refl false) ?_ | refine br_bt (Eq.refl true) ?_ | refine br_bf (Eq.refl false) ?_ | refine CallK.m ?_ | refine Two.l ?_ | refine And.intro (And.intro rfl rfl) ?_)
      intro ρ
      rw [idxV, find_not (fun i hi => hb i (by omega))]; rfl
theorem any_idx (l : List Int) (p : Int → Bool) : (decide (idxV l p ≥ 0)) = l.any p := by
  unfold idxV
  cases h : l.findIdx? p with
  | none =>
    have : l.any p = false := by simpa [List.any_eq_false] using List.findIdx?_eq_none_iff.1 h
    simp [this]
  | some k =>
    have : l.any p = true := by
      obtain ⟨h1, h2, _⟩ := List.findIdx?_eq_some_iff_getElem.1 h
      exact List.any_eq_true.2 ⟨_, List.getElem_mem h1, h2⟩
    simp [this]
end Go.Proofs.YtijnimgmpocmaaaDoor

/- Waste: IndexFunc and ContainsFunc, whatever is asked; fillings. -/
namespace Go.Proofs.YtijnimgmpocmaaaDoor
open Go.RowKit
set_option linter.unusedVariables false
set_option linter.unusedSimpArgs false
theorem contains_any {f : FuncId} {caps : List (Nat × Nat)} {Lc : List E} {na : Nat} {p : Int → Bool} {l : List Int} (hl : l.length ≤ 300) (hcb : callB Tryd.prog f = true)
    (hsp : ∀ i, i < l.length → Spec Tryd.prog f ([V.i (l.getD i 0)] ++ caps.map ptrV) Lc na (Is (V.c (.bool (p (l.getD i 0)))))) (hcaps : ∀ q ∈ caps, q.1 < na) (h0 : 0 < na)
    (hw : ∀ e ∈ Lc, e.lab < na ∧ ∀ c ∈ e.cs, c.wf na) (hro : ∀ L, (∀ e ∈ Lc, find L e.lab = some e) → roL [] na L Lc) (hin : injB [] (⟨0, .ro 0, l.map C.i⟩ :: Lc) = true) (hro0 : roL [] na (⟨0, .ro 0, l.map C.i⟩ :: Lc) (⟨0, .ro 0, l.map C.i⟩ :: Lc)) :
    Spec Tryd.prog 88 [V.c (.sl 0 l.length), V.c (.fn f caps)] (⟨0, .ro 0, l.map C.i⟩ :: Lc) na (Is (V.c (.bool (l.any p)))) := by
  have hfn : (V.c (.fn f caps)).wf na := hcaps
  refine Spec.of tok Tryd.func88 rfl rfl rfl fun n0 cx => vc_ok tok ?_
  repeat ((conv => whnf); first | (refine And.intro (by first | omega | exact Nat.le_of_ble_eq_true rfl | (dsimp only [inK]; omega) | (simp only [mulS_eq]; omega) | (simp only [mulS_eq, setL_length]; omega) | (simp only [setL_length]; omega) | (simp only [setL_length, List.length_map]; omega) | (exact ⟨by omega, by omega, by first | exact Nat.le_of_ble_eq_true rfl | (dsimp only; omega) | (simp only [setL_length]; omega) | (simp only [setL_length, List.length_map]; omega)⟩) | (exact ⟨by omega, by first | rfl | omega, by omega, Nat.le_of_ble_eq_true rfl, Nat.le_of_ble_eq_true rfl⟩) | (exact ⟨rfl, rfl, rfl, Nat.le_of_ble_eq_true rfl, by first | rfl | omega | exact Nat.le_of_ble_eq_true rfl | (dsimp only; omega) | (simp; done) | (simp; omega), by first | rfl | omega | exact Nat.le_of_ble_eq_true rfl | (dsimp only; omega) | (simp; done) | (simp; omega), by omega, Nat.le_of_ble_eq_true rfl⟩) | exact Eq.refl true) ?_) | refine Exists.intro _ (And.intro rfl ?_) | refine And.intro (And.intro rfl (chk_rowI _ _ _ _)) ?_ | refine br_t (by omega) ?_ | refine br_f (by omega) ?_ | refine bs_t (by omega) ?_ | refine bs_f (by omega) ?_ | refine fun (K' : K3) hK' => ?_ | (refine hK' _ _ _ ?_; clear hK' K') | refine draw_auto tok mixed (by kernel_rfl) ?_ | (refine CallK.val (R := []) (index_any hl hcb hsp hcaps h0 hw hro hin) (by kernel_rfl) rfl (fun v hv => by simp only [List.mem_cons, List.not_mem_nil, or_false] at hv; rcases hv with rfl | rfl; exact h0; exact hcaps) hro0 hin rfl trivial ?_) | refine bs_bt (Eq.refl true) ?_ | refine bs_bf (Eq.refl false) ?_ | refine br_bt (Eq.refl true) ?_ | refine br_bf (Eq.refl false) ?_ | refine CallK.m ?_ | refine Two.l ?_ | refine And.intro (And.intro rfl rfl) ?_)
  intro ρ
  show Value.bool _ = Value.bool _
  rw [← any_idx]
def fillBad (x : Int) : Bool := !decide (0 ≤ x ∧ x ≤ 1000)
theorem fbad_spec (x : Int) : Spec Tryd.prog 89 [V.i x] [] 1 (Is (V.c (.bool (fillBad x)))) := by
  refine Spec.of tok Tryd.func89 rfl rfl rfl fun n0 cx => vc_ok tok ?_
  by_cases h1 : 0 ≤ x ∧ x ≤ 1000
  · repeat ((conv => whnf); first | (refine And.intro (by first | omega | exact Nat.le_of_ble_eq_true rfl | (dsimp only [inK]; omega) | (simp only [mulS_eq]; omega) | (simp only [mulS_eq, setL_length]; omega) | (simp only [setL_length]; omega) | (simp only [setL_length, List.length_map]; omega) | (exact ⟨by omega, by omega, by first | exact Nat.le_of_ble_eq_true rfl | (dsimp only; omega) | (simp only [setL_length]; omega) | (simp only [setL_length, List.length_map]; omega)⟩) | (exact ⟨by omega, by first | rfl | omega, by omega, Nat.le_of_ble_eq_true rfl, Nat.le_of_ble_eq_true rfl⟩) | (exact ⟨rfl, rfl, rfl, Nat.le_of_ble_eq_true rfl, by first | rfl | omega | exact Nat.le_of_ble_eq_true rfl | (dsimp only; omega) | (simp; done) | (simp; omega), by first | rfl | omega | exact Nat.le_of_ble_eq_true rfl | (dsimp only; omega) | (simp; done) | (simp; omega), by omega, Nat.le_of_ble_eq_true rfl⟩) | exact Eq.refl true) ?_) | refine Exists.intro _ (And.intro rfl ?_) | refine And.intro (And.intro rfl (chk_rowI _ _ _ _)) ?_ | refine br_t (by omega) ?_ | refine br_f (by omega) ?_ | refine bs_t (by omega) ?_ | refine bs_f (by omega) ?_ | refine fun (K' : K3) hK' => ?_ | (refine hK' _ _ _ ?_; clear hK' K') | refine draw_auto tok mixed (by kernel_rfl) ?_ | refine CallK.val (R := []) (between_spec _ _ _) (by kernel_rfl) rfl (by simp [V.wf, A.wf, C.wf, V.i]) trivial rfl rfl trivial ?_ | refine bs_bt (Eq.refl true) ?_ | refine bs_bf (Eq.refl false) ?_ | refine br_bt (Eq.refl true) ?_ | refine br_bf (Eq.refl false) ?_ | refine CallK.m ?_ | refine Two.l ?_ | refine And.intro (And.intro rfl rfl) ?_)
    intro ρ; show Value.bool _ = Value.bool _; simp [fillBad]
  · repeat ((conv => whnf); first | (refine And.intro (by first | omega | exact Nat.le_of_ble_eq_true rfl | (dsimp only [inK]; omega) | (simp only [mulS_eq]; omega) | (simp only [mulS_eq, setL_length]; omega) | (simp only [setL_length]; omega) | (simp only [setL_length, List.length_map]; omega) | (exact ⟨by omega, by omega, by first | exact Nat.le_of_ble_eq_true rfl | (dsimp only; omega) | (simp only [setL_length]; omega) | (simp only [setL_length, List.length_map]; omega)⟩) | (exact ⟨by omega, by first | rfl | omega, by omega, Nat.le_of_ble_eq_true rfl, Nat.le_of_ble_eq_true rfl⟩) | (exact ⟨rfl, rfl, rfl, Nat.le_of_ble_eq_true rfl, by first | rfl | omega | exact Nat.le_of_ble_eq_true rfl | (dsimp only; omega) | (simp; done) | (simp; omega), by first | rfl | omega | exact Nat.le_of_ble_eq_true rfl | (dsimp only; omega) | (simp; done) | (simp; omega), by omega, Nat.le_of_ble_eq_true rfl⟩) | exact Eq.refl true) ?_) | refine Exists.intro _ (And.intro rfl ?_) | refine And.intro (And.intro rfl (chk_rowI _ _ _ _)) ?_ | refine br_t (by omega) ?_ | refine br_f (by omega) ?_ | refine bs_t (by omega) ?_ | refine bs_f (by omega) ?_ | refine fun (K' : K3) hK' => ?_ | (refine hK' _ _ _ ?_; clear hK' K') | refine draw_auto tok mixed (by kernel_rfl) ?_ | refine CallK.val (R := []) (between_spec _ _ _) (by kernel_rfl) rfl (by simp [V.wf, A.wf, C.wf, V.i]) trivial rfl rfl trivial ?_ | refine bs_bt (Eq.refl true) ?_ | refine bs_bf (Eq.refl false) ?_ | refine br_bt (Eq.refl true) ?_ | refine br_bf (Eq.refl false) ?_ | refine CallK.m ?_ | refine Two.l ?_ | refine And.intro (And.intro rfl rfl) ?_)
    intro ρ; show Value.bool _ = Value.bool _; simp [fillBad]
theorem anybad_spec (l : List Int) (hl : l.length ≤ 300) : Spec Tryd.prog 88 [V.c (.sl 0 l.length), V.c (.fn 89 [])] [⟨0, .ro 0, l.map C.i⟩] 1 (Is (V.c (.bool (l.any fillBad)))) :=
  contains_any (Lc := []) hl (by kernel_rfl) (fun i hi => fbad_spec _) (by simp) (by omega) (by simp) (fun _ _ => trivial) rfl ⟨roE_id (by omega) (wf_ints _ _) rfl (.inl rfl) rfl, trivial⟩
/-- A list is a filling. -/
def isF (n : Nat) (l : List Int) : Bool := decide ((l.length : Int) = n) && !(l.any fillBad)
theorem filled_spec (t : List Nat) (n : Nat) (l : List Int) (hl : l.length ≤ 300) (hn : n ≤ 8) : Spec Tryd.prog 56 [V.c (.sl 0 n), V.c (.sl 1 l.length)] [⟨0, .ro 0, t.map C.u⟩, ⟨1, .ro 0, l.map C.i⟩] 2 (Is (V.c (.bool (isF n l)))) := by
  have hc := anybad_spec l hl
  refine Spec.of tok Tryd.func56 rfl rfl rfl fun n0 cx => vc_ok tok ?_
  by_cases h : (l.length : Int) = n
  · repeat ((conv => whnf); first | (refine And.intro (by first | omega | exact Nat.le_of_ble_eq_true rfl | (dsimp only [inK]; omega) | (simp only [mulS_eq]; omega) | (simp only [mulS_eq, setL_length]; omega) | (simp only [setL_length]; omega) | (simp only [setL_length, List.length_map]; omega) | (exact ⟨by omega, by omega, by first | exact Nat.le_of_ble_eq_true rfl | (dsimp only; omega) | (simp only [setL_length]; omega) | (simp only [setL_length, List.length_map]; omega)⟩) | (exact ⟨by omega, by first | rfl | omega, by omega, Nat.le_of_ble_eq_true rfl, Nat.le_of_ble_eq_true rfl⟩) | (exact ⟨rfl, rfl, rfl, Nat.le_of_ble_eq_true rfl, by first | rfl | omega | exact Nat.le_of_ble_eq_true rfl | (dsimp only; omega) | (simp; done) | (simp; omega), by first | rfl | omega | exact Nat.le_of_ble_eq_true rfl | (dsimp only; omega) | (simp; done) | (simp; omega), by omega, Nat.le_of_ble_eq_true rfl⟩) | exact Eq.refl true) ?_) | refine Exists.intro _ (And.intro rfl ?_) | refine And.intro (And.intro rfl (chk_rowI _ _ _ _)) ?_ | refine br_t (by omega) ?_ | refine br_f (by omega) ?_ | refine bs_t (by omega) ?_ | refine bs_f (by omega) ?_ | refine fun (K' : K3) hK' => ?_ | (refine hK' _ _ _ ?_; clear hK' K') | refine draw_auto tok mixed (by kernel_rfl) ?_ | refine bs_t h ?_ | refine br_t h ?_ | refine CallK.val (R := [(0, some 1)]) hc (by kernel_rfl) rfl (by simp [V.wf, A.wf, C.wf]) ⟨roE_f (flat_i _) (l := 1) rfl (by omega) rfl (.inl rfl), trivial⟩ rfl rfl trivial ?_ | refine bs_bt (Eq.refl true) ?_ | refine bs_bf (Eq.refl false) ?_ | refine br_bt (Eq.refl true) ?_ | refine br_bf (Eq.refl false) ?_ | refine CallK.m ?_ | refine Two.l ?_ | refine And.intro (And.intro rfl rfl) ?_)
    intro ρ; show Value.bool _ = Value.bool _; unfold isF; rw [decide_eq_true h]; simp
  · repeat ((conv => whnf); first | (refine And.intro (by first | omega | exact Nat.le_of_ble_eq_true rfl | (dsimp only [inK]; omega) | (simp only [mulS_eq]; omega) | (simp only [mulS_eq, setL_length]; omega) | (simp only [setL_length]; omega) | (simp only [setL_length, List.length_map]; omega) | (exact ⟨by omega, by omega, by first | exact Nat.le_of_ble_eq_true rfl | (dsimp only; omega) | (simp only [setL_length]; omega) | (simp only [setL_length, List.length_map]; omega)⟩) | (exact ⟨by omega, by first | rfl | omega, by omega, Nat.le_of_ble_eq_true rfl, Nat.le_of_ble_eq_true rfl⟩) | (exact ⟨rfl, rfl, rfl, Nat.le_of_ble_eq_true rfl, by first | rfl | omega | exact Nat.le_of_ble_eq_true rfl | (dsimp only; omega) | (simp; done) | (simp; omega), by first | rfl | omega | exact Nat.le_of_ble_eq_true rfl | (dsimp only; omega) | (simp; done) | (simp; omega), by omega, Nat.le_of_ble_eq_true rfl⟩) | exact Eq.refl true) ?_) | refine Exists.intro _ (And.intro rfl ?_) | refine And.intro (And.intro rfl (chk_rowI _ _ _ _)) ?_ | refine br_t (by omega) ?_ | refine br_f (by omega) ?_ | refine bs_t (by omega) ?_ | refine bs_f (by omega) ?_ | refine fun (K' : K3) hK' => ?_ | (refine hK' _ _ _ ?_; clear hK' K') | refine draw_auto tok mixed (by kernel_rfl) ?_ | refine bs_f h ?_ | refine br_f h ?_ | refine bs_bt (Eq.refl true) ?_ | refine bs_bf (Eq.refl false) ?_ | refine br_bt (Eq.refl true) ?_ | refine br_bf (Eq.refl false) ?_ | refine CallK.m ?_ | refine Two.l ?_ | refine And.intro (And.intro rfl rfl) ?_)
    intro ρ; show Value.bool _ = Value.bool _; unfold isF; rw [decide_eq_false h]; rfl
/-- A filling is right: row a against its kinds. -/
def rgtK (t : List Nat) (l : List Int) (a k : Nat) : Bool := ((bitsL (t.getD a 0)).take k).all fun b => !decide (l.getD a 0 = l.getD b 0)
def rgtA (t : List Nat) (l : List Int) (a : Nat) : Bool := (bitsL (t.getD a 0)).all fun b => !decide (l.getD a 0 = l.getD b 0)
def rgtR (t : List Nat) (l : List Int) (k : Nat) : Bool := (List.range k).all fun a => rgtA t l a
theorem all_take_succ {m : List Nat} {p : Nat → Bool} {k : Nat} (h : k < m.length) : (m.take (k + 1)).all p = ((m.take k).all p && p (m.getD k 0)) := by
  have e : m[k]?.toList = [m.getD k 0] := by rw [List.getD_eq_getElem?_getD, List.getElem?_eq_getElem h]; rfl
  rw [List.take_add_one, e, List.all_append]
  simp
theorem rgtK_succ {t : List Nat} {l : List Int} {a k : Nat} (h : k < (bitsL (t.getD a 0)).length) : rgtK t l a (k + 1) = (rgtK t l a k && !decide (l.getD a 0 = l.getD ((bitsL (t.getD a 0)).getD k 0) 0)) := all_take_succ h
theorem rgtR_succ (t : List Nat) (l : List Int) (k : Nat) : rgtR t l (k + 1) = (rgtR t l k && rgtA t l k) := by simp [rgtR, List.range_succ, List.all_append]
theorem rgtR_false {t : List Nat} {l : List Int} {k n : Nat} (hk : k < n) (h : rgtA t l k = false) : rgtR t l n = false := by
  unfold rgtR; rw [List.all_eq_false]; exact ⟨k, by simpa using hk, by simp [h]⟩
set_option maxRecDepth 10000 in
set_option maxHeartbeats 8000000 in
theorem right_spec (t : List Nat) (n : Nat) (l : List Int) (htl : t.length = n) (hn : n ≤ 8) (ht : ∀ x ∈ t, x < 2 ^ n) (hll : l.length = n) : Spec Tryd.prog 57 [V.c (.sl 0 n), V.c (.sl 1 n)] [⟨0, .ro 0, t.map C.u⟩, ⟨1, .ro 0, l.map C.i⟩] 2 (Is (V.c (.bool (rgtR t l n)))) := by
  have htm : (t.map C.u).length = n := by rw [List.length_map, htl]
  have hlm : (l.map C.i).length = n := by rw [List.length_map, hll]
  refine Spec.of tok Tryd.func57 rfl rfl rfl fun n0 cx => vc_ok tok ?_
  repeat ((conv => whnf); first | (refine And.intro (by first | omega | exact Nat.le_of_ble_eq_true rfl | (dsimp only [inK]; omega) | (simp only [mulS_eq]; omega) | (simp only [mulS_eq, setL_length]; omega) | (simp only [setL_length]; omega) | (simp only [setL_length, List.length_map]; omega) | (exact ⟨by omega, by omega, by first | exact Nat.le_of_ble_eq_true rfl | (dsimp only; omega) | (simp only [setL_length]; omega) | (simp only [setL_length, List.length_map]; omega)⟩) | (exact ⟨by omega, by first | rfl | omega, by omega, Nat.le_of_ble_eq_true rfl, Nat.le_of_ble_eq_true rfl⟩) | (exact ⟨rfl, rfl, rfl, Nat.le_of_ble_eq_true rfl, by first | rfl | omega | exact Nat.le_of_ble_eq_true rfl | (dsimp only; omega) | (simp; done) | (simp; omega), by first | rfl | omega | exact Nat.le_of_ble_eq_true rfl | (dsimp only; omega) | (simp; done) | (simp; omega), by omega, Nat.le_of_ble_eq_true rfl⟩) | exact Eq.refl true) ?_) | refine Exists.intro _ (And.intro rfl ?_) | refine And.intro (And.intro rfl (chk_rowI _ _ _ _)) ?_ | refine br_t (by omega) ?_ | refine br_f (by omega) ?_ | refine bs_t (by omega) ?_ | refine bs_f (by omega) ?_ | refine fun (K' : K3) hK' => ?_ | (refine hK' _ _ _ ?_; clear hK' K') | refine draw_auto tok mixed (by kernel_rfl) ?_ | refine bs_bt (Eq.refl true) ?_ | refine bs_bf (Eq.refl false) ?_ | refine br_bt (Eq.refl true) ?_ | refine br_bf (Eq.refl false) ?_ | refine CallK.m ?_ | refine Two.l ?_ | refine And.intro (And.intro rfl rfl) ?_)
  refine Tri.loop (γ := Nat) (fun a => a ≤ n ∧ rgtR t l a = true) (fun a => [(3, V.c (.ptr 2 0)), (4, V.c (.ptr 3 0)), (8, V.c (.sl 0 n)), (9, V.i n), (10, V.i (a : Nat))])
    (fun a => [⟨3, .own 4, [.ff]⟩, ⟨2, .own 25, [.sl 1 n]⟩, ⟨0, .ro 0, t.map C.u⟩, ⟨1, .ro 0, l.map C.i⟩]) 4 (fun a => n - a) 0 (R0 := []) ?_ ?_ ?_
  · exact ⟨by omega, rfl⟩
  · skip
    refine ⟨?_, ?_, rfl, rfl, by first | exact Nat.le_of_ble_eq_true rfl | exact Nat.le_refl _ | omega⟩
    · repeat (first | exact trivial | (refine And.intro (covS_syn (by rfl) rfl (by first | exact trivial | exact Nat.le_of_ble_eq_true rfl | exact hy | (first | ((show ∀ p ∈ (_ : List (Nat × Nat)), p.1 < _); decide) | exact (fun p hp => nomatch hp)) | (show (_ : Nat) < _; omega))) ?_) | refine And.intro (covS_bool rfl rfl (by rfl)) ?_)
    · repeat (first | exact trivial | (refine And.intro (covE_id (Nat.le_of_ble_eq_true rfl) (by first | exact wf_ints _ _ | exact wf_bools _ _ | first | exact wf_us _ _ | exact wf_cells _ _ | (simp [C.wf]; done) | simp [C.wf]) rfl (by rfl)) ?_))
  · rintro a ⟨ha, hok⟩
    refine vc_ok tok ?_
    by_cases hlt : a < n
    · have hld : (t.map C.u)[mulS ((a : Nat) : Int).toNat 1]? = some (C.u (t.getD a 0)) := uLz rfl (by omega)
      have hsn : t.getD a 0 < 2 ^ n := by rw [List.getD_eq_getElem?_getD, List.getElem?_eq_getElem (by omega)]; exact ht _ (List.getElem_mem _)
      have hrA : rgtA t l a = (bitsL (t.getD a 0)).all fun b => !decide (l.getD a 0 = l.getD b 0) := rfl
      have hrK0 : rgtK t l a 0 = true := rfl
      have hrKe : rgtK t l a (bitsL (t.getD a 0)).length = rgtA t l a := by unfold rgtK rgtA; rw [List.take_length]
      have hrKs : ∀ {k}, k < (bitsL (t.getD a 0)).length → rgtK t l a (k + 1) = (rgtK t l a k && !decide (l.getD a 0 = l.getD ((bitsL (t.getD a 0)).getD k 0) 0)) := fun h => rgtK_succ h
      have hsR := rgtR_succ t l a
      have hla : (l.map C.i)[mulS ((a : Nat) : Int).toNat 1]? = some (C.i (l.getD a 0)) := intLz rfl (by omega)
      obtain ⟨s, hs⟩ : ∃ s, s = t.getD a 0 := ⟨_, rfl⟩
      rw [← hs] at hld hsn hrA hrKe hrKs
      have hs8 : s < 256 := Nat.lt_of_lt_of_le hsn (pow_8 hn)
      have hbl := bitsL_len s
      repeat ((conv => whnf); first | (refine And.intro (by first | omega | exact Nat.le_of_ble_eq_true rfl | (dsimp only [inK]; omega) | (simp only [mulS_eq]; omega) | (simp only [mulS_eq, setL_length]; omega) | (simp only [setL_length]; omega) | (simp only [setL_length, List.length_map]; omega) | (exact ⟨by omega, by omega, by first | exact Nat.le_of_ble_eq_true rfl | (dsimp only; omega) | (simp only [setL_length]; omega) | (simp only [setL_length, List.length_map]; omega)⟩) | (exact ⟨by omega, by first | rfl | omega, by omega, Nat.le_of_ble_eq_true rfl, Nat.le_of_ble_eq_true rfl⟩) | (exact ⟨rfl, rfl, rfl, Nat.le_of_ble_eq_true rfl, by first | rfl | omega | exact Nat.le_of_ble_eq_true rfl | (dsimp only; omega) | (simp; done) | (simp; omega), by first | rfl | omega | exact Nat.le_of_ble_eq_true rfl | (dsimp only; omega) | (simp; done) | (simp; omega), by omega, Nat.le_of_ble_eq_true rfl⟩) | exact Eq.refl true) ?_) | with_reducible refine ld (hld) ?_ | refine Exists.intro _ (And.intro rfl ?_) | refine And.intro (And.intro rfl (chk_rowI _ _ _ _)) ?_ | refine br_t (by omega) ?_ | refine br_f (by omega) ?_ | refine bs_t (by omega) ?_ | refine bs_f (by omega) ?_ | refine fun (K' : K3) hK' => ?_ | (refine hK' _ _ _ ?_; clear hK' K') | refine draw_auto tok mixed (by kernel_rfl) ?_ | refine CallK.fresh (by kernel_rfl) (all_spec _ _ _) rfl ?_ | refine bs_bt (Eq.refl true) ?_ | refine bs_bf (Eq.refl false) ?_ | refine br_bt (Eq.refl true) ?_ | refine br_bf (Eq.refl false) ?_ | refine CallK.m ?_ | refine Two.l ?_ | refine And.intro (And.intro rfl rfl) ?_)
      refine Tri.opq fun K' hK' => ?_
      refine Tri.rangeFunc tok (by exact rfl) (by kernel_rfl) (by exact rfl) (by exact rfl) (by exact rfl) (by exact rfl) (by exact rfl) (by exact rfl) ?_
      intro y cxi oo ob od hy hY
      refine vc_ok tok ?_
      repeat ((conv => whnf); first | (refine And.intro (by first | omega | exact Nat.le_of_ble_eq_true rfl | (dsimp only [inK]; omega) | (simp only [mulS_eq]; omega) | (simp only [mulS_eq, setL_length]; omega) | (simp only [setL_length]; omega) | (simp only [setL_length, List.length_map]; omega) | (exact ⟨by omega, by omega, by first | exact Nat.le_of_ble_eq_true rfl | (dsimp only; omega) | (simp only [setL_length]; omega) | (simp only [setL_length, List.length_map]; omega)⟩) | (exact ⟨by omega, by first | rfl | omega, by omega, Nat.le_of_ble_eq_true rfl, Nat.le_of_ble_eq_true rfl⟩) | (exact ⟨rfl, rfl, rfl, Nat.le_of_ble_eq_true rfl, by first | rfl | omega | exact Nat.le_of_ble_eq_true rfl | (dsimp only; omega) | (simp; done) | (simp; omega), by first | rfl | omega | exact Nat.le_of_ble_eq_true rfl | (dsimp only; omega) | (simp; done) | (simp; omega), by omega, Nat.le_of_ble_eq_true rfl⟩) | exact Eq.refl true) ?_) | refine Exists.intro _ (And.intro rfl ?_) | refine And.intro (And.intro rfl (chk_rowI _ _ _ _)) ?_ | refine br_t (by omega) ?_ | refine br_f (by omega) ?_ | refine bs_t (by omega) ?_ | refine bs_f (by omega) ?_ | refine fun (K' : K3) hK' => ?_ | (refine hK' _ _ _ ?_; clear hK' K') | refine draw_auto tok mixed (by kernel_rfl) ?_ | refine bs_bt (Eq.refl true) ?_ | refine bs_bf (Eq.refl false) ?_ | refine br_bt (Eq.refl true) ?_ | refine br_bf (Eq.refl false) ?_ | refine CallK.m ?_ | refine Two.l ?_ | refine And.intro (And.intro rfl rfl) ?_)
      refine Tri.loop (γ := Nat) (fun k => k ≤ (bitsL s).length ∧ rgtK t l a k = true) (fun k => [(0, V.c (.v y)), (1, V.c (.ptr 5 0)), (3, V.u (rs s k))])
        (fun k => [⟨6, .obj oo, []⟩, ⟨5, .own 75, [C.u s]⟩, ⟨4, .own 3, [C.i (a : Nat)]⟩, ⟨3, .own 4, [.ff]⟩, ⟨2, .own 25, [.sl 1 n]⟩, ⟨0, .ro 0, t.map C.u⟩, ⟨1, .ro 0, l.map C.i⟩]) 7 (fun k => (bitsL s).length - k) 0 (R0 := []) ?_ ?_ ?_
      · exact ⟨by omega, hrK0⟩
      · skip
        refine ⟨?_, ?_, rfl, rfl, by first | exact Nat.le_of_ble_eq_true rfl | exact Nat.le_refl _ | omega⟩
        · repeat (first | exact trivial | (refine And.intro (covS_syn (by rfl) rfl (by first | exact trivial | exact Nat.le_of_ble_eq_true rfl | exact hy | (first | ((show ∀ p ∈ (_ : List (Nat × Nat)), p.1 < _); decide) | exact (fun p hp => nomatch hp)) | (show (_ : Nat) < _; omega))) ?_) | refine And.intro (covS_bool rfl rfl (by rfl)) ?_)
        · repeat (first | exact trivial | (refine And.intro (covE_id (Nat.le_of_ble_eq_true rfl) (by first | exact wf_ints _ _ | exact wf_bools _ _ | first | exact wf_us _ _ | exact wf_cells _ _ | (simp [C.wf]; done) | simp [C.wf]) rfl (by rfl)) ?_))
      · rintro k ⟨hk, hokk⟩
        refine vc_ok tok ?_
        obtain ⟨f1, f2, f3⟩ := all_fact s hs8 k (by omega)
        by_cases hkl : k < (bitsL s).length
        · obtain ⟨f4, f5⟩ := f2 hkl
          have hmem := mem_bitsL.1 (bitsL_get hkl)
          have hbn := bit_lt hsn hmem.2
          have hrs : rs s (k + 1) = rs s k &&& (rs s k - 1) := rfl
          have hsucc := hrKs hkl
          have hgm := bitsL_get hkl
          obtain ⟨b, hb⟩ : ∃ b, b = (bitsL s).getD k 0 := ⟨_, rfl⟩
          obtain ⟨r, hr⟩ : ∃ r, r = rs s k := ⟨_, rfl⟩
          rw [← hb] at f5 hbn hsucc hgm
          rw [← hr] at f1 f4 f5 hrs ⊢
          have hne : (r : Int) ≠ 0 := by omega
          have hde := and_dec f1 f4
          rw [← hrs] at hde
          have htz := fun {n0 nx : Nat} {L : List E} {K : V → List E → Nat → Prop} => tz_k (n0 := n0) (nx := nx) (L := L) (K := K) f4 f1
          rw [f5] at htz
          have hlb : (l.map C.i)[mulS ((b : Nat) : Int).toNat 1]? = some (C.i (l.getD b 0)) := intLz rfl (by omega)
          by_cases hc : l.getD a 0 = l.getD b 0
          · have hres : rgtR t l n = false := rgtR_false hlt (by rw [hrA, List.all_eq_false]; exact ⟨b, hgm, by rw [decide_eq_true hc]; simp⟩)
            repeat ((conv => whnf); first | (refine And.intro (by first | omega | exact Nat.le_of_ble_eq_true rfl | (dsimp only [inK]; omega) | (simp only [mulS_eq]; omega) | (simp only [mulS_eq, setL_length]; omega) | (simp only [setL_length]; omega) | (simp only [setL_length, List.length_map]; omega) | (exact ⟨by omega, by omega, by first | exact Nat.le_of_ble_eq_true rfl | (dsimp only; omega) | (simp only [setL_length]; omega) | (simp only [setL_length, List.length_map]; omega)⟩) | (exact ⟨by omega, by first | rfl | omega, by omega, Nat.le_of_ble_eq_true rfl, Nat.le_of_ble_eq_true rfl⟩) | (exact ⟨rfl, rfl, rfl, Nat.le_of_ble_eq_true rfl, by first | rfl | omega | exact Nat.le_of_ble_eq_true rfl | (dsimp only; omega) | (simp; done) | (simp; omega), by first | rfl | omega | exact Nat.le_of_ble_eq_true rfl | (dsimp only; omega) | (simp; done) | (simp; omega), by omega, Nat.le_of_ble_eq_true rfl⟩) | exact Eq.refl true) ?_) | refine Exists.intro _ (And.intro rfl ?_) | refine And.intro (And.intro rfl (chk_rowI _ _ _ _)) ?_ | refine br_t (by omega) ?_ | refine br_f (by omega) ?_ | refine bs_t (by omega) ?_ | refine bs_f (by omega) ?_ | refine fun (K' : K3) hK' => ?_ | (refine hK' _ _ _ ?_; clear hK' K') | refine draw_auto tok mixed (by kernel_rfl) ?_ | refine bs_t hne ?_ | refine br_t hne ?_ | refine htz ?_ | refine bs_bt (Eq.refl true) ?_ | refine bs_bf (Eq.refl false) ?_ | refine br_bt (Eq.refl true) ?_ | refine br_bf (Eq.refl false) ?_ | refine CallK.m ?_ | refine Two.l ?_ | refine And.intro (And.intro rfl rfl) ?_)
            refine hY _ _ _ _ (Nat.le_of_ble_eq_true rfl) rfl ⟨rfl, trivial⟩ ?_
            intro cxb hcx
            refine vc_ok tok ?_
            repeat ((conv => whnf); first | (refine And.intro (by first | omega | exact Nat.le_of_ble_eq_true rfl | (dsimp only [inK]; omega) | (simp only [mulS_eq]; omega) | (simp only [mulS_eq, setL_length]; omega) | (simp only [setL_length]; omega) | (simp only [setL_length, List.length_map]; omega) | (exact ⟨by omega, by omega, by first | exact Nat.le_of_ble_eq_true rfl | (dsimp only; omega) | (simp only [setL_length]; omega) | (simp only [setL_length, List.length_map]; omega)⟩) | (exact ⟨by omega, by first | rfl | omega, by omega, Nat.le_of_ble_eq_true rfl, Nat.le_of_ble_eq_true rfl⟩) | (exact ⟨rfl, rfl, rfl, Nat.le_of_ble_eq_true rfl, by first | rfl | omega | exact Nat.le_of_ble_eq_true rfl | (dsimp only; omega) | (simp; done) | (simp; omega), by first | rfl | omega | exact Nat.le_of_ble_eq_true rfl | (dsimp only; omega) | (simp; done) | (simp; omega), by omega, Nat.le_of_ble_eq_true rfl⟩) | exact Eq.refl true) ?_) | refine Exists.intro _ (And.intro rfl ?_) | refine And.intro (And.intro rfl (chk_rowI _ _ _ _)) ?_ | refine br_t (by omega) ?_ | refine br_f (by omega) ?_ | refine bs_t (by omega) ?_ | refine bs_f (by omega) ?_ | refine fun (K' : K3) hK' => ?_ | (refine hK' _ _ _ ?_; clear hK' K') | refine draw_auto tok mixed (by kernel_rfl) ?_ | refine And.intro (Eq.refl oo) ?_ | refine bs_bt (Eq.refl true) ?_ | refine bs_bf (Eq.refl false) ?_ | refine br_bt (Eq.refl true) ?_ | refine br_bf (Eq.refl false) ?_ | refine CallK.m ?_ | refine Two.l ?_ | refine And.intro (And.intro rfl rfl) ?_)
            refine vc_ok tok ?_
            repeat ((conv => whnf); first | (refine And.intro (by first | omega | exact Nat.le_of_ble_eq_true rfl | (dsimp only [inK]; omega) | (simp only [mulS_eq]; omega) | (simp only [mulS_eq, setL_length]; omega) | (simp only [setL_length]; omega) | (simp only [setL_length, List.length_map]; omega) | (exact ⟨by omega, by omega, by first | exact Nat.le_of_ble_eq_true rfl | (dsimp only; omega) | (simp only [setL_length]; omega) | (simp only [setL_length, List.length_map]; omega)⟩) | (exact ⟨by omega, by first | rfl | omega, by omega, Nat.le_of_ble_eq_true rfl, Nat.le_of_ble_eq_true rfl⟩) | (exact ⟨rfl, rfl, rfl, Nat.le_of_ble_eq_true rfl, by first | rfl | omega | exact Nat.le_of_ble_eq_true rfl | (dsimp only; omega) | (simp; done) | (simp; omega), by first | rfl | omega | exact Nat.le_of_ble_eq_true rfl | (dsimp only; omega) | (simp; done) | (simp; omega), by omega, Nat.le_of_ble_eq_true rfl⟩) | exact Eq.refl true) ?_) | with_reducible refine ld (hla) ?_ | with_reducible refine ld (hlb) ?_ | refine Exists.intro _ (And.intro rfl ?_) | refine And.intro (And.intro rfl (chk_rowI _ _ _ _)) ?_ | refine br_t (by omega) ?_ | refine br_f (by omega) ?_ | refine bs_t (by omega) ?_ | refine bs_f (by omega) ?_ | refine fun (K' : K3) hK' => ?_ | (refine hK' _ _ _ ?_; clear hK' K') | refine draw_auto tok mixed (by kernel_rfl) ?_ | refine bs_t hc ?_ | refine br_t hc ?_ | refine And.intro (Eq.refl ob) ?_ | refine bs_bt (Eq.refl true) ?_ | refine bs_bf (Eq.refl false) ?_ | refine br_bt (Eq.refl true) ?_ | refine br_bf (Eq.refl false) ?_ | refine CallK.m ?_ | refine Two.l ?_ | refine And.intro (And.intro rfl rfl) ?_)
            refine Or.inr (Or.inl ?_)
            repeat ((conv => whnf); first | (refine And.intro (by first | omega | exact Nat.le_of_ble_eq_true rfl | (dsimp only [inK]; omega) | (simp only [mulS_eq]; omega) | (simp only [mulS_eq, setL_length]; omega) | (simp only [setL_length]; omega) | (simp only [setL_length, List.length_map]; omega) | (exact ⟨by omega, by omega, by first | exact Nat.le_of_ble_eq_true rfl | (dsimp only; omega) | (simp only [setL_length]; omega) | (simp only [setL_length, List.length_map]; omega)⟩) | (exact ⟨by omega, by first | rfl | omega, by omega, Nat.le_of_ble_eq_true rfl, Nat.le_of_ble_eq_true rfl⟩) | (exact ⟨rfl, rfl, rfl, Nat.le_of_ble_eq_true rfl, by first | rfl | omega | exact Nat.le_of_ble_eq_true rfl | (dsimp only; omega) | (simp; done) | (simp; omega), by first | rfl | omega | exact Nat.le_of_ble_eq_true rfl | (dsimp only; omega) | (simp; done) | (simp; omega), by omega, Nat.le_of_ble_eq_true rfl⟩) | exact Eq.refl true) ?_) | refine Exists.intro _ (And.intro rfl ?_) | refine And.intro (And.intro rfl (chk_rowI _ _ _ _)) ?_ | refine br_t (by omega) ?_ | refine br_f (by omega) ?_ | refine bs_t (by omega) ?_ | refine bs_f (by omega) ?_ | refine fun (K' : K3) hK' => ?_ | (refine hK' _ _ _ ?_; clear hK' K') | refine draw_auto tok mixed (by kernel_rfl) ?_ | refine And.intro (Eq.refl (od Code.ret)) ?_ | refine bs_bt (Eq.refl true) ?_ | refine bs_bf (Eq.refl false) ?_ | refine br_bt (Eq.refl true) ?_ | refine br_bf (Eq.refl false) ?_ | refine CallK.m ?_ | refine Two.l ?_ | refine And.intro (And.intro rfl rfl) ?_)
            refine hK' _ _ _ _ ?_
            repeat ((conv => whnf); first | (refine And.intro (by first | omega | exact Nat.le_of_ble_eq_true rfl | (dsimp only [inK]; omega) | (simp only [mulS_eq]; omega) | (simp only [mulS_eq, setL_length]; omega) | (simp only [setL_length]; omega) | (simp only [setL_length, List.length_map]; omega) | (exact ⟨by omega, by omega, by first | exact Nat.le_of_ble_eq_true rfl | (dsimp only; omega) | (simp only [setL_length]; omega) | (simp only [setL_length, List.length_map]; omega)⟩) | (exact ⟨by omega, by first | rfl | omega, by omega, Nat.le_of_ble_eq_true rfl, Nat.le_of_ble_eq_true rfl⟩) | (exact ⟨rfl, rfl, rfl, Nat.le_of_ble_eq_true rfl, by first | rfl | omega | exact Nat.le_of_ble_eq_true rfl | (dsimp only; omega) | (simp; done) | (simp; omega), by first | rfl | omega | exact Nat.le_of_ble_eq_true rfl | (dsimp only; omega) | (simp; done) | (simp; omega), by omega, Nat.le_of_ble_eq_true rfl⟩) | exact Eq.refl true) ?_) | refine Exists.intro _ (And.intro rfl ?_) | refine And.intro (And.intro rfl (chk_rowI _ _ _ _)) ?_ | refine br_t (by omega) ?_ | refine br_f (by omega) ?_ | refine bs_t (by omega) ?_ | refine bs_f (by omega) ?_ | refine fun (K' : K3) hK' => ?_ | (refine hK' _ _ _ ?_; clear hK' K') | refine draw_auto tok mixed (by kernel_rfl) ?_ | refine bs_bt (Eq.refl true) ?_ | refine bs_bf (Eq.refl false) ?_ | refine br_bt (Eq.refl true) ?_ | refine br_bf (Eq.refl false) ?_ | refine CallK.m ?_ | refine Two.l ?_ | refine And.intro (And.intro rfl rfl) ?_)
            intro ρ; rw [hres]; rfl
          · repeat ((conv => whnf); first | (refine And.intro (by first | omega | exact Nat.le_of_ble_eq_true rfl | (dsimp only [inK]; omega) | (simp only [mulS_eq]; omega) | (simp only [mulS_eq, setL_length]; omega) | (simp only [setL_length]; omega) | (simp only [setL_length, List.length_map]; omega) | (exact ⟨by omega, by omega, by first | exact Nat.le_of_ble_eq_true rfl | (dsimp only; omega) | (simp only [setL_length]; omega) | (simp only [setL_length, List.length_map]; omega)⟩) | (exact ⟨by omega, by first | rfl | omega, by omega, Nat.le_of_ble_eq_true rfl, Nat.le_of_ble_eq_true rfl⟩) | (exact ⟨rfl, rfl, rfl, Nat.le_of_ble_eq_true rfl, by first | rfl | omega | exact Nat.le_of_ble_eq_true rfl | (dsimp only; omega) | (simp; done) | (simp; omega), by first | rfl | omega | exact Nat.le_of_ble_eq_true rfl | (dsimp only; omega) | (simp; done) | (simp; omega), by omega, Nat.le_of_ble_eq_true rfl⟩) | exact Eq.refl true) ?_) | refine Exists.intro _ (And.intro rfl ?_) | refine And.intro (And.intro rfl (chk_rowI _ _ _ _)) ?_ | refine br_t (by omega) ?_ | refine br_f (by omega) ?_ | refine bs_t (by omega) ?_ | refine bs_f (by omega) ?_ | refine fun (K' : K3) hK' => ?_ | (refine hK' _ _ _ ?_; clear hK' K') | refine draw_auto tok mixed (by kernel_rfl) ?_ | refine bs_t hne ?_ | refine br_t hne ?_ | refine htz ?_ | refine bs_bt (Eq.refl true) ?_ | refine bs_bf (Eq.refl false) ?_ | refine br_bt (Eq.refl true) ?_ | refine br_bf (Eq.refl false) ?_ | refine CallK.m ?_ | refine Two.l ?_ | refine And.intro (And.intro rfl rfl) ?_)
            refine hY _ _ _ _ (Nat.le_of_ble_eq_true rfl) rfl ⟨rfl, trivial⟩ ?_
            intro cxb hcx
            refine vc_ok tok ?_
            repeat ((conv => whnf); first | (refine And.intro (by first | omega | exact Nat.le_of_ble_eq_true rfl | (dsimp only [inK]; omega) | (simp only [mulS_eq]; omega) | (simp only [mulS_eq, setL_length]; omega) | (simp only [setL_length]; omega) | (simp only [setL_length, List.length_map]; omega) | (exact ⟨by omega, by omega, by first | exact Nat.le_of_ble_eq_true rfl | (dsimp only; omega) | (simp only [setL_length]; omega) | (simp only [setL_length, List.length_map]; omega)⟩) | (exact ⟨by omega, by first | rfl | omega, by omega, Nat.le_of_ble_eq_true rfl, Nat.le_of_ble_eq_true rfl⟩) | (exact ⟨rfl, rfl, rfl, Nat.le_of_ble_eq_true rfl, by first | rfl | omega | exact Nat.le_of_ble_eq_true rfl | (dsimp only; omega) | (simp; done) | (simp; omega), by first | rfl | omega | exact Nat.le_of_ble_eq_true rfl | (dsimp only; omega) | (simp; done) | (simp; omega), by omega, Nat.le_of_ble_eq_true rfl⟩) | exact Eq.refl true) ?_) | refine Exists.intro _ (And.intro rfl ?_) | refine And.intro (And.intro rfl (chk_rowI _ _ _ _)) ?_ | refine br_t (by omega) ?_ | refine br_f (by omega) ?_ | refine bs_t (by omega) ?_ | refine bs_f (by omega) ?_ | refine fun (K' : K3) hK' => ?_ | (refine hK' _ _ _ ?_; clear hK' K') | refine draw_auto tok mixed (by kernel_rfl) ?_ | refine And.intro (Eq.refl oo) ?_ | refine bs_bt (Eq.refl true) ?_ | refine bs_bf (Eq.refl false) ?_ | refine br_bt (Eq.refl true) ?_ | refine br_bf (Eq.refl false) ?_ | refine CallK.m ?_ | refine Two.l ?_ | refine And.intro (And.intro rfl rfl) ?_)
            refine vc_ok tok ?_
            repeat ((conv => whnf); first | (refine And.intro (by first | omega | exact Nat.le_of_ble_eq_true rfl | (dsimp only [inK]; omega) | (simp only [mulS_eq]; omega) | (simp only [mulS_eq, setL_length]; omega) | (simp only [setL_length]; omega) | (simp only [setL_length, List.length_map]; omega) | (exact ⟨by omega, by omega, by first | exact Nat.le_of_ble_eq_true rfl | (dsimp only; omega) | (simp only [setL_length]; omega) | (simp only [setL_length, List.length_map]; omega)⟩) | (exact ⟨by omega, by first | rfl | omega, by omega, Nat.le_of_ble_eq_true rfl, Nat.le_of_ble_eq_true rfl⟩) | (exact ⟨rfl, rfl, rfl, Nat.le_of_ble_eq_true rfl, by first | rfl | omega | exact Nat.le_of_ble_eq_true rfl | (dsimp only; omega) | (simp; done) | (simp; omega), by first | rfl | omega | exact Nat.le_of_ble_eq_true rfl | (dsimp only; omega) | (simp; done) | (simp; omega), by omega, Nat.le_of_ble_eq_true rfl⟩) | exact Eq.refl true) ?_) | with_reducible refine ld (hla) ?_ | with_reducible refine ld (hlb) ?_ | refine Exists.intro _ (And.intro rfl ?_) | refine And.intro (And.intro rfl (chk_rowI _ _ _ _)) ?_ | refine br_t (by omega) ?_ | refine br_f (by omega) ?_ | refine bs_t (by omega) ?_ | refine bs_f (by omega) ?_ | refine fun (K' : K3) hK' => ?_ | (refine hK' _ _ _ ?_; clear hK' K') | refine draw_auto tok mixed (by kernel_rfl) ?_ | refine bs_f hc ?_ | refine br_f hc ?_ | refine And.intro (Eq.refl ob) ?_ | refine bs_bt (Eq.refl true) ?_ | refine bs_bf (Eq.refl false) ?_ | refine br_bt (Eq.refl true) ?_ | refine br_bf (Eq.refl false) ?_ | refine CallK.m ?_ | refine Two.l ?_ | refine And.intro (And.intro rfl rfl) ?_)
            refine ⟨k + 1, [], ⟨by omega, by rw [hsucc, hokk, decide_eq_false hc]; rfl⟩, by omega, ?_⟩
            refine ⟨?_, ?_, rfl, rfl, by first | exact Nat.le_of_ble_eq_true rfl | exact Nat.le_refl _ | omega⟩
            · repeat (first | exact trivial | (refine And.intro (covS_syn (by first | rfl | exact congrArg (fun z => some (V.c (C.int .u64 z))) hde) rfl (by first | exact trivial | exact Nat.le_of_ble_eq_true rfl | exact hy | (first | ((show ∀ p ∈ (_ : List (Nat × Nat)), p.1 < _); decide) | exact (fun p hp => nomatch hp)) | (show (_ : Nat) < _; omega))) ?_) | refine And.intro (covS_bool rfl rfl (by rfl)) ?_)
            · repeat (first | exact trivial | (refine And.intro (covE_id (Nat.le_of_ble_eq_true rfl) (by first | exact wf_ints _ _ | exact wf_bools _ _ | first | exact wf_us _ _ | exact wf_cells _ _ | (simp [C.wf]; done) | simp [C.wf]) rfl (by rfl)) ?_))
        · have f6 := f3 (by omega)
          obtain rfl : k = (bitsL s).length := by omega
          rw [f6]
          rw [hrKe] at hokk
          repeat ((conv => whnf); first | (refine And.intro (by first | omega | exact Nat.le_of_ble_eq_true rfl | (dsimp only [inK]; omega) | (simp only [mulS_eq]; omega) | (simp only [mulS_eq, setL_length]; omega) | (simp only [setL_length]; omega) | (simp only [setL_length, List.length_map]; omega) | (exact ⟨by omega, by omega, by first | exact Nat.le_of_ble_eq_true rfl | (dsimp only; omega) | (simp only [setL_length]; omega) | (simp only [setL_length, List.length_map]; omega)⟩) | (exact ⟨by omega, by first | rfl | omega, by omega, Nat.le_of_ble_eq_true rfl, Nat.le_of_ble_eq_true rfl⟩) | (exact ⟨rfl, rfl, rfl, Nat.le_of_ble_eq_true rfl, by first | rfl | omega | exact Nat.le_of_ble_eq_true rfl | (dsimp only; omega) | (simp; done) | (simp; omega), by first | rfl | omega | exact Nat.le_of_ble_eq_true rfl | (dsimp only; omega) | (simp; done) | (simp; omega), by omega, Nat.le_of_ble_eq_true rfl⟩) | exact Eq.refl true) ?_) | refine Exists.intro _ (And.intro rfl ?_) | refine And.intro (And.intro rfl (chk_rowI _ _ _ _)) ?_ | refine br_t (by omega) ?_ | refine br_f (by omega) ?_ | refine bs_t (by omega) ?_ | refine bs_f (by omega) ?_ | refine fun (K' : K3) hK' => ?_ | (refine hK' _ _ _ ?_; clear hK' K') | refine draw_auto tok mixed (by kernel_rfl) ?_ | refine Or.inl ?_ | refine And.intro (Eq.refl oo) ?_ | refine bs_bt (Eq.refl true) ?_ | refine bs_bf (Eq.refl false) ?_ | refine br_bt (Eq.refl true) ?_ | refine br_bf (Eq.refl false) ?_ | refine CallK.m ?_ | refine Two.l ?_ | refine And.intro (And.intro rfl rfl) ?_)
          refine hK' _ _ _ _ ?_
          repeat ((conv => whnf); first | (refine And.intro (by first | omega | exact Nat.le_of_ble_eq_true rfl | (dsimp only [inK]; omega) | (simp only [mulS_eq]; omega) | (simp only [mulS_eq, setL_length]; omega) | (simp only [setL_length]; omega) | (simp only [setL_length, List.length_map]; omega) | (exact ⟨by omega, by omega, by first | exact Nat.le_of_ble_eq_true rfl | (dsimp only; omega) | (simp only [setL_length]; omega) | (simp only [setL_length, List.length_map]; omega)⟩) | (exact ⟨by omega, by first | rfl | omega, by omega, Nat.le_of_ble_eq_true rfl, Nat.le_of_ble_eq_true rfl⟩) | (exact ⟨rfl, rfl, rfl, Nat.le_of_ble_eq_true rfl, by first | rfl | omega | exact Nat.le_of_ble_eq_true rfl | (dsimp only; omega) | (simp; done) | (simp; omega), by first | rfl | omega | exact Nat.le_of_ble_eq_true rfl | (dsimp only; omega) | (simp; done) | (simp; omega), by omega, Nat.le_of_ble_eq_true rfl⟩) | exact Eq.refl true) ?_) | refine Exists.intro _ (And.intro rfl ?_) | refine And.intro (And.intro rfl (chk_rowI _ _ _ _)) ?_ | refine br_t (by omega) ?_ | refine br_f (by omega) ?_ | refine bs_t (by omega) ?_ | refine bs_f (by omega) ?_ | refine fun (K' : K3) hK' => ?_ | (refine hK' _ _ _ ?_; clear hK' K') | refine draw_auto tok mixed (by kernel_rfl) ?_ | refine bs_bt (Eq.refl true) ?_ | refine bs_bf (Eq.refl false) ?_ | refine br_bt (Eq.refl true) ?_ | refine br_bf (Eq.refl false) ?_ | refine CallK.m ?_ | refine Two.l ?_ | refine And.intro (And.intro rfl rfl) ?_)
          refine ⟨a + 1, [], ⟨by omega, by rw [hsR, hok, hokk]; rfl⟩, by omega, ?_⟩
          refine ⟨?_, ?_, rfl, rfl, by first | exact Nat.le_of_ble_eq_true rfl | exact Nat.le_refl _ | omega⟩
          · repeat (first | exact trivial | (refine And.intro (covS_syn (by first | rfl | (refine congrArg some (congrArg V.i ?_); omega)) rfl (by first | exact trivial | exact Nat.le_of_ble_eq_true rfl | exact hy | (first | ((show ∀ p ∈ (_ : List (Nat × Nat)), p.1 < _); decide) | exact (fun p hp => nomatch hp)) | (show (_ : Nat) < _; omega))) ?_) | refine And.intro (covS_bool rfl rfl (by rfl)) ?_)
          · repeat (first | exact trivial | (refine And.intro (covE_id (Nat.le_of_ble_eq_true rfl) (by first | exact wf_ints _ _ | exact wf_bools _ _ | first | exact wf_us _ _ | exact wf_cells _ _ | (simp [C.wf]; done) | simp [C.wf]) rfl (by rfl)) ?_))
    · obtain rfl : a = n := by omega
      repeat ((conv => whnf); first | (refine And.intro (by first | omega | exact Nat.le_of_ble_eq_true rfl | (dsimp only [inK]; omega) | (simp only [mulS_eq]; omega) | (simp only [mulS_eq, setL_length]; omega) | (simp only [setL_length]; omega) | (simp only [setL_length, List.length_map]; omega) | (exact ⟨by omega, by omega, by first | exact Nat.le_of_ble_eq_true rfl | (dsimp only; omega) | (simp only [setL_length]; omega) | (simp only [setL_length, List.length_map]; omega)⟩) | (exact ⟨by omega, by first | rfl | omega, by omega, Nat.le_of_ble_eq_true rfl, Nat.le_of_ble_eq_true rfl⟩) | (exact ⟨rfl, rfl, rfl, Nat.le_of_ble_eq_true rfl, by first | rfl | omega | exact Nat.le_of_ble_eq_true rfl | (dsimp only; omega) | (simp; done) | (simp; omega), by first | rfl | omega | exact Nat.le_of_ble_eq_true rfl | (dsimp only; omega) | (simp; done) | (simp; omega), by omega, Nat.le_of_ble_eq_true rfl⟩) | exact Eq.refl true) ?_) | refine Exists.intro _ (And.intro rfl ?_) | refine And.intro (And.intro rfl (chk_rowI _ _ _ _)) ?_ | refine br_t (by omega) ?_ | refine br_f (by omega) ?_ | refine bs_t (by omega) ?_ | refine bs_f (by omega) ?_ | refine fun (K' : K3) hK' => ?_ | (refine hK' _ _ _ ?_; clear hK' K') | refine draw_auto tok mixed (by kernel_rfl) ?_ | refine bs_bt (Eq.refl true) ?_ | refine bs_bf (Eq.refl false) ?_ | refine br_bt (Eq.refl true) ?_ | refine br_bf (Eq.refl false) ?_ | refine CallK.m ?_ | refine Two.l ?_ | refine And.intro (And.intro rfl rfl) ?_)
      intro ρ; rw [hok]; rfl
end Go.Proofs.YtijnimgmpocmaaaDoor

/- Waste: the document's fillings. -/
namespace Go.Proofs.YtijnimgmpocmaaaDoor
open Go.RowKit
set_option linter.unusedVariables false
set_option linter.unusedSimpArgs false
/-- A filling is right: pair by pair. -/
def rgtPk (qs : List (Nat × Nat)) (l : List Int) (k : Nat) : Bool := (qs.take k).all fun p => !decide (l.getD p.1 0 = l.getD p.2 0)
def rgtP (qs : List (Nat × Nat)) (l : List Int) : Bool := qs.all fun p => !decide (l.getD p.1 0 = l.getD p.2 0)
theorem rgt_eq {n : Nat} {qs : List (Nat × Nat)} (hk : Knd n qs) (l : List Int) : rgtR (tabS n qs) l n = rgtP qs l := by
  rw [Bool.eq_iff_iff]
  simp only [rgtR, rgtA, rgtP, List.all_eq_true, List.mem_range, Bool.not_eq_true', decide_eq_false_iff_not]
  constructor
  · rintro h ⟨a, b⟩ hp
    have hab := hk.ok _ hp
    simp only at hab ⊢
    refine h a (by omega) b (mem_bitsL.2 ⟨by have := hk.rng; omega, ?_⟩)
    rw [tabS_cl hk, symC_lt _ hab.1, clP_iff]; exact hp
  · intro h a ha b hb
    have h1 := (mem_bitsL.1 hb).2
    rw [tabS_cl hk] at h1
    unfold symC at h1
    split at h1
    · exact h _ (clP_iff.1 h1)
    · split at h1
      · exact fun e => h _ (clP_iff.1 h1) e.symm
      · cases h1
theorem Knd.get {n : Nat} {qs : List (Nat × Nat)} (hk : Knd n qs) {k : Nat} (h : k < qs.length) : (qs.getD k (0, 0)).1 < (qs.getD k (0, 0)).2 ∧ (qs.getD k (0, 0)).2 < n := hk.ok _ (getD_mem h)
end Go.Proofs.YtijnimgmpocmaaaDoor

/- Waste: Right and Clears, and the document's. -/
namespace Go.Proofs.YtijnimgmpocmaaaDoor
open Go.RowKit
set_option linter.unusedVariables false
set_option linter.unusedSimpArgs false
/-- Numbers and booleans. -/
def SimC : C → Prop
  | .int _ _ => True
  | .bool _ => True
  | .tt => True
  | .ff => True
  | _ => False
theorem sim_b (l : List Bool) : ∀ c ∈ l.map C.bool, SimC c := fun c hc => by obtain ⟨x, _, rfl⟩ := List.mem_map.1 hc; trivial
theorem sim_c (l : List Cell) : ∀ c ∈ cellC l, SimC c := fun c hc => by obtain ⟨x, rfl⟩ := cellC_mem hc; trivial
theorem sim_wf {cs : List C} (h : ∀ c ∈ cs, SimC c) (n : Nat) : ∀ c ∈ cs, c.wf n := fun c hc => by
  have := h c hc
  cases c <;> first | trivial | exact this.elim
theorem sim_chk {cs : List C} (h : ∀ c ∈ cs, SimC c) (p : Nat → Bool) : cs.all (C.chk p) = true := List.all_eq_true.2 fun c hc => by
  have := h c hc
  cases c <;> first | rfl | exact this.elim
theorem sim_ren {cs : List C} (h : ∀ c ∈ cs, SimC c) (R : Rn) : seqO (cs.map (C.ren R)) = some cs := seqO_fix fun c hc => by
  have := h c hc
  cases c <;> first | rfl | exact this.elim
theorem chk_s {cs cs' : List C} (he : cs' = cs) (h : ∀ c ∈ cs, SimC c) (p : Nat → Bool) (lab : Nat) (kd : Kd) : (([⟨lab, kd, cs'⟩] : List E).all fun e => e.cs.all (C.chk p)) = true := by
  subst he
  simp only [List.all_cons, List.all_nil, Bool.and_true]
  exact sim_chk h p
theorem roE_s {R : Rn} {nx lab l z : Nat} {k : Kd} {L : List E} {cs : List C} (h : ∀ c ∈ cs, SimC c) (hr : renL R lab = some l) (h1 : lab < nx) (h3 : find L l = some ⟨l, k, cs⟩) (hz : z = 0 ∨ k.z = some z) : roE R nx L ⟨lab, .ro z, cs⟩ := by
  refine ⟨h1, sim_wf h _, ?_⟩
  show match renL R lab with | some l => _ | none => _
  rw [hr]
  exact ⟨k, _, h3, hz, sim_ren h _⟩
theorem covE_s {R : Rn} {nx lab l : Nat} {L : List E} {cs cs' : List C} {kd : Kd} (h : ∀ c ∈ cs, SimC c) (hr : renL R lab = some l) (h1 : lab < nx) (h3 : find L l = some ⟨l, kd, cs'⟩) (h4 : cs' = cs) : covE R nx L ⟨lab, kd, cs⟩ := by
  subst h4; exact covE_some hr h1 (sim_wf h _) h3 (sim_ren h _)
/-- A row that may be nil, and an error. -/
def optE (t z m : Nat) (cs : List C) (Er : Int) (v : V) (L' : List E) : Prop :=
  ∃ o : C, v = V.tup [A.c o, A.c (C.i Er)] ∧ ((o = C.nil ∧ m = 0 ∧ cs = []) ∨ ∃ lab, o = C.sl lab m ∧ find L' lab = some ⟨lab, .vec t z, cs⟩)
section
variable {P : Program} {n0 nx nac : Nat} {f : FuncId} {vs vs' : List V} {Lc L : List E} {R : Rn} {K : V → List E → Nat → Prop}
theorem CallK.optE {t z m : Nat} {Er : Int} {cs : List C} (hs : ∀ c ∈ cs, SimC c) (spec : Spec P f vs Lc nac (fun v L' _ => optE t z m cs Er v L')) (hok : callB P f = true)
    (hv : renVs R vs = some vs') (hvw : ∀ v ∈ vs, v.wf nac) (hL : roL R nac L Lc) (hLc : injB [] Lc = true)
    (hK : K (V.tup [A.c (.sl nx m), A.c (C.i Er)]) [⟨nx, .vec t z, cs⟩] (nx + 1)) : CallK P n0 f vs' L nx K := by
  refine CallK.mk' hok spec hv hvw hL hLc ?_
  rintro v L' nx' hw ⟨o, rfl, ⟨rfl, rfl, rfl⟩ | ⟨lab, rfl, hf⟩⟩
  · refine ⟨V.tup [A.c (.sl nx 0), A.c (C.i Er)], [⟨nx, .vec t z, []⟩], nx + 1, [(nx, none)], ⟨Nat.le_succ _, ?_, ?_, ⟨covE_nil (renL_one _ _) (Nat.lt_succ_self nx) rfl rfl, trivial⟩, rfl, ?_⟩, hK⟩
    · simp [V.ren, A.ren, C.ren, renL_one, C.i, seqO]
    · simp [V.chk, A.chk, C.chk, inLab_one, C.i]
    · simp only [List.all_cons, List.all_nil, Bool.and_true, inLab_one, Kd.isRo, Bool.not_false]
  · refine ⟨V.tup [A.c (.sl nx m), A.c (C.i Er)], [⟨nx, .vec t z, cs⟩], nx + 1, [(nx, some lab)], ⟨Nat.le_succ _, ?_, ?_, ⟨covE_some (renL_one _ _) (Nat.lt_succ_self nx) (sim_wf hs _) hf (sim_ren hs _), trivial⟩, rfl, ?_⟩, hK⟩
    · simp [V.ren, A.ren, C.ren, renL_one, C.i, seqO]
    · simp [V.chk, A.chk, C.chk, inLab_one, C.i]
    · simp only [List.all_cons, List.all_nil, Bool.and_true, inLab_one, Kd.isRo, Bool.not_false, Bool.true_and]
      exact sim_chk hs _
end
theorem isF_len {n : Nat} {l : List Int} (h : isF n l = true) : l.length = n := by
  simp only [isF, Bool.and_eq_true, decide_eq_true_iff] at h; omega
@[reducible] def kV (N : Int) (ps : List Cell) : V := V.agg [C.i N, C.sl 0 ps.length]
/-- What Right says. -/
def rightO (n : Nat) (qs : List (Nat × Nat)) (l : List Int) : V := if isF n l then V.tup [A.c (.bool (rgtP qs l)), A.c (C.i 0)] else V.tup [A.c .ff, A.c (C.i 71)]
section
variable (N : Int) (ps : List Cell) (l : List Int) (hl : ps.length ≤ 100) (hll : l.length ≤ 300) (hv : okK' N ps = false)
set_option maxRecDepth 10000 in
set_option maxHeartbeats 4000000 in
include hl hv in
set_option maxRecDepth 10000 in
set_option maxHeartbeats 4000000 in
include hl hv in
set_option maxRecDepth 10000 in
set_option maxHeartbeats 4000000 in
include hl hv in
set_option maxRecDepth 10000 in
set_option maxHeartbeats 4000000 in
include hl hv in
set_option maxRecDepth 10000 in
set_option maxHeartbeats 4000000 in
include hl hv in
end
section
variable (n : Nat) (qs : List (Nat × Nat)) (l : List Int) (hk : Knd n qs) (hll : l.length ≤ 300)
set_option maxRecDepth 10000 in
set_option maxHeartbeats 4000000 in
include hk hll in
theorem Right_spec : Spec Tryd.prog 17 [kV n (castP qs), V.c (.sl 1 l.length)] [⟨0, .ro 2, cellC (castP qs)⟩, ⟨1, .ro 0, l.map C.i⟩] 2 (Is (rightO n qs l)) := by
  have hnt := newTable_spec n qs hk
  have htl := tabS_len n qs
  have hfi := filled_spec (tabS n qs) n l hll hk.rng.2
  unfold rightO
  refine Spec.of tok Tryd.func17 rfl rfl rfl fun n0 cx => vc_ok tok ?_
  cases hf : isF n l with
  | false =>
    rw [hf] at hfi
    repeat ((conv => whnf); first | (refine And.intro (by first | omega | exact Nat.le_of_ble_eq_true rfl | (dsimp only [inK]; omega) | (simp only [mulS_eq]; omega) | (simp only [mulS_eq, setL_length]; omega) | (simp only [setL_length]; omega) | (simp only [setL_length, List.length_map]; omega) | (exact ⟨by omega, by omega, by first | exact Nat.le_of_ble_eq_true rfl | (dsimp only; omega) | (simp only [setL_length]; omega) | (simp only [setL_length, List.length_map]; omega)⟩) | (exact ⟨by omega, by first | rfl | omega, by omega, Nat.le_of_ble_eq_true rfl, Nat.le_of_ble_eq_true rfl⟩) | (exact ⟨rfl, rfl, rfl, Nat.le_of_ble_eq_true rfl, by first | rfl | omega | exact Nat.le_of_ble_eq_true rfl | (dsimp only; omega) | (simp; done) | (simp; omega), by first | rfl | omega | exact Nat.le_of_ble_eq_true rfl | (dsimp only; omega) | (simp; done) | (simp; omega), by omega, Nat.le_of_ble_eq_true rfl⟩) | exact Eq.refl true) ?_) | refine Exists.intro _ (And.intro rfl ?_) | refine And.intro (And.intro rfl (chk_rowI _ _ _ _)) ?_ | refine br_t (by omega) ?_ | refine br_f (by omega) ?_ | refine bs_t (by omega) ?_ | refine bs_f (by omega) ?_ | refine fun (K' : K3) hK' => ?_ | (refine hK' _ _ _ ?_; clear hK' K') | refine draw_auto tok mixed (by kernel_rfl) ?_ | refine CallK.rowE (R := []) (flat_u _) hnt (by kernel_rfl) rfl (by simp [V.wf, A.wf, C.wf]) ⟨roE_f (flat_c _) (l := 0) rfl (by omega) rfl (.inr rfl), trivial⟩ rfl ?_ | refine CallK.val (R := [(0, some 3)]) hfi (by kernel_rfl) rfl (by simp [V.wf, A.wf, C.wf]) ⟨roE_f (flat_u _) (l := 3) rfl (by omega) rfl (.inl rfl), roE_f (flat_i _) (l := 1) rfl (by omega) rfl (.inl rfl), trivial⟩ rfl rfl trivial ?_ | refine bs_bt (Eq.refl true) ?_ | refine bs_bf (Eq.refl false) ?_ | refine br_bt (Eq.refl true) ?_ | refine br_bf (Eq.refl false) ?_ | refine CallK.m ?_ | refine Two.l ?_ | refine And.intro (And.intro rfl rfl) ?_)
    intro ρ; rfl
  | true =>
    have hln := isF_len hf
    have hri := right_spec (tabS n qs) n l htl hk.rng.2 (tabS_lt hk.ok) hln
    rw [rgt_eq hk] at hri
    rw [hf] at hfi
    rw [← hln] at hri hfi hnt ⊢
    repeat ((conv => whnf); first | (refine And.intro (by first | omega | exact Nat.le_of_ble_eq_true rfl | (dsimp only [inK]; omega) | (simp only [mulS_eq]; omega) | (simp only [mulS_eq, setL_length]; omega) | (simp only [setL_length]; omega) | (simp only [setL_length, List.length_map]; omega) | (exact ⟨by omega, by omega, by first | exact Nat.le_of_ble_eq_true rfl | (dsimp only; omega) | (simp only [setL_length]; omega) | (simp only [setL_length, List.length_map]; omega)⟩) | (exact ⟨by omega, by first | rfl | omega, by omega, Nat.le_of_ble_eq_true rfl, Nat.le_of_ble_eq_true rfl⟩) | (exact ⟨rfl, rfl, rfl, Nat.le_of_ble_eq_true rfl, by first | rfl | omega | exact Nat.le_of_ble_eq_true rfl | (dsimp only; omega) | (simp; done) | (simp; omega), by first | rfl | omega | exact Nat.le_of_ble_eq_true rfl | (dsimp only; omega) | (simp; done) | (simp; omega), by omega, Nat.le_of_ble_eq_true rfl⟩) | exact Eq.refl true) ?_) | refine Exists.intro _ (And.intro rfl ?_) | refine And.intro (And.intro rfl (chk_rowI _ _ _ _)) ?_ | refine br_t (by omega) ?_ | refine br_f (by omega) ?_ | refine bs_t (by omega) ?_ | refine bs_f (by omega) ?_ | refine fun (K' : K3) hK' => ?_ | (refine hK' _ _ _ ?_; clear hK' K') | refine draw_auto tok mixed (by kernel_rfl) ?_ | refine CallK.rowE (R := []) (flat_u _) hnt (by kernel_rfl) rfl (by simp [V.wf, A.wf, C.wf]) ⟨roE_f (flat_c _) (l := 0) rfl (by omega) rfl (.inr rfl), trivial⟩ rfl ?_ | refine CallK.val (R := [(0, some 3)]) hfi (by kernel_rfl) rfl (by simp [V.wf, A.wf, C.wf]) ⟨roE_f (flat_u _) (l := 3) rfl (by omega) rfl (.inl rfl), roE_f (flat_i _) (l := 1) rfl (by omega) rfl (.inl rfl), trivial⟩ rfl rfl trivial ?_ | refine CallK.val (R := [(0, some 3)]) hri (by kernel_rfl) rfl (by simp [V.wf, A.wf, C.wf]) ⟨roE_f (flat_u _) (l := 3) rfl (by omega) rfl (.inl rfl), roE_f (flat_i _) (l := 1) rfl (by omega) rfl (.inl rfl), trivial⟩ rfl rfl trivial ?_ | refine bs_bt (Eq.refl true) ?_ | refine bs_bf (Eq.refl false) ?_ | refine br_bt (Eq.refl true) ?_ | refine br_bf (Eq.refl false) ?_ | refine CallK.m ?_ | refine Two.l ?_ | refine And.intro (And.intro rfl rfl) ?_)
    intro ρ; rfl
end
end Go.Proofs.YtijnimgmpocmaaaDoor

/- Waste: Clears, and the document's Right and Clears. -/
namespace Go.Proofs.YtijnimgmpocmaaaDoor
open Go.RowKit
set_option linter.unusedVariables false
set_option linter.unusedSimpArgs false
/-- The order of loading that a filling clears. -/
def clrL (qs : List (Nat × Nat)) (l : List Int) : List Bool := qs.map fun p => decide (l.getD p.1 0 < l.getD p.2 0)
theorem clrL_len (qs : List (Nat × Nat)) (l : List Int) : (clrL qs l).length = qs.length := by simp [clrL]
theorem clrL_take {qs : List (Nat × Nat)} {l : List Int} {k : Nat} (h : k < qs.length) : (clrL (qs.take k) l).map C.bool ++ [C.bool (decide (l.getD (qs.getD k (0, 0)).1 0 < l.getD (qs.getD k (0, 0)).2 0))] = (clrL (qs.take (k + 1)) l).map C.bool := by
  have e : qs[k]?.toList = [qs.getD k (0, 0)] := by rw [List.getD_eq_getElem?_getD, List.getElem?_eq_getElem h]; rfl
  rw [List.take_add_one, e]
  simp [clrL]
section
variable (n : Nat) (qs : List (Nat × Nat)) (l : List Int) (hk : Knd n qs) (hll : l.length ≤ 300)
set_option maxRecDepth 10000 in
set_option maxHeartbeats 4000000 in
include hk hll in
theorem Clears_err (Er : Int) (he : (isF n l = false ∧ Er = 71) ∨ (isF n l = true ∧ rgtP qs l = false ∧ Er = 5)) : Spec Tryd.prog 19 [kV n (castP qs), V.c (.sl 1 l.length)] [⟨0, .ro 2, cellC (castP qs)⟩, ⟨1, .ro 0, l.map C.i⟩] 2 (Is (V.tup [A.c .nil, A.c (C.i Er)])) := by
  have hnt := newTable_spec n qs hk
  have htl := tabS_len n qs
  have hfi := filled_spec (tabS n qs) n l hll hk.rng.2
  refine Spec.of tok Tryd.func19 rfl rfl rfl fun n0 cx => vc_ok tok ?_
  rcases he with ⟨hf, rfl⟩ | ⟨hf, hr, rfl⟩
  · rw [hf] at hfi
    repeat ((conv => whnf); first | (refine And.intro (by first | omega | exact Nat.le_of_ble_eq_true rfl | (dsimp only [inK]; omega) | (simp only [mulS_eq]; omega) | (simp only [mulS_eq, setL_length]; omega) | (simp only [setL_length]; omega) | (simp only [setL_length, List.length_map]; omega) | (exact ⟨by omega, by omega, by first | exact Nat.le_of_ble_eq_true rfl | (dsimp only; omega) | (simp only [setL_length]; omega) | (simp only [setL_length, List.length_map]; omega)⟩) | (exact ⟨by omega, by first | rfl | omega, by omega, Nat.le_of_ble_eq_true rfl, Nat.le_of_ble_eq_true rfl⟩) | (exact ⟨rfl, rfl, rfl, Nat.le_of_ble_eq_true rfl, by first | rfl | omega | exact Nat.le_of_ble_eq_true rfl | (dsimp only; omega) | (simp; done) | (simp; omega), by first | rfl | omega | exact Nat.le_of_ble_eq_true rfl | (dsimp only; omega) | (simp; done) | (simp; omega), by omega, Nat.le_of_ble_eq_true rfl⟩) | exact Eq.refl true) ?_) | refine Exists.intro _ (And.intro rfl ?_) | refine And.intro (And.intro rfl (chk_rowI _ _ _ _)) ?_ | refine br_t (by omega) ?_ | refine br_f (by omega) ?_ | refine bs_t (by omega) ?_ | refine bs_f (by omega) ?_ | refine fun (K' : K3) hK' => ?_ | (refine hK' _ _ _ ?_; clear hK' K') | refine draw_auto tok mixed (by kernel_rfl) ?_ | refine CallK.rowE (R := []) (flat_u _) hnt (by kernel_rfl) rfl (by simp [V.wf, A.wf, C.wf]) ⟨roE_f (flat_c _) (l := 0) rfl (by omega) rfl (.inr rfl), trivial⟩ rfl ?_ | refine CallK.val (R := [(0, some 3)]) hfi (by kernel_rfl) rfl (by simp [V.wf, A.wf, C.wf]) ⟨roE_f (flat_u _) (l := 3) rfl (by omega) rfl (.inl rfl), roE_f (flat_i _) (l := 1) rfl (by omega) rfl (.inl rfl), trivial⟩ rfl rfl trivial ?_ | refine bs_bt (Eq.refl true) ?_ | refine bs_bf (Eq.refl false) ?_ | refine br_bt (Eq.refl true) ?_ | refine br_bf (Eq.refl false) ?_ | refine CallK.m ?_ | refine Two.l ?_ | refine And.intro (And.intro rfl rfl) ?_)
    intro ρ; rfl
  · have hln := isF_len hf
    have hri := right_spec (tabS n qs) n l htl hk.rng.2 (tabS_lt hk.ok) hln
    rw [rgt_eq hk, hr] at hri
    rw [hf] at hfi
    rw [← hln] at hri hfi hnt ⊢
    repeat ((conv => whnf); first | (refine And.intro (by first | omega | exact Nat.le_of_ble_eq_true rfl | (dsimp only [inK]; omega) | (simp only [mulS_eq]; omega) | (simp only [mulS_eq, setL_length]; omega) | (simp only [setL_length]; omega) | (simp only [setL_length, List.length_map]; omega) | (exact ⟨by omega, by omega, by first | exact Nat.le_of_ble_eq_true rfl | (dsimp only; omega) | (simp only [setL_length]; omega) | (simp only [setL_length, List.length_map]; omega)⟩) | (exact ⟨by omega, by first | rfl | omega, by omega, Nat.le_of_ble_eq_true rfl, Nat.le_of_ble_eq_true rfl⟩) | (exact ⟨rfl, rfl, rfl, Nat.le_of_ble_eq_true rfl, by first | rfl | omega | exact Nat.le_of_ble_eq_true rfl | (dsimp only; omega) | (simp; done) | (simp; omega), by first | rfl | omega | exact Nat.le_of_ble_eq_true rfl | (dsimp only; omega) | (simp; done) | (simp; omega), by omega, Nat.le_of_ble_eq_true rfl⟩) | exact Eq.refl true) ?_) | refine Exists.intro _ (And.intro rfl ?_) | refine And.intro (And.intro rfl (chk_rowI _ _ _ _)) ?_ | refine br_t (by omega) ?_ | refine br_f (by omega) ?_ | refine bs_t (by omega) ?_ | refine bs_f (by omega) ?_ | refine fun (K' : K3) hK' => ?_ | (refine hK' _ _ _ ?_; clear hK' K') | refine draw_auto tok mixed (by kernel_rfl) ?_ | refine CallK.rowE (R := []) (flat_u _) hnt (by kernel_rfl) rfl (by simp [V.wf, A.wf, C.wf]) ⟨roE_f (flat_c _) (l := 0) rfl (by omega) rfl (.inr rfl), trivial⟩ rfl ?_ | refine CallK.val (R := [(0, some 3)]) hfi (by kernel_rfl) rfl (by simp [V.wf, A.wf, C.wf]) ⟨roE_f (flat_u _) (l := 3) rfl (by omega) rfl (.inl rfl), roE_f (flat_i _) (l := 1) rfl (by omega) rfl (.inl rfl), trivial⟩ rfl rfl trivial ?_ | refine CallK.val (R := [(0, some 3)]) hri (by kernel_rfl) rfl (by simp [V.wf, A.wf, C.wf]) ⟨roE_f (flat_u _) (l := 3) rfl (by omega) rfl (.inl rfl), roE_f (flat_i _) (l := 1) rfl (by omega) rfl (.inl rfl), trivial⟩ rfl rfl trivial ?_ | refine bs_bt (Eq.refl true) ?_ | refine bs_bf (Eq.refl false) ?_ | refine br_bt (Eq.refl true) ?_ | refine br_bf (Eq.refl false) ?_ | refine CallK.m ?_ | refine Two.l ?_ | refine And.intro (And.intro rfl rfl) ?_)
    intro ρ; rfl
set_option maxRecDepth 10000 in
set_option maxHeartbeats 8000000 in
include hk hll in
theorem Clears_ok (hf : isF n l = true) (hr : rgtP qs l = true) : Spec Tryd.prog 19 [kV n (castP qs), V.c (.sl 1 l.length)] [⟨0, .ro 2, cellC (castP qs)⟩, ⟨1, .ro 0, l.map C.i⟩] 2 (fun v L' _ => optE 4 1 qs.length ((clrL qs l).map C.bool) 0 v L') := by
  have hnt := newTable_spec n qs hk
  have htl := tabS_len n qs
  have hql := knd_len hk
  have hpl := castP_len qs
  have hcl := cellC_len (castP qs)
  have hfi := filled_spec (tabS n qs) n l hll hk.rng.2
  have hln := isF_len hf
  have hri := right_spec (tabS n qs) n l htl hk.rng.2 (tabS_lt hk.ok) hln
  have hlm : (l.map C.i).length = l.length := List.length_map _
  have hn := hk.rng
  rw [rgt_eq hk, hr] at hri
  rw [hf] at hfi
  have hget := fun {k : Nat} (h : k < qs.length) => hk.get h
  rw [← hln] at hri hfi hnt hget ⊢
  refine Spec.of tok Tryd.func19 rfl rfl rfl fun n0 cx => vc_ok tok ?_
  repeat ((conv => whnf); first | (refine And.intro (by first | omega | exact Nat.le_of_ble_eq_true rfl | (dsimp only [inK]; omega) | (simp only [mulS_eq]; omega) | (simp only [mulS_eq, setL_length]; omega) | (simp only [setL_length]; omega) | (simp only [setL_length, List.length_map]; omega) | (exact ⟨by omega, by omega, by first | exact Nat.le_of_ble_eq_true rfl | (dsimp only; omega) | (simp only [setL_length]; omega) | (simp only [setL_length, List.length_map]; omega)⟩) | (exact ⟨by omega, by first | rfl | omega, by omega, Nat.le_of_ble_eq_true rfl, Nat.le_of_ble_eq_true rfl⟩) | (exact ⟨rfl, rfl, rfl, Nat.le_of_ble_eq_true rfl, by first | rfl | omega | exact Nat.le_of_ble_eq_true rfl | (dsimp only; omega) | (simp; done) | (simp; omega), by first | rfl | omega | exact Nat.le_of_ble_eq_true rfl | (dsimp only; omega) | (simp; done) | (simp; omega), by omega, Nat.le_of_ble_eq_true rfl⟩) | exact Eq.refl true) ?_) | refine Exists.intro _ (And.intro rfl ?_) | refine And.intro (And.intro rfl (chk_rowI _ _ _ _)) ?_ | refine br_t (by omega) ?_ | refine br_f (by omega) ?_ | refine bs_t (by omega) ?_ | refine bs_f (by omega) ?_ | refine fun (K' : K3) hK' => ?_ | (refine hK' _ _ _ ?_; clear hK' K') | refine draw_auto tok mixed (by kernel_rfl) ?_ | refine CallK.rowE (R := []) (flat_u _) hnt (by kernel_rfl) rfl (by simp [V.wf, A.wf, C.wf]) ⟨roE_f (flat_c _) (l := 0) rfl (by omega) rfl (.inr rfl), trivial⟩ rfl ?_ | refine CallK.val (R := [(0, some 3)]) hfi (by kernel_rfl) rfl (by simp [V.wf, A.wf, C.wf]) ⟨roE_f (flat_u _) (l := 3) rfl (by omega) rfl (.inl rfl), roE_f (flat_i _) (l := 1) rfl (by omega) rfl (.inl rfl), trivial⟩ rfl rfl trivial ?_ | refine CallK.val (R := [(0, some 3)]) hri (by kernel_rfl) rfl (by simp [V.wf, A.wf, C.wf]) ⟨roE_f (flat_u _) (l := 3) rfl (by omega) rfl (.inl rfl), roE_f (flat_i _) (l := 1) rfl (by omega) rfl (.inl rfl), trivial⟩ rfl rfl trivial ?_ | refine bs_bt (Eq.refl true) ?_ | refine bs_bf (Eq.refl false) ?_ | refine br_bt (Eq.refl true) ?_ | refine br_bf (Eq.refl false) ?_ | refine CallK.m ?_ | refine Two.l ?_ | refine And.intro (And.intro rfl rfl) ?_)
  refine Tri.loop (γ := Nat) (fun k => k ≤ qs.length) (fun k => [(1, V.c (.sl 1 l.length)), (2, V.c (.ptr 2 0)), (4, V.c .nil), (5, V.i 0), (8, V.c (.sl 4 k)), (31, V.c (.sl 0 (castP qs).length)), (32, V.i (castP qs).length), (33, V.i (k : Nat))])
    (fun k => [⟨4, .vec 4 1, (clrL (qs.take k) l).map C.bool⟩, ⟨2, .own 24, [C.i l.length, .sl 0 (castP qs).length]⟩, ⟨0, .ro 2, cellC (castP qs)⟩, ⟨1, .ro 0, l.map C.i⟩]) 5 (fun k => qs.length - k) 0 (R0 := [(4, none)]) ?_ ?_ ?_
  · omega
  · skip
    refine ⟨?_, ?_, rfl, rfl, by first | exact Nat.le_of_ble_eq_true rfl | exact Nat.le_refl _ | omega⟩
    · repeat (first | exact trivial | (refine And.intro (covS_syn (by rfl) rfl (by first | exact trivial | exact Nat.le_of_ble_eq_true rfl | exact hy | (first | ((show ∀ p ∈ (_ : List (Nat × Nat)), p.1 < _); decide) | exact (fun p hp => nomatch hp)) | (show (_ : Nat) < _; omega))) ?_) | refine And.intro (covS_bool rfl rfl (by rfl)) ?_)
    · repeat (first | exact trivial | refine And.intro (covE_s (sim_c _) rfl (Nat.le_of_ble_eq_true rfl) rfl rfl) ?_ | refine And.intro (covE_nil rfl (Nat.le_of_ble_eq_true rfl) rfl rfl) ?_ | (refine And.intro (covE_some rfl (Nat.le_of_ble_eq_true rfl) (by first | exact wf_ints _ _ | exact wf_bools _ _ | first | exact wf_us _ _ | exact wf_cells _ _ | exact wf_bools _ _ | (simp [C.wf]; done) | simp [C.wf]) rfl (by first | exact ren_ints _ _ | exact ren_bools _ _ | exact ren_shares _ _ | rfl)) ?_))
  · intro k hkk
    refine vc_ok tok ?_
    by_cases hlt : k < qs.length
    · have hld := cellT (l := castP qs) (k := k) rfl (by omega)
      change takeC (cellC (castP qs)) (mulS ((k : Nat) : Int).toNat 2) 2 = some [C.i ((castP qs).getD k cz).1, C.i ((castP qs).getD k cz).2] at hld
      rw [castP_get hlt] at hld
      have hsucc := clrL_take (l := l) hlt
      have hpq := hget hlt
      obtain ⟨p, hp⟩ : ∃ p, p = qs.getD k (0, 0) := ⟨_, rfl⟩
      rw [← hp] at hld hsucc hpq
      obtain ⟨a, b⟩ := p
      simp only at hld hsucc hpq
      have hla : (l.map C.i)[mulS ((a : Nat) : Int).toNat 1]? = some (C.i (l.getD a 0)) := intLz rfl (by omega)
      have hlb : (l.map C.i)[mulS ((b : Nat) : Int).toNat 1]? = some (C.i (l.getD b 0)) := intLz rfl (by omega)
      have hcm : ((clrL (qs.take k) l).map C.bool).length = k := by rw [List.length_map, clrL_len, List.length_take]; omega
      repeat ((conv => whnf); first | (refine And.intro (by first | omega | exact Nat.le_of_ble_eq_true rfl | (dsimp only [inK]; omega) | (simp only [mulS_eq]; omega) | (simp only [mulS_eq, setL_length]; omega) | (simp only [setL_length]; omega) | (simp only [setL_length, List.length_map]; omega) | (exact ⟨by omega, by omega, by first | exact Nat.le_of_ble_eq_true rfl | (dsimp only; omega) | (simp only [setL_length]; omega) | (simp only [setL_length, List.length_map]; omega)⟩) | (exact ⟨by omega, by first | rfl | omega, by omega, Nat.le_of_ble_eq_true rfl, Nat.le_of_ble_eq_true rfl⟩) | (exact ⟨rfl, rfl, rfl, Nat.le_of_ble_eq_true rfl, by first | rfl | omega | exact Nat.le_of_ble_eq_true rfl | (dsimp only; omega) | (simp; done) | (simp; omega), by first | rfl | omega | exact Nat.le_of_ble_eq_true rfl | (dsimp only; omega) | (simp; done) | (simp; omega), by omega, Nat.le_of_ble_eq_true rfl⟩) | exact Eq.refl true) ?_) | with_reducible refine ld (hld) ?_ | with_reducible refine ld (hla) ?_ | with_reducible refine ld (hlb) ?_ | refine Exists.intro _ (And.intro rfl ?_) | refine And.intro (And.intro rfl (chk_rowI _ _ _ _)) ?_ | refine br_t (by omega) ?_ | refine br_f (by omega) ?_ | refine bs_t (by omega) ?_ | refine bs_f (by omega) ?_ | refine fun (K' : K3) hK' => ?_ | (refine hK' _ _ _ ?_; clear hK' K') | refine draw_kill [4] tok mixed (by decide +kernel) ?_ | refine draw_auto tok mixed (by kernel_rfl) ?_ | refine And.intro (And.intro rfl (chk_s hsucc (sim_b _) _ _ _)) ?_ | refine bs_bt (Eq.refl true) ?_ | refine bs_bf (Eq.refl false) ?_ | refine br_bt (Eq.refl true) ?_ | refine br_bf (Eq.refl false) ?_ | refine CallK.m ?_ | refine Two.l ?_ | refine And.intro (And.intro rfl rfl) ?_)
      refine ⟨k + 1, [(4, some 7)], by omega, by omega, ?_⟩
      refine ⟨?_, ?_, rfl, rfl, by first | exact Nat.le_of_ble_eq_true rfl | exact Nat.le_refl _ | omega⟩
      · repeat (first | exact trivial | (refine And.intro (covS_syn (by first | rfl | (refine congrArg some (congrArg V.i ?_); omega)) rfl (by first | exact trivial | exact Nat.le_of_ble_eq_true rfl | exact hy | (first | ((show ∀ p ∈ (_ : List (Nat × Nat)), p.1 < _); decide) | exact (fun p hp => nomatch hp)) | (show (_ : Nat) < _; omega))) ?_) | refine And.intro (covS_bool rfl rfl (by rfl)) ?_)
      · repeat (first | exact trivial | refine And.intro (covE_s (sim_b _) rfl (Nat.le_of_ble_eq_true rfl) rfl hsucc) ?_ | refine And.intro (covE_s (sim_c _) rfl (Nat.le_of_ble_eq_true rfl) rfl rfl) ?_ | refine And.intro (covE_nil rfl (Nat.le_of_ble_eq_true rfl) rfl rfl) ?_ | (refine And.intro (covE_some rfl (Nat.le_of_ble_eq_true rfl) (by first | exact wf_ints _ _ | exact wf_bools _ _ | first | exact wf_us _ _ | exact wf_cells _ _ | exact wf_bools _ _ | (simp [C.wf]; done) | simp [C.wf]) rfl (by first | exact ren_ints _ _ | exact ren_bools _ _ | exact ren_shares _ _ | rfl)) ?_))
    · obtain rfl : k = qs.length := by omega
      rw [List.take_length]
      repeat ((conv => whnf); first | (refine And.intro (by first | omega | exact Nat.le_of_ble_eq_true rfl | (dsimp only [inK]; omega) | (simp only [mulS_eq]; omega) | (simp only [mulS_eq, setL_length]; omega) | (simp only [setL_length]; omega) | (simp only [setL_length, List.length_map]; omega) | (exact ⟨by omega, by omega, by first | exact Nat.le_of_ble_eq_true rfl | (dsimp only; omega) | (simp only [setL_length]; omega) | (simp only [setL_length, List.length_map]; omega)⟩) | (exact ⟨by omega, by first | rfl | omega, by omega, Nat.le_of_ble_eq_true rfl, Nat.le_of_ble_eq_true rfl⟩) | (exact ⟨rfl, rfl, rfl, Nat.le_of_ble_eq_true rfl, by first | rfl | omega | exact Nat.le_of_ble_eq_true rfl | (dsimp only; omega) | (simp; done) | (simp; omega), by first | rfl | omega | exact Nat.le_of_ble_eq_true rfl | (dsimp only; omega) | (simp; done) | (simp; omega), by omega, Nat.le_of_ble_eq_true rfl⟩) | exact Eq.refl true) ?_) | refine Exists.intro _ (And.intro rfl ?_) | refine And.intro (And.intro rfl (chk_rowI _ _ _ _)) ?_ | refine br_t (by omega) ?_ | refine br_f (by omega) ?_ | refine bs_t (by omega) ?_ | refine bs_f (by omega) ?_ | refine fun (K' : K3) hK' => ?_ | (refine hK' _ _ _ ?_; clear hK' K') | refine draw_auto tok mixed (by kernel_rfl) ?_ | refine bs_bt (Eq.refl true) ?_ | refine bs_bf (Eq.refl false) ?_ | refine br_bt (Eq.refl true) ?_ | refine br_bf (Eq.refl false) ?_ | refine CallK.m ?_ | refine Two.l ?_ | refine And.intro (And.intro rfl rfl) ?_)
      exact .inr ⟨4, rfl, rfl⟩
set_option maxRecDepth 10000 in
set_option maxHeartbeats 4000000 in
include hk hll in
set_option maxRecDepth 10000 in
set_option maxHeartbeats 4000000 in
include hk hll in
set_option maxRecDepth 10000 in
set_option maxHeartbeats 4000000 in
include hk hll in
set_option maxRecDepth 10000 in
set_option maxHeartbeats 8000000 in
include hk hll in
end
end Go.Proofs.YtijnimgmpocmaaaDoor

/- Waste, plain: a right filling clears a right order of loading. -/
namespace Go.Proofs.YtijnimgmpocmaaaDoor
open Go.RowKit
set_option linter.unusedVariables false
set_option linter.unusedSimpArgs false
theorem getD_setN (t : List Nat) (i v k : Nat) : (t.set i v).getD k 0 = if i = k ∧ k < t.length then v else t.getD k 0 := getD_set t i v k
theorem dif_zero {s f : Nat} (h : ∀ b, s.testBit b = true → f.testBit b = true) : dif s f = 0 := by
  apply Nat.eq_of_testBit_eq; intro b
  rw [Nat.zero_testBit, dif_bit]
  cases hs : s.testBit b with
  | false => rfl
  | true => rw [h b hs]; rfl
theorem dif_zero_iff {s f : Nat} : dif s f = 0 ↔ ∀ b, s.testBit b = true → f.testBit b = true := by
  refine ⟨fun h b hb => ?_, dif_zero⟩
  have := dif_bit s f b
  rw [h, Nat.zero_testBit, hb] at this
  simpa using this.symm
theorem ldA_mono (t : List Nat) (L : Nat) {b : Nat} : ∀ (a a' : Nat), a ≤ a' → (ldA t L a).testBit b = true → (ldA t L a').testBit b = true
  | a, 0, h, hb => by obtain rfl : a = 0 := by omega
                      exact hb
  | a, a' + 1, h, hb => by
    rcases Nat.lt_or_ge a (a' + 1) with h1 | h1
    · have := ldA_mono t L a a' (by omega) hb
      simp only [ldA]
      split
      · rw [Nat.testBit_or, this]; rfl
      · exact this
    · obtain rfl : a = a' + 1 := by omega
      exact hb
theorem ldA_set {t : List Nat} {L a n : Nat} (ha : a < n) (h : ∀ b, (t.getD a 0).testBit b = true → (ldA t L a).testBit b = true) : (ldA t L n).testBit a = true := by
  refine ldA_mono t L (a + 1) n ha ?_
  simp only [ldA]
  rw [if_pos (dif_zero h), Nat.testBit_or, Nat.testBit_two_pow_self]; simp
theorem ldA_high {t : List Nat} {L n b : Nat} (hL : L.testBit b = true → b < n) : ∀ a, a ≤ n → (ldA t L a).testBit b = true → b < n
  | 0, _, h => hL h
  | a + 1, ha, h => by
    simp only [ldA] at h
    split at h
    · rw [Nat.testBit_or, Nat.testBit_two_pow, Bool.or_eq_true, decide_eq_true_iff] at h
      rcases h with h | h
      · exact ldA_high hL a (by omega) h
      · omega
    · exact ldA_high hL a (by omega) h
theorem ldR_high {t : List Nat} {n b : Nat} : ∀ k, (ldR t n k).testBit b = true → b < n
  | 0, h => by simp [ldR] at h
  | k + 1, h => ldA_high (ldR_high k) n (Nat.le_refl _) h
theorem rank_lt {n : Nat} {l : Nat → Int} {a b : Nat} (hb : b < n) (h : l b < l a) : ((List.range n).filter fun c => decide (l c < l b)).length < ((List.range n).filter fun c => decide (l c < l a)).length := by
  have := nodup_len (l := b :: (List.range n).filter fun c => decide (l c < l b)) (m := (List.range n).filter fun c => decide (l c < l a)) (List.nodup_cons.2 ⟨by simp, List.nodup_range.filter _⟩) fun x hx => by
    rcases List.mem_cons.1 hx with rfl | hx
    · simp [hb, h]
    · simp only [List.mem_filter, List.mem_range, decide_eq_true_iff] at hx ⊢
      exact ⟨hx.1, by omega⟩
  rw [List.length_cons] at this; omega
theorem rank_n {n : Nat} {l : Nat → Int} {a : Nat} (ha : a < n) : ((List.range n).filter fun c => decide (l c < l a)).length < n := by
  have := nodup_len (l := a :: (List.range n).filter fun c => decide (l c < l a)) (m := List.range n) (List.nodup_cons.2 ⟨by simp, List.nodup_range.filter _⟩) fun x hx => by
    rcases List.mem_cons.1 hx with rfl | hx
    · simpa using ha
    · exact (List.mem_filter.1 hx).1
  rw [List.length_cons, List.length_range] at this; omega
theorem ldR_all {t : List Nat} {n : Nat} {l : Nat → Int} (h : ∀ a b, a < n → (t.getD a 0).testBit b = true → b < n ∧ l b < l a) : ∀ k a, a < n → ((List.range n).filter fun c => decide (l c < l a)).length < k → (ldR t n k).testBit a = true
  | 0, a, _, hr => by omega
  | k + 1, a, ha, hr => by
    show (ldA t (ldR t n k) n).testBit a = true
    refine ldA_set ha fun b hb => ?_
    obtain ⟨h1, h2⟩ := h a b ha hb
    have := rank_lt (a := a) h1 h2
    exact ldA_mono t _ 0 a (Nat.zero_le _) (ldR_all h k b h1 (by omega))
theorem bits_all {X n : Nat} (hn : n ≤ 8) (h1 : ∀ a, a < n → X.testBit a = true) (h2 : ∀ b, X.testBit b = true → b < n) : (bitsL X).length = n := by
  have a := nodup_len (bitsL_nodup X) (m := List.range n) fun b hb => List.mem_range.2 (h2 b (mem_bitsL.1 hb).2)
  have b := nodup_len (List.nodup_range (n := n)) (m := bitsL X) fun b hb => by
    have := List.mem_range.1 hb
    exact mem_bitsL.2 ⟨by omega, h1 b this⟩
  rw [List.length_range] at a b
  omega
/-- Orders that rise by some numbers are right. -/
theorem isLd_rise {n : Nat} {qs : List (Nat × Nat)} (hk : Knd n qs) {bs : List Bool} {l : Nat → Int} (h : ∀ k, k < qs.length → if bs.getD k false = true then l (qs.getD k (0, 0)).1 < l (qs.getD k (0, 0)).2 else l (qs.getD k (0, 0)).2 < l (qs.getD k (0, 0)).1) : isLd n qs bs = true := by
  have key : ∀ k, k ≤ qs.length → ∀ a b, ((fstK n qs bs k).getD a 0).testBit b = true → b < n ∧ l b < l a := by
    intro k
    induction k with
    | zero =>
      intro _ a b hb
      simp only [fstK] at hb
      rw [List.getD_eq_getElem?_getD, List.getElem?_replicate] at hb
      split at hb <;> simp at hb
    | succ k ih =>
      intro hkk a b hb
      have hp := hk.ok _ (getD_mem (show k < qs.length by omega))
      have hh := h k (by omega)
      have ih := ih (by omega)
      simp only [fstK, fst1] at hb
      split at hb
      · rename_i hbs
        rw [if_pos hbs] at hh
        rw [getD_setN] at hb
        split at hb
        · rename_i he
          rw [Nat.testBit_or, Nat.testBit_two_pow, Bool.or_eq_true, decide_eq_true_iff] at hb
          rcases hb with hb | hb
          · rw [← he.1]; exact ih _ b hb
          · rw [← hb, ← he.1]; exact ⟨by omega, hh⟩
        · exact ih a b hb
      · rename_i hbs
        rw [if_neg hbs] at hh
        rw [getD_setN] at hb
        split at hb
        · rename_i he
          rw [Nat.testBit_or, Nat.testBit_two_pow, Bool.or_eq_true, decide_eq_true_iff] at hb
          rcases hb with hb | hb
          · rw [← he.1]; exact ih _ b hb
          · rw [← hb, ← he.1]; exact ⟨by omega, hh⟩
        · exact ih a b hb
  unfold isLd
  rw [decide_eq_true_iff]
  have := bits_all (X := ldR (fstK n qs bs qs.length) n n) hk.rng.2 (fun a ha => ldR_all (l := l) (fun a b _ hb => key _ (Nat.le_refl _) a b hb) n a ha (rank_n ha)) (fun b hb => ldR_high n hb)
  rw [this]
theorem clears_right {n : Nat} {qs : List (Nat × Nat)} (hk : Knd n qs) {l : List Int} (hr : rgtP qs l = true) : isLd n qs (clrL qs l) = true := by
  refine isLd_rise (l := fun a => l.getD a 0) hk fun k hkl => ?_
  have hg : (clrL qs l).getD k false = decide (l.getD (qs.getD k (0, 0)).1 0 < l.getD (qs.getD k (0, 0)).2 0) := by
    simp [clrL, List.getD_eq_getElem?_getD, hkl]
  unfold rgtP at hr
  rw [List.all_eq_true] at hr
  have h1 := hr _ (getD_mem hkl)
  simp only [Bool.not_eq_true', decide_eq_false_iff_not] at h1
  rw [hg]
  by_cases h : l.getD (qs.getD k (0, 0)).1 0 < l.getD (qs.getD k (0, 0)).2 0
  · rw [decide_eq_true h, if_pos rfl]; exact h
  · rw [decide_eq_false h, if_neg (by simp)]; show l.getD (qs.getD k (0, 0)).2 0 < l.getD (qs.getD k (0, 0)).1 0; omega
end Go.Proofs.YtijnimgmpocmaaaDoor

/- Waste, plain: orders of loading in rounds. -/
namespace Go.Proofs.YtijnimgmpocmaaaDoor
open Go.RowKit
set_option linter.unusedVariables false
set_option linter.unusedSimpArgs false
/-- The pair by number: who is first, who is second. -/
def prd (qs : List (Nat × Nat)) (bs : List Bool) (i : Nat) : Nat × Nat := if bs.getD i false = true then qs.getD i (0, 0) else ((qs.getD i (0, 0)).2, (qs.getD i (0, 0)).1)
def okJ (qs : List (Nat × Nat)) (bs : List Bool) (f : Nat → Bool) (a : Nat) : Nat → Bool
  | 0 => true
  | i + 1 => okJ qs bs f a i && (!decide ((prd qs bs i).2 = a) || f (prd qs bs i).1)
def jac (qs : List (Nat × Nat)) (bs : List Bool) : Nat → Nat → Bool
  | 0, _ => false
  | r + 1, a => jac qs bs r a || okJ qs bs (jac qs bs r) a qs.length
section
variable {n : Nat} {qs : List (Nat × Nat)} {bs : List Bool}
theorem okJ_iff {f : Nat → Bool} {a : Nat} : ∀ {k : Nat}, okJ qs bs f a k = true ↔ ∀ i, i < k → (prd qs bs i).2 = a → f (prd qs bs i).1 = true
  | 0 => by simp [okJ]
  | k + 1 => by
    simp only [okJ, Bool.and_eq_true, Bool.or_eq_true, Bool.not_eq_true', decide_eq_false_iff_not]
    rw [okJ_iff]
    constructor
    · rintro ⟨h1, h2⟩ i hi he
      rcases Nat.lt_or_ge i k with h | h
      · exact h1 i h he
      · obtain rfl : i = k := by omega
        exact h2.resolve_left (fun h => h he)
    · intro h
      refine ⟨fun i hi he => h i (by omega) he, ?_⟩
      by_cases he : (prd qs bs k).2 = a
      · exact .inr (h k (by omega) he)
      · exact .inl he
theorem jac_succ {r a : Nat} (h : jac qs bs r a = true) : jac qs bs (r + 1) a = true := by simp [jac, h]
theorem jac_mono {r a : Nat} : ∀ {r' : Nat}, r ≤ r' → jac qs bs r a = true → jac qs bs r' a = true
  | 0, h, hj => by obtain rfl : r = 0 := by omega
                   exact hj
  | r' + 1, h, hj => by
    rcases Nat.lt_or_ge r (r' + 1) with h1 | h1
    · exact jac_succ (jac_mono (by omega) hj)
    · obtain rfl : r = r' + 1 := by omega
      exact hj
theorem prd_lt (hk : Knd n qs) {i : Nat} (hi : i < qs.length) : (prd qs bs i).1 < n ∧ (prd qs bs i).2 < n := by
  have := hk.ok _ (getD_mem hi)
  unfold prd
  split
  · omega
  · simp only; omega
theorem fstK_bit (hk : Knd n qs) : ∀ k, k ≤ qs.length → ∀ a b, ((fstK n qs bs k).getD a 0).testBit b = true ↔ ∃ i, i < k ∧ prd qs bs i = (b, a)
  | 0, _, a, b => by
    have : ((List.replicate n 0).getD a 0).testBit b = false := by
      rw [List.getD_eq_getElem?_getD, List.getElem?_replicate]; split <;> simp
    show ((List.replicate n 0).getD a 0).testBit b = true ↔ _
    rw [this]
    exact ⟨fun h => (by cases h), fun ⟨i, hi, _⟩ => by omega⟩
  | k + 1, hkk, a, b => by
    have hp := hk.ok _ (getD_mem (show k < qs.length by omega))
    have ih := fstK_bit hk k (by omega) a b
    have hl := fstK_len n qs bs k
    have step : ((fstK n qs bs (k + 1)).getD a 0).testBit b = true ↔ ((fstK n qs bs k).getD a 0).testBit b = true ∨ prd qs bs k = (b, a) := by
      show ((fst1 (fstK n qs bs k) (qs.getD k (0, 0)) (bs.getD k false)).getD a 0).testBit b = true ↔ _
      unfold fst1 prd
      split
      · rw [getD_setN]
        split
        · rename_i he
          rw [he.1, Nat.testBit_or, Nat.testBit_two_pow, Bool.or_eq_true, decide_eq_true_iff]
          refine or_congr Iff.rfl ⟨fun h => Prod.ext h he.1, fun h => congrArg Prod.fst h⟩
        · rename_i he
          exact ⟨.inl, fun h => h.resolve_right fun e => he ⟨congrArg Prod.snd e, by have := congrArg Prod.snd e; simp only at this; omega⟩⟩
      · rw [getD_setN]
        split
        · rename_i he
          rw [he.1, Nat.testBit_or, Nat.testBit_two_pow, Bool.or_eq_true, decide_eq_true_iff]
          refine or_congr Iff.rfl ⟨fun h => Prod.ext h rfl, fun h => congrArg Prod.fst h⟩
        · rename_i he
          exact ⟨.inl, fun h => h.resolve_right fun e => he ⟨congrArg Prod.snd e, by have := congrArg Prod.snd e; simp only at this; omega⟩⟩
    rw [step, ih]
    constructor
    · rintro (⟨i, hi, h⟩ | h)
      · exact ⟨i, by omega, h⟩
      · exact ⟨k, by omega, h⟩
    · rintro ⟨i, hi, h⟩
      rcases Nat.lt_or_ge i k with h1 | h1
      · exact .inl ⟨i, h1, h⟩
      · obtain rfl : i = k := by omega
        exact .inr h
theorem ldA_sub {t : List Nat} {n L : Nat} {S : Nat → Prop} (hS : ∀ a, a < n → (∀ b, (t.getD a 0).testBit b = true → S b) → S a) (hL : ∀ b, L.testBit b = true → S b) : ∀ a, a ≤ n → ∀ b, (ldA t L a).testBit b = true → S b
  | 0, _, b, h => hL b h
  | a + 1, ha, b, h => by
    simp only [ldA] at h
    split at h
    · rename_i hz
      rw [Nat.testBit_or, Nat.testBit_two_pow, Bool.or_eq_true, decide_eq_true_iff] at h
      rcases h with h | rfl
      · exact ldA_sub hS hL a (by omega) b h
      · exact hS a (by omega) fun b hb => ldA_sub hS hL a (by omega) b (dif_zero_iff.1 hz b hb)
    · exact ldA_sub hS hL a (by omega) b h
theorem ldR_sub {t : List Nat} {n : Nat} {S : Nat → Prop} (hS : ∀ a, a < n → (∀ b, (t.getD a 0).testBit b = true → S b) → S a) : ∀ k b, (ldR t n k).testBit b = true → S b
  | 0, b, h => by simp [ldR] at h
  | k + 1, b, h => ldA_sub hS (ldR_sub hS k) n (Nat.le_refl _) b h
theorem bits_all' {X n : Nat} (h : (bitsL X).length = n) (h2 : ∀ b, X.testBit b = true → b < n) (a : Nat) (ha : a < n) : X.testBit a = true := by
  cases hx : X.testBit a with
  | true => rfl
  | false =>
    exfalso
    have := nodup_len (l := a :: bitsL X) (m := List.range n) (List.nodup_cons.2 ⟨fun hm => by rw [mem_bitsL, hx] at hm; exact absurd hm.2 (by simp), bitsL_nodup X⟩) fun b hb => by
      rcases List.mem_cons.1 hb with rfl | hb
      · simpa using ha
      · exact List.mem_range.2 (h2 b (mem_bitsL.1 hb).2)
    rw [List.length_cons, List.length_range] at this; omega
theorem isLd_iff (hk : Knd n qs) : isLd n qs bs = true ↔ ∀ a, a < n → (ldR (fstK n qs bs qs.length) n n).testBit a = true := by
  unfold isLd
  rw [decide_eq_true_iff]
  refine ⟨fun h a ha => bits_all' (by omega) (fun b hb => ldR_high n hb) a ha, fun h => ?_⟩
  rw [bits_all hk.rng.2 h fun b hb => ldR_high n hb]
def crd (f : Nat → Bool) : Nat → Nat
  | 0 => 0
  | a + 1 => crd f a + if f a then 1 else 0
theorem crd_le (f : Nat → Bool) : ∀ a, crd f a ≤ a
  | 0 => Nat.le_refl _
  | a + 1 => by have := crd_le f a; simp only [crd]; split <;> omega
theorem crd_all {f : Nat → Bool} : ∀ {a}, crd f a = a → ∀ b, b < a → f b = true
  | a + 1, h, b, hb => by
    have h1 := crd_le f a
    simp only [crd] at h
    split at h
    · rcases Nat.lt_or_ge b a with h2 | h2
      · exact crd_all (by omega) b h2
      · obtain rfl : b = a := by omega
        assumption
    · omega
theorem crd_mono {f g : Nat → Bool} : ∀ {a}, (∀ b, b < a → f b = true → g b = true) → crd f a ≤ crd g a
  | 0, _ => Nat.le_refl _
  | a + 1, h => by
    have := crd_mono (a := a) fun b hb => h b (by omega)
    have h2 := h a (by omega)
    simp only [crd]
    cases hf : f a with
    | true => rw [h2 hf]; simp only [if_true]; omega
    | false => simp only [Bool.false_eq_true, if_false]; split <;> omega
theorem crd_lt {f g : Nat → Bool} : ∀ {a}, (∀ b, b < a → f b = true → g b = true) → (∃ b, b < a ∧ f b = false ∧ g b = true) → crd f a < crd g a
  | 0, _, ⟨b, hb, _⟩ => by omega
  | a + 1, h, ⟨b, hb, h1, h2⟩ => by
    have hm := crd_mono (a := a) (f := f) (g := g) fun b hb => h b (by omega)
    have h3 := h a (by omega)
    simp only [crd]
    rcases Nat.lt_or_ge b a with h4 | h4
    · have := crd_lt (a := a) (fun b hb => h b (by omega)) ⟨b, h4, h1, h2⟩
      cases hf : f a with
      | true => rw [h3 hf]; simp only [if_true]; omega
      | false => simp only [Bool.false_eq_true, if_false]; split <;> omega
    · obtain rfl : b = a := by omega
      rw [h1, h2]; simp; omega
theorem jac_grow (n : Nat) : ∀ r, (∃ s, s ≤ r ∧ ∀ a, a < n → jac qs bs (s + 1) a = true → jac qs bs s a = true) ∨ r ≤ crd (jac qs bs r) n
  | 0 => .inr (Nat.zero_le _)
  | r + 1 => by
    rcases jac_grow n r with ⟨s, hs, h⟩ | h
    · exact .inl ⟨s, by omega, h⟩
    · by_cases hx : ∃ b, b < n ∧ jac qs bs r b = false ∧ jac qs bs (r + 1) b = true
      · have := crd_lt (a := n) (f := jac qs bs r) (g := jac qs bs (r + 1)) (fun b _ => jac_succ) hx
        exact .inr (by omega)
      · refine .inl ⟨r, by omega, fun a ha h1 => ?_⟩
        cases h2 : jac qs bs r a with
        | true => rfl
        | false => exact absurd ⟨a, ha, h2, h1⟩ hx
theorem isLd_jac (hk : Knd n qs) : isLd n qs bs = true ↔ ∀ a, a < n → jac qs bs n a = true := by
  rw [isLd_iff hk]
  constructor
  · intro h a ha
    rcases jac_grow (qs := qs) (bs := bs) n n with ⟨s, hs, hst⟩ | hc
    · refine jac_mono hs ?_
      refine ldR_sub (S := fun a => jac qs bs s a = true) (n := n) (t := fstK n qs bs qs.length) (fun a ha hb => hst a ha ?_) n a (h a ha)
      simp only [jac, Bool.or_eq_true]
      refine .inr (okJ_iff.2 fun i hi he => hb _ ((fstK_bit hk _ (Nat.le_refl _) _ _).2 ⟨i, hi, Prod.ext rfl he⟩))
    · have := crd_le (jac qs bs n) n
      exact crd_all (by omega) a ha
  · intro h a ha
    have key : ∀ r a, a < n → jac qs bs r a = true → (ldR (fstK n qs bs qs.length) n r).testBit a = true := by
      intro r
      induction r with
      | zero => intro a _ h; simp [jac] at h
      | succ r ih =>
        intro a ha h
        simp only [jac, Bool.or_eq_true] at h
        show (ldA _ (ldR (fstK n qs bs qs.length) n r) n).testBit a = true
        rcases h with h | h
        · exact ldA_mono _ _ 0 n (Nat.zero_le _) (ih a ha h)
        · refine ldA_set ha fun b hb => ldA_mono _ _ 0 a (Nat.zero_le _) ?_
          obtain ⟨i, hi, he⟩ := (fstK_bit hk _ (Nat.le_refl _) _ _).1 hb
          have h1 := okJ_iff.1 h i hi (by rw [he])
          have h2 := (prd_lt (bs := bs) hk hi).1
          rw [he] at h1 h2
          exact ih b h2 h1
    exact key n a ha (h a ha)
def cntJ (qs : List (Nat × Nat)) (bs : List Bool) (x : Nat) : Nat → Nat
  | 0 => 0
  | m + 1 => cntJ qs bs x m + if jac qs bs m x then 0 else 1
theorem jac_pred {i a : Nat} (hi : i < qs.length) (he : (prd qs bs i).2 = a) : ∀ r, jac qs bs (r + 1) a = true → jac qs bs r (prd qs bs i).1 = true
  | 0, h => by
    simp only [jac, Bool.or_eq_true] at h
    rcases h with h | h
    · cases h
    · exact okJ_iff.1 h i hi he
  | r + 1, h => by
    have h' : jac qs bs (r + 1) a = true ∨ okJ qs bs (jac qs bs (r + 1)) a qs.length = true := by
      rw [← Bool.or_eq_true]; exact h
    rcases h' with h | h
    · exact jac_succ (jac_pred hi he r h)
    · exact okJ_iff.1 h i hi he
theorem cntJ_lt {i a : Nat} (hi : i < qs.length) (he : (prd qs bs i).2 = a) : ∀ m, 1 + cntJ qs bs (prd qs bs i).1 m ≤ cntJ qs bs a (m + 1)
  | 0 => by simp [cntJ, jac]
  | m + 1 => by
    have ih := cntJ_lt hi he m
    have h := jac_pred hi he m
    show 1 + (cntJ qs bs (prd qs bs i).1 m + if jac qs bs m (prd qs bs i).1 then 0 else 1) ≤ cntJ qs bs a (m + 1) + if jac qs bs (m + 1) a then 0 else 1
    cases h1 : jac qs bs (m + 1) a with
    | true => rw [h h1]; simp; omega
    | false => split <;> simp <;> omega
/-- The other way round, a right order is right. -/
theorem isLd_neg (hk : Knd n qs) {cs : List Bool} (hc : ∀ i, i < qs.length → cs.getD i false = !bs.getD i false) (h : isLd n qs bs = true) : isLd n qs cs = true := by
  have hj := (isLd_jac hk).1 h
  refine isLd_rise (l := fun a => -(cntJ qs bs a (n + 1) : Int)) hk fun k hkl => ?_
  have hc := hc k hkl
  have h1 := cntJ_lt (bs := bs) hkl rfl n
  have h2 := hj _ (prd_lt (bs := bs) hk hkl).1
  have h3 : cntJ qs bs (prd qs bs k).1 (n + 1) = cntJ qs bs (prd qs bs k).1 n := by simp [cntJ, h2]
  rw [← h3] at h1
  unfold prd at h1
  cases hb : bs.getD k false with
  | true =>
    rw [hb] at hc h1
    rw [hc]
    simp only [Bool.not_true, Bool.false_eq_true, if_false, if_true] at h1 ⊢
    omega
  | false =>
    rw [hb] at hc h1
    rw [hc]
    simp only [Bool.not_false, Bool.false_eq_true, if_false, if_true] at h1 ⊢
    omega
end
end Go.Proofs.YtijnimgmpocmaaaDoor

/- Waste: the document's IsLoading. -/
namespace Go.Proofs.YtijnimgmpocmaaaDoor
open Go.RowKit
set_option linter.unusedVariables false
set_option linter.unusedSimpArgs false
def fnB (f : Nat → Bool) (n : Nat) : List Bool := (List.range n).map f
theorem fnB_len (f : Nat → Bool) (n : Nat) : (fnB f n).length = n := by simp [fnB]
theorem fnB_get {f : Nat → Bool} {n k : Nat} (h : k < n) : (fnB f n).getD k false = f k := by
  simp [fnB, List.getD_eq_getElem?_getD, h]
theorem fnB_congr {f g : Nat → Bool} {n : Nat} (h : ∀ j, j < n → f j = g j) : fnB f n = fnB g n := List.map_congr_left fun j hj => h j (List.mem_range.1 hj)
theorem fnB_set {f : Nat → Bool} {n k : Nat} {x : Bool} : (fnB f n).set k x = fnB (fun j => if j = k then x else f j) n := by
  apply List.ext_getElem
  · simp [fnB]
  · intro i h1 h2
    simp only [fnB, List.getElem_set, List.getElem_map, List.getElem_range]
    by_cases h : k = i
    · rw [if_pos h, if_pos h.symm]
    · rw [if_neg h, if_neg fun q => h q.symm]
theorem covE_bools {R : Rn} {nx l l' : Nat} {L : List E} {cs' : List C} {bs : List Bool} (hr : renL R l = some l') (h1 : l < nx) (h3 : find L l' = some ⟨l', .vec 4 1, cs'⟩) (h : cs'.map C.toB = bs.map some) : covE R nx L ⟨l, .vec 4 1, bs.map C.bool⟩ :=
  covE_sem hr h1 (wf_bools _ _) h3 (.inl rfl) (fun ρ => den_toB h)
theorem toB_bools (l : List Bool) : (l.map C.bool).map C.toB = l.map some := by
  rw [List.map_map]; rfl
theorem toB_zero (n : Nat) : (repC n [C.ff]).map C.toB = (fnB (fun _ => false) n).map some := by
  rw [show fnB (fun _ => false) n = List.replicate n false by simp [fnB, List.map_const']]
  induction n with
  | zero => rfl
  | succ n ih =>
    have h1 : repC (n + 1) [C.ff] = C.ff :: repC n [C.ff] := rfl
    rw [h1, List.replicate_succ, List.map_cons, List.map_cons, ih]; rfl
theorem toB_set {l : List Bool} {k : Nat} {c : C} {b : Bool} (hc : c.toB = some b) : (setL (l.map C.bool) (mulS ((k : Nat) : Int).toNat 1) [c]).map C.toB = (l.set k b).map some := by
  rw [mulS_eq, Int.toNat_natCast, Nat.mul_one]
  show ((l.map C.bool).set k c).map C.toB = _
  rw [List.map_set, toB_bools, hc, List.map_set]
set_option maxRecDepth 10000 in
set_option maxHeartbeats 16000000 in
theorem risLoading_spec (n : Nat) (qs : List (Nat × Nat)) (hk : Knd n qs) (bs : List Bool) (hbl : bs.length = qs.length) :
    Spec Tryd.prog 71 [kW n (castP qs), V.c (.sl 1 bs.length)] [⟨0, .ro 2, cellC (castP qs)⟩, ⟨1, .ro 0, bs.map C.bool⟩] 2 (Is (V.c (.bool (isLd n qs bs)))) := by
  have hcl := cellC_len (castP qs)
  have hn := hk.rng
  have hql := knd_len hk
  have hpl := castP_len qs
  have hrep : (repC n [C.ff]).map C.toB = (fnB (jac qs bs 0) n).map some := toB_zero n
  have hbm : (bs.map C.bool).length = bs.length := List.length_map _
  refine Spec.of tok Tryd.func71 rfl rfl rfl fun n0 cx => vc_ok tok ?_
  repeat ((conv => whnf); first | (refine And.intro (by first | omega | exact Nat.le_of_ble_eq_true rfl | (dsimp only [inK]; omega) | (simp only [mulS_eq]; omega) | (simp only [mulS_eq, setL_length]; omega) | (simp only [setL_length]; omega) | (simp only [setL_length, List.length_map]; omega) | (exact ⟨by omega, by omega, by first | exact Nat.le_of_ble_eq_true rfl | (dsimp only; omega) | (simp only [setL_length]; omega) | (simp only [setL_length, List.length_map]; omega)⟩) | (exact ⟨by omega, by first | rfl | omega, by omega, Nat.le_of_ble_eq_true rfl, Nat.le_of_ble_eq_true rfl⟩) | (exact ⟨rfl, rfl, rfl, Nat.le_of_ble_eq_true rfl, by first | rfl | omega | exact Nat.le_of_ble_eq_true rfl | (dsimp only; omega) | (simp; done) | (simp; omega), by first | rfl | omega | exact Nat.le_of_ble_eq_true rfl | (dsimp only; omega) | (simp; done) | (simp; omega), by omega, Nat.le_of_ble_eq_true rfl⟩) | exact Eq.refl true) ?_) | refine Exists.intro _ (And.intro rfl ?_) | refine And.intro (And.intro rfl (chk_rowI _ _ _ _)) ?_ | refine br_t (by omega) ?_ | refine br_f (by omega) ?_ | refine bs_t (by omega) ?_ | refine bs_f (by omega) ?_ | refine fun (K' : K3) hK' => ?_ | (refine hK' _ _ _ ?_; clear hK' K') | refine draw_auto tok mixed (by kernel_rfl) ?_ | refine bs_bt (Eq.refl true) ?_ | refine bs_bf (Eq.refl false) ?_ | refine br_bt (Eq.refl true) ?_ | refine br_bf (Eq.refl false) ?_ | refine CallK.m ?_ | refine Two.l ?_ | refine And.intro (And.intro rfl rfl) ?_)
  refine Tri.loop (γ := Nat) (fun r => r ≤ n) (fun r => [(1, V.c (.sl 1 bs.length)), (2, V.c (.ptr 2 0)), (4, V.c .ff), (5, V.c (.sl 3 n)), (19, V.i n), (20, V.i (r : Nat))])
    (fun r => [⟨3, .vec 4 1, (fnB (jac qs bs r) n).map C.bool⟩, ⟨2, .own 24, [C.i n, .sl 0 (castP qs).length]⟩, ⟨0, .ro 2, cellC (castP qs)⟩, ⟨1, .ro 0, bs.map C.bool⟩]) 4 (fun r => n - r) 0 (R0 := []) ?_ ?_ ?_
  · omega
  · skip
    refine ⟨?_, ?_, rfl, rfl, by first | exact Nat.le_of_ble_eq_true rfl | exact Nat.le_refl _ | omega⟩
    · repeat (first | exact trivial | (refine And.intro (covS_syn (by rfl) rfl (by first | exact trivial | exact Nat.le_of_ble_eq_true rfl | exact hy | (first | ((show ∀ p ∈ (_ : List (Nat × Nat)), p.1 < _); decide) | exact (fun p hp => nomatch hp)) | (show (_ : Nat) < _; omega))) ?_) | refine And.intro (covS_bool rfl rfl (by rfl)) ?_)
    · repeat (first | exact trivial | refine And.intro (covE_bools rfl (Nat.le_of_ble_eq_true rfl) rfl hrep) ?_ | (refine And.intro (covE_id (Nat.le_of_ble_eq_true rfl) (by first | exact wf_ints _ _ | exact wf_bools _ _ | first | exact wf_us _ _ | exact wf_cells _ _ | exact wf_bools _ _ | (simp [C.wf]; done) | simp [C.wf]) rfl (by rfl)) ?_))
  · intro r hr
    refine vc_ok tok ?_
    by_cases hlt : r < n
    · have hfl := fnB_len (jac qs bs r) n
      have hfm : ((fnB (jac qs bs r) n).map C.bool).length = n := by rw [List.length_map, hfl]
      repeat ((conv => whnf); first | (refine And.intro (by first | omega | exact Nat.le_of_ble_eq_true rfl | (dsimp only [inK]; omega) | (simp only [mulS_eq]; omega) | (simp only [mulS_eq, setL_length]; omega) | (simp only [setL_length]; omega) | (simp only [setL_length, List.length_map]; omega) | (exact ⟨by omega, by omega, by first | exact Nat.le_of_ble_eq_true rfl | (dsimp only; omega) | (simp only [setL_length]; omega) | (simp only [setL_length, List.length_map]; omega)⟩) | (exact ⟨by omega, by first | rfl | omega, by omega, Nat.le_of_ble_eq_true rfl, Nat.le_of_ble_eq_true rfl⟩) | (exact ⟨rfl, rfl, rfl, Nat.le_of_ble_eq_true rfl, by first | rfl | omega | exact Nat.le_of_ble_eq_true rfl | (dsimp only; omega) | (simp; done) | (simp; omega), by first | rfl | omega | exact Nat.le_of_ble_eq_true rfl | (dsimp only; omega) | (simp; done) | (simp; omega), by omega, Nat.le_of_ble_eq_true rfl⟩) | exact Eq.refl true) ?_) | refine Exists.intro _ (And.intro rfl ?_) | refine And.intro (And.intro rfl (chk_rowI _ _ _ _)) ?_ | refine br_t (by omega) ?_ | refine br_f (by omega) ?_ | refine bs_t (by omega) ?_ | refine bs_f (by omega) ?_ | refine fun (K' : K3) hK' => ?_ | (refine hK' _ _ _ ?_; clear hK' K') | refine draw_auto tok mixed (by kernel_rfl) ?_ | refine bs_bt (Eq.refl true) ?_ | refine bs_bf (Eq.refl false) ?_ | refine br_bt (Eq.refl true) ?_ | refine br_bf (Eq.refl false) ?_ | refine CallK.m ?_ | refine Two.l ?_ | refine And.intro (And.intro rfl rfl) ?_)
      refine Tri.loop (γ := Nat) (fun a => a ≤ n) (fun a => [(1, V.c (.sl 1 bs.length)), (2, V.c (.ptr 2 0)), (4, V.c .ff), (5, V.c (.sl 3 n)), (6, V.c (.sl 5 n)), (19, V.i n), (20, V.i (r : Nat)), (25, V.c (.sl 3 n)), (26, V.i n), (27, V.i (a : Nat))])
        (fun a => [⟨5, .vec 4 1, (fnB (jac qs bs r) n).map C.bool⟩, ⟨3, .vec 4 1, (fnB (fun x => if x < a then jac qs bs (r + 1) x else jac qs bs r x) n).map C.bool⟩, ⟨2, .own 24, [C.i n, .sl 0 (castP qs).length]⟩, ⟨0, .ro 2, cellC (castP qs)⟩, ⟨1, .ro 0, bs.map C.bool⟩]) 6 (fun a => n - a) 0 (R0 := []) ?_ ?_ ?_
      · omega
      · skip
        have hz : fnB (fun x => if x < 0 then jac qs bs (r + 1) x else jac qs bs r x) n = fnB (jac qs bs r) n := fnB_congr fun x _ => by rw [if_neg (by omega)]
        rw [hz]
        have hap : repC 0 [C.ff] ++ List.take (n * 1) ((fnB (jac qs bs r) n).map C.bool) = (fnB (jac qs bs r) n).map C.bool := by
          show [] ++ _ = _
          rw [List.nil_append, Nat.mul_one, List.take_of_length_le (by omega)]
        refine ⟨?_, ?_, rfl, rfl, by first | exact Nat.le_of_ble_eq_true rfl | exact Nat.le_refl _ | omega⟩
        · repeat (first | exact trivial | (refine And.intro (covS_syn (by first | rfl | exact congrArg (fun m => some (V.c (.sl 5 m))) (Nat.zero_add n)) rfl (by first | exact trivial | exact Nat.le_of_ble_eq_true rfl | exact hy | (first | ((show ∀ p ∈ (_ : List (Nat × Nat)), p.1 < _); decide) | exact (fun p hp => nomatch hp)) | (show (_ : Nat) < _; omega))) ?_) | refine And.intro (covS_bool rfl rfl (by rfl)) ?_)
        · repeat (first | exact trivial | (refine And.intro (covE_id (Nat.le_of_ble_eq_true rfl) (by first | exact wf_ints _ _ | exact wf_bools _ _ | first | exact wf_us _ _ | exact wf_cells _ _ | exact wf_bools _ _ | (simp [C.wf]; done) | simp [C.wf]) rfl (by first | rfl | exact hap)) ?_))
      · intro a ha
        refine vc_ok tok ?_
        by_cases han : a < n
        · obtain ⟨l, hl⟩ : ∃ l, l = fnB (fun x => if x < a then jac qs bs (r + 1) x else jac qs bs r x) n := ⟨_, rfl⟩
          have hll : l.length = n := by rw [hl, fnB_len]
          have hla : l.getD a false = jac qs bs r a := by rw [hl, fnB_get han, if_neg (by omega)]
          have hls : l.set a (jac qs bs (r + 1) a) = fnB (fun x => if x < a + 1 then jac qs bs (r + 1) x else jac qs bs r x) n := by
            rw [hl, fnB_set]
            refine fnB_congr fun x _ => ?_
            by_cases h : x = a
            · subst h; rw [if_pos rfl, if_pos (by omega)]
            · rw [if_neg h]
              by_cases h2 : x < a
              · rw [if_pos h2, if_pos (by omega)]
              · rw [if_neg h2, if_neg (by omega)]
          rw [← hl]
          have hlm : (l.map C.bool).length = n := by rw [List.length_map, hll]
          repeat ((conv => whnf); first | (refine And.intro (by first | omega | exact Nat.le_of_ble_eq_true rfl | (dsimp only [inK]; omega) | (simp only [mulS_eq]; omega) | (simp only [mulS_eq, setL_length]; omega) | (simp only [setL_length]; omega) | (simp only [setL_length, List.length_map]; omega) | (exact ⟨by omega, by omega, by first | exact Nat.le_of_ble_eq_true rfl | (dsimp only; omega) | (simp only [setL_length]; omega) | (simp only [setL_length, List.length_map]; omega)⟩) | (exact ⟨by omega, by first | rfl | omega, by omega, Nat.le_of_ble_eq_true rfl, Nat.le_of_ble_eq_true rfl⟩) | (exact ⟨rfl, rfl, rfl, Nat.le_of_ble_eq_true rfl, by first | rfl | omega | exact Nat.le_of_ble_eq_true rfl | (dsimp only; omega) | (simp; done) | (simp; omega), by first | rfl | omega | exact Nat.le_of_ble_eq_true rfl | (dsimp only; omega) | (simp; done) | (simp; omega), by omega, Nat.le_of_ble_eq_true rfl⟩) | exact Eq.refl true) ?_) | refine Exists.intro _ (And.intro rfl ?_) | refine And.intro (And.intro rfl (chk_rowI _ _ _ _)) ?_ | refine br_t (by omega) ?_ | refine br_f (by omega) ?_ | refine bs_t (by omega) ?_ | refine bs_f (by omega) ?_ | refine fun (K' : K3) hK' => ?_ | (refine hK' _ _ _ ?_; clear hK' K') | refine draw_auto tok mixed (by kernel_rfl) ?_ | refine bs_bt (Eq.refl true) ?_ | refine bs_bf (Eq.refl false) ?_ | refine br_bt (Eq.refl true) ?_ | refine br_bf (Eq.refl false) ?_ | refine CallK.m ?_ | refine Two.l ?_ | refine And.intro (And.intro rfl rfl) ?_)
          refine Tri.loop (γ := Nat) (fun i => i ≤ qs.length) (fun i => [(1, V.c (.sl 1 bs.length)), (2, V.c (.ptr 2 0)), (4, V.c .ff), (5, V.c (.sl 3 n)), (6, V.c (.sl 5 n)), (7, V.i (a : Nat)), (8, V.c (.bool (okJ qs bs (jac qs bs r) a i))), (19, V.i n), (20, V.i (r : Nat)), (25, V.c (.sl 3 n)), (26, V.i n), (27, V.i (a : Nat)), (31, V.c (.sl 0 (castP qs).length)), (32, V.i (castP qs).length), (33, V.i (i : Nat))])
            (fun i => [⟨5, .vec 4 1, (fnB (jac qs bs r) n).map C.bool⟩, ⟨3, .vec 4 1, l.map C.bool⟩, ⟨2, .own 24, [C.i n, .sl 0 (castP qs).length]⟩, ⟨0, .ro 2, cellC (castP qs)⟩, ⟨1, .ro 0, bs.map C.bool⟩]) 6 (fun i => qs.length - i) 0 (R0 := []) ?_ ?_ ?_
          · omega
          · skip
            refine ⟨?_, ?_, rfl, rfl, by first | exact Nat.le_of_ble_eq_true rfl | exact Nat.le_refl _ | omega⟩
            · repeat (first | exact trivial | (refine And.intro (covS_syn (by rfl) rfl (by first | exact trivial | exact Nat.le_of_ble_eq_true rfl | exact hy | (first | ((show ∀ p ∈ (_ : List (Nat × Nat)), p.1 < _); decide) | exact (fun p hp => nomatch hp)) | (show (_ : Nat) < _; omega))) ?_) | refine And.intro (covS_bool rfl rfl (by rfl)) ?_)
            · repeat (first | exact trivial | (refine And.intro (covE_id (Nat.le_of_ble_eq_true rfl) (by first | exact wf_ints _ _ | exact wf_bools _ _ | first | exact wf_us _ _ | exact wf_cells _ _ | exact wf_bools _ _ | (simp [C.wf]; done) | simp [C.wf]) rfl (by rfl)) ?_))
          · intro i hi
            refine vc_ok tok ?_
            by_cases hil : i < qs.length
            · have hld := cellT (l := castP qs) (k := i) rfl (by omega)
              change takeC (cellC (castP qs)) (mulS ((i : Nat) : Int).toNat 2) 2 = some [C.i ((castP qs).getD i cz).1, C.i ((castP qs).getD i cz).2] at hld
              rw [castP_get hil] at hld
              have hlb : (bs.map C.bool)[mulS ((i : Nat) : Int).toNat 1]? = some (C.bool (bs.getD i false)) := boolL (by omega)
              have hpl2 := prd_lt (bs := bs) hk hil
              have hsu : okJ qs bs (jac qs bs r) a (i + 1) = (okJ qs bs (jac qs bs r) a i && (!decide ((prd qs bs i).2 = a) || jac qs bs r (prd qs bs i).1)) := rfl
              have hlw : ((fnB (jac qs bs r) n).map C.bool)[mulS (((prd qs bs i).1 : Nat) : Int).toNat 1]? = some (C.bool (jac qs bs r (prd qs bs i).1)) := by
                rw [← fnB_get (f := jac qs bs r) hpl2.1]; exact boolL (by omega)
              obtain ⟨o, ho⟩ : ∃ o, o = okJ qs bs (jac qs bs r) a i := ⟨_, rfl⟩
              rw [← ho] at hsu ⊢
              obtain ⟨w, hw⟩ : ∃ w, w = jac qs bs r (prd qs bs i).1 := ⟨_, rfl⟩
              rw [← hw] at hsu hlw
              obtain ⟨x, hx⟩ : ∃ x, x = (prd qs bs i).1 := ⟨_, rfl⟩
              obtain ⟨y, hy⟩ : ∃ y, y = (prd qs bs i).2 := ⟨_, rfl⟩
              rw [← hx] at hlw hpl2
              rw [← hy] at hsu hpl2
              have hxy : bs.getD i false = true ∧ x = (qs.getD i (0, 0)).1 ∧ y = (qs.getD i (0, 0)).2 ∨ bs.getD i false = false ∧ x = (qs.getD i (0, 0)).2 ∧ y = (qs.getD i (0, 0)).1 := by
                rw [hx, hy]; unfold prd
                cases bs.getD i false with
                | true => left; exact ⟨rfl, rfl, rfl⟩
                | false => right; exact ⟨rfl, rfl, rfl⟩
              clear hx hy hw
              rcases hxy with ⟨hb, hx, hy⟩ | ⟨hb, hx, hy⟩
              · rw [← hx, ← hy] at hld
                rw [hb] at hlb
                cases o with
                | false =>
                  repeat ((conv => whnf); first | (refine And.intro (by first | omega | exact Nat.le_of_ble_eq_true rfl | (dsimp only [inK]; omega) | (simp only [mulS_eq]; omega) | (simp only [mulS_eq, setL_length]; omega) | (simp only [setL_length]; omega) | (simp only [setL_length, List.length_map]; omega) | (exact ⟨by omega, by omega, by first | exact Nat.le_of_ble_eq_true rfl | (dsimp only; omega) | (simp only [setL_length]; omega) | (simp only [setL_length, List.length_map]; omega)⟩) | (exact ⟨by omega, by first | rfl | omega, by omega, Nat.le_of_ble_eq_true rfl, Nat.le_of_ble_eq_true rfl⟩) | (exact ⟨rfl, rfl, rfl, Nat.le_of_ble_eq_true rfl, by first | rfl | omega | exact Nat.le_of_ble_eq_true rfl | (dsimp only; omega) | (simp; done) | (simp; omega), by first | rfl | omega | exact Nat.le_of_ble_eq_true rfl | (dsimp only; omega) | (simp; done) | (simp; omega), by omega, Nat.le_of_ble_eq_true rfl⟩) | exact Eq.refl true) ?_) | with_reducible refine ld (hld) ?_ | with_reducible refine ld (hlb) ?_ | refine Exists.intro _ (And.intro rfl ?_) | refine And.intro (And.intro rfl (chk_rowI _ _ _ _)) ?_ | refine br_t (by omega) ?_ | refine br_f (by omega) ?_ | refine bs_t (by omega) ?_ | refine bs_f (by omega) ?_ | refine fun (K' : K3) hK' => ?_ | (refine hK' _ _ _ ?_; clear hK' K') | refine draw_auto tok mixed (by kernel_rfl) ?_ | refine bs_bt (Eq.refl true) ?_ | refine bs_bf (Eq.refl false) ?_ | refine br_bt (Eq.refl true) ?_ | refine br_bf (Eq.refl false) ?_ | refine CallK.m ?_ | refine Two.l ?_ | refine And.intro (And.intro rfl rfl) ?_)
                  refine ⟨i + 1, [], by omega, by omega, ?_⟩
                  rw [hsu]
                  refine ⟨?_, ?_, rfl, rfl, by first | exact Nat.le_of_ble_eq_true rfl | exact Nat.le_refl _ | omega⟩
                  · repeat (first | exact trivial | (refine And.intro (covS_syn (by first | rfl | (refine congrArg some (congrArg V.i ?_); omega)) rfl (by first | exact trivial | exact Nat.le_of_ble_eq_true rfl | exact hy | (first | ((show ∀ p ∈ (_ : List (Nat × Nat)), p.1 < _); decide) | exact (fun p hp => nomatch hp)) | (show (_ : Nat) < _; omega))) ?_) | refine And.intro (covS_bool rfl rfl (by rfl)) ?_)
                  · repeat (first | exact trivial | (refine And.intro (covE_id (Nat.le_of_ble_eq_true rfl) (by first | exact wf_ints _ _ | exact wf_bools _ _ | first | exact wf_us _ _ | exact wf_cells _ _ | exact wf_bools _ _ | (simp [C.wf]; done) | simp [C.wf]) rfl (by rfl)) ?_))
                | true =>
                  by_cases hya : y = a
                  · have hne : ¬ ((y : Nat) : Int) ≠ (a : Nat) := by omega
                    rw [decide_eq_true hya] at hsu
                    repeat ((conv => whnf); first | (refine And.intro (by first | omega | exact Nat.le_of_ble_eq_true rfl | (dsimp only [inK]; omega) | (simp only [mulS_eq]; omega) | (simp only [mulS_eq, setL_length]; omega) | (simp only [setL_length]; omega) | (simp only [setL_length, List.length_map]; omega) | (exact ⟨by omega, by omega, by first | exact Nat.le_of_ble_eq_true rfl | (dsimp only; omega) | (simp only [setL_length]; omega) | (simp only [setL_length, List.length_map]; omega)⟩) | (exact ⟨by omega, by first | rfl | omega, by omega, Nat.le_of_ble_eq_true rfl, Nat.le_of_ble_eq_true rfl⟩) | (exact ⟨rfl, rfl, rfl, Nat.le_of_ble_eq_true rfl, by first | rfl | omega | exact Nat.le_of_ble_eq_true rfl | (dsimp only; omega) | (simp; done) | (simp; omega), by first | rfl | omega | exact Nat.le_of_ble_eq_true rfl | (dsimp only; omega) | (simp; done) | (simp; omega), by omega, Nat.le_of_ble_eq_true rfl⟩) | exact Eq.refl true) ?_) | with_reducible refine ld (hld) ?_ | with_reducible refine ld (hlb) ?_ | with_reducible refine ld (hlw) ?_ | refine Exists.intro _ (And.intro rfl ?_) | refine And.intro (And.intro rfl (chk_rowI _ _ _ _)) ?_ | refine br_t (by omega) ?_ | refine br_f (by omega) ?_ | refine bs_t (by omega) ?_ | refine bs_f (by omega) ?_ | refine fun (K' : K3) hK' => ?_ | (refine hK' _ _ _ ?_; clear hK' K') | refine draw_auto tok mixed (by kernel_rfl) ?_ | refine bs_f hne ?_ | refine bs_bt (Eq.refl true) ?_ | refine bs_bf (Eq.refl false) ?_ | refine br_bt (Eq.refl true) ?_ | refine br_bf (Eq.refl false) ?_ | refine CallK.m ?_ | refine Two.l ?_ | refine And.intro (And.intro rfl rfl) ?_)
                    refine ⟨i + 1, [], by omega, by omega, ?_⟩
                    rw [hsu]
                    refine ⟨?_, ?_, rfl, rfl, by first | exact Nat.le_of_ble_eq_true rfl | exact Nat.le_refl _ | omega⟩
                    · repeat (first | exact trivial | (refine And.intro (covS_syn (by first | rfl | (refine congrArg some (congrArg V.i ?_); omega)) rfl (by first | exact trivial | exact Nat.le_of_ble_eq_true rfl | exact hy | (first | ((show ∀ p ∈ (_ : List (Nat × Nat)), p.1 < _); decide) | exact (fun p hp => nomatch hp)) | (show (_ : Nat) < _; omega))) ?_) | refine And.intro (covS_bool rfl rfl (by rfl)) ?_)
                    · repeat (first | exact trivial | (refine And.intro (covE_id (Nat.le_of_ble_eq_true rfl) (by first | exact wf_ints _ _ | exact wf_bools _ _ | first | exact wf_us _ _ | exact wf_cells _ _ | exact wf_bools _ _ | (simp [C.wf]; done) | simp [C.wf]) rfl (by rfl)) ?_))
                  · have hne : ((y : Nat) : Int) ≠ (a : Nat) := by omega
                    rw [decide_eq_false hya] at hsu
                    repeat ((conv => whnf); first | (refine And.intro (by first | omega | exact Nat.le_of_ble_eq_true rfl | (dsimp only [inK]; omega) | (simp only [mulS_eq]; omega) | (simp only [mulS_eq, setL_length]; omega) | (simp only [setL_length]; omega) | (simp only [setL_length, List.length_map]; omega) | (exact ⟨by omega, by omega, by first | exact Nat.le_of_ble_eq_true rfl | (dsimp only; omega) | (simp only [setL_length]; omega) | (simp only [setL_length, List.length_map]; omega)⟩) | (exact ⟨by omega, by first | rfl | omega, by omega, Nat.le_of_ble_eq_true rfl, Nat.le_of_ble_eq_true rfl⟩) | (exact ⟨rfl, rfl, rfl, Nat.le_of_ble_eq_true rfl, by first | rfl | omega | exact Nat.le_of_ble_eq_true rfl | (dsimp only; omega) | (simp; done) | (simp; omega), by first | rfl | omega | exact Nat.le_of_ble_eq_true rfl | (dsimp only; omega) | (simp; done) | (simp; omega), by omega, Nat.le_of_ble_eq_true rfl⟩) | exact Eq.refl true) ?_) | with_reducible refine ld (hld) ?_ | with_reducible refine ld (hlb) ?_ | with_reducible refine ld (hlw) ?_ | refine Exists.intro _ (And.intro rfl ?_) | refine And.intro (And.intro rfl (chk_rowI _ _ _ _)) ?_ | refine br_t (by omega) ?_ | refine br_f (by omega) ?_ | refine bs_t (by omega) ?_ | refine bs_f (by omega) ?_ | refine fun (K' : K3) hK' => ?_ | (refine hK' _ _ _ ?_; clear hK' K') | refine draw_auto tok mixed (by kernel_rfl) ?_ | refine bs_t hne ?_ | refine bs_bt (Eq.refl true) ?_ | refine bs_bf (Eq.refl false) ?_ | refine br_bt (Eq.refl true) ?_ | refine br_bf (Eq.refl false) ?_ | refine CallK.m ?_ | refine Two.l ?_ | refine And.intro (And.intro rfl rfl) ?_)
                    refine ⟨i + 1, [], by omega, by omega, ?_⟩
                    rw [hsu]
                    refine ⟨?_, ?_, rfl, rfl, by first | exact Nat.le_of_ble_eq_true rfl | exact Nat.le_refl _ | omega⟩
                    · repeat (first | exact trivial | (refine And.intro (covS_syn (by first | rfl | (refine congrArg some (congrArg V.i ?_); omega)) rfl (by first | exact trivial | exact Nat.le_of_ble_eq_true rfl | exact hy | (first | ((show ∀ p ∈ (_ : List (Nat × Nat)), p.1 < _); decide) | exact (fun p hp => nomatch hp)) | (show (_ : Nat) < _; omega))) ?_) | refine And.intro (covS_bool rfl rfl (by rfl)) ?_)
                    · repeat (first | exact trivial | (refine And.intro (covE_id (Nat.le_of_ble_eq_true rfl) (by first | exact wf_ints _ _ | exact wf_bools _ _ | first | exact wf_us _ _ | exact wf_cells _ _ | exact wf_bools _ _ | (simp [C.wf]; done) | simp [C.wf]) rfl (by rfl)) ?_))
              · rw [← hx, ← hy] at hld
                rw [hb] at hlb
                cases o with
                | false =>
                  repeat ((conv => whnf); first | (refine And.intro (by first | omega | exact Nat.le_of_ble_eq_true rfl | (dsimp only [inK]; omega) | (simp only [mulS_eq]; omega) | (simp only [mulS_eq, setL_length]; omega) | (simp only [setL_length]; omega) | (simp only [setL_length, List.length_map]; omega) | (exact ⟨by omega, by omega, by first | exact Nat.le_of_ble_eq_true rfl | (dsimp only; omega) | (simp only [setL_length]; omega) | (simp only [setL_length, List.length_map]; omega)⟩) | (exact ⟨by omega, by first | rfl | omega, by omega, Nat.le_of_ble_eq_true rfl, Nat.le_of_ble_eq_true rfl⟩) | (exact ⟨rfl, rfl, rfl, Nat.le_of_ble_eq_true rfl, by first | rfl | omega | exact Nat.le_of_ble_eq_true rfl | (dsimp only; omega) | (simp; done) | (simp; omega), by first | rfl | omega | exact Nat.le_of_ble_eq_true rfl | (dsimp only; omega) | (simp; done) | (simp; omega), by omega, Nat.le_of_ble_eq_true rfl⟩) | exact Eq.refl true) ?_) | with_reducible refine ld (hld) ?_ | with_reducible refine ld (hlb) ?_ | refine Exists.intro _ (And.intro rfl ?_) | refine And.intro (And.intro rfl (chk_rowI _ _ _ _)) ?_ | refine br_t (by omega) ?_ | refine br_f (by omega) ?_ | refine bs_t (by omega) ?_ | refine bs_f (by omega) ?_ | refine fun (K' : K3) hK' => ?_ | (refine hK' _ _ _ ?_; clear hK' K') | refine draw_auto tok mixed (by kernel_rfl) ?_ | refine bs_bt (Eq.refl true) ?_ | refine bs_bf (Eq.refl false) ?_ | refine br_bt (Eq.refl true) ?_ | refine br_bf (Eq.refl false) ?_ | refine CallK.m ?_ | refine Two.l ?_ | refine And.intro (And.intro rfl rfl) ?_)
                  refine ⟨i + 1, [], by omega, by omega, ?_⟩
                  rw [hsu]
                  refine ⟨?_, ?_, rfl, rfl, by first | exact Nat.le_of_ble_eq_true rfl | exact Nat.le_refl _ | omega⟩
                  · repeat (first | exact trivial | (refine And.intro (covS_syn (by first | rfl | (refine congrArg some (congrArg V.i ?_); omega)) rfl (by first | exact trivial | exact Nat.le_of_ble_eq_true rfl | exact hy | (first | ((show ∀ p ∈ (_ : List (Nat × Nat)), p.1 < _); decide) | exact (fun p hp => nomatch hp)) | (show (_ : Nat) < _; omega))) ?_) | refine And.intro (covS_bool rfl rfl (by rfl)) ?_)
                  · repeat (first | exact trivial | (refine And.intro (covE_id (Nat.le_of_ble_eq_true rfl) (by first | exact wf_ints _ _ | exact wf_bools _ _ | first | exact wf_us _ _ | exact wf_cells _ _ | exact wf_bools _ _ | (simp [C.wf]; done) | simp [C.wf]) rfl (by rfl)) ?_))
                | true =>
                  by_cases hya : y = a
                  · have hne : ¬ ((y : Nat) : Int) ≠ (a : Nat) := by omega
                    rw [decide_eq_true hya] at hsu
                    repeat ((conv => whnf); first | (refine And.intro (by first | omega | exact Nat.le_of_ble_eq_true rfl | (dsimp only [inK]; omega) | (simp only [mulS_eq]; omega) | (simp only [mulS_eq, setL_length]; omega) | (simp only [setL_length]; omega) | (simp only [setL_length, List.length_map]; omega) | (exact ⟨by omega, by omega, by first | exact Nat.le_of_ble_eq_true rfl | (dsimp only; omega) | (simp only [setL_length]; omega) | (simp only [setL_length, List.length_map]; omega)⟩) | (exact ⟨by omega, by first | rfl | omega, by omega, Nat.le_of_ble_eq_true rfl, Nat.le_of_ble_eq_true rfl⟩) | (exact ⟨rfl, rfl, rfl, Nat.le_of_ble_eq_true rfl, by first | rfl | omega | exact Nat.le_of_ble_eq_true rfl | (dsimp only; omega) | (simp; done) | (simp; omega), by first | rfl | omega | exact Nat.le_of_ble_eq_true rfl | (dsimp only; omega) | (simp; done) | (simp; omega), by omega, Nat.le_of_ble_eq_true rfl⟩) | exact Eq.refl true) ?_) | with_reducible refine ld (hld) ?_ | with_reducible refine ld (hlb) ?_ | with_reducible refine ld (hlw) ?_ | refine Exists.intro _ (And.intro rfl ?_) | refine And.intro (And.intro rfl (chk_rowI _ _ _ _)) ?_ | refine br_t (by omega) ?_ | refine br_f (by omega) ?_ | refine bs_t (by omega) ?_ | refine bs_f (by omega) ?_ | refine fun (K' : K3) hK' => ?_ | (refine hK' _ _ _ ?_; clear hK' K') | refine draw_auto tok mixed (by kernel_rfl) ?_ | refine bs_f hne ?_ | refine bs_bt (Eq.refl true) ?_ | refine bs_bf (Eq.refl false) ?_ | refine br_bt (Eq.refl true) ?_ | refine br_bf (Eq.refl false) ?_ | refine CallK.m ?_ | refine Two.l ?_ | refine And.intro (And.intro rfl rfl) ?_)
                    refine ⟨i + 1, [], by omega, by omega, ?_⟩
                    rw [hsu]
                    refine ⟨?_, ?_, rfl, rfl, by first | exact Nat.le_of_ble_eq_true rfl | exact Nat.le_refl _ | omega⟩
                    · repeat (first | exact trivial | (refine And.intro (covS_syn (by first | rfl | (refine congrArg some (congrArg V.i ?_); omega)) rfl (by first | exact trivial | exact Nat.le_of_ble_eq_true rfl | exact hy | (first | ((show ∀ p ∈ (_ : List (Nat × Nat)), p.1 < _); decide) | exact (fun p hp => nomatch hp)) | (show (_ : Nat) < _; omega))) ?_) | refine And.intro (covS_bool rfl rfl (by rfl)) ?_)
                    · repeat (first | exact trivial | (refine And.intro (covE_id (Nat.le_of_ble_eq_true rfl) (by first | exact wf_ints _ _ | exact wf_bools _ _ | first | exact wf_us _ _ | exact wf_cells _ _ | exact wf_bools _ _ | (simp [C.wf]; done) | simp [C.wf]) rfl (by rfl)) ?_))
                  · have hne : ((y : Nat) : Int) ≠ (a : Nat) := by omega
                    rw [decide_eq_false hya] at hsu
                    repeat ((conv => whnf); first | (refine And.intro (by first | omega | exact Nat.le_of_ble_eq_true rfl | (dsimp only [inK]; omega) | (simp only [mulS_eq]; omega) | (simp only [mulS_eq, setL_length]; omega) | (simp only [setL_length]; omega) | (simp only [setL_length, List.length_map]; omega) | (exact ⟨by omega, by omega, by first | exact Nat.le_of_ble_eq_true rfl | (dsimp only; omega) | (simp only [setL_length]; omega) | (simp only [setL_length, List.length_map]; omega)⟩) | (exact ⟨by omega, by first | rfl | omega, by omega, Nat.le_of_ble_eq_true rfl, Nat.le_of_ble_eq_true rfl⟩) | (exact ⟨rfl, rfl, rfl, Nat.le_of_ble_eq_true rfl, by first | rfl | omega | exact Nat.le_of_ble_eq_true rfl | (dsimp only; omega) | (simp; done) | (simp; omega), by first | rfl | omega | exact Nat.le_of_ble_eq_true rfl | (dsimp only; omega) | (simp; done) | (simp; omega), by omega, Nat.le_of_ble_eq_true rfl⟩) | exact Eq.refl true) ?_) | with_reducible refine ld (hld) ?_ | with_reducible refine ld (hlb) ?_ | with_reducible refine ld (hlw) ?_ | refine Exists.intro _ (And.intro rfl ?_) | refine And.intro (And.intro rfl (chk_rowI _ _ _ _)) ?_ | refine br_t (by omega) ?_ | refine br_f (by omega) ?_ | refine bs_t (by omega) ?_ | refine bs_f (by omega) ?_ | refine fun (K' : K3) hK' => ?_ | (refine hK' _ _ _ ?_; clear hK' K') | refine draw_auto tok mixed (by kernel_rfl) ?_ | refine bs_t hne ?_ | refine bs_bt (Eq.refl true) ?_ | refine bs_bf (Eq.refl false) ?_ | refine br_bt (Eq.refl true) ?_ | refine br_bf (Eq.refl false) ?_ | refine CallK.m ?_ | refine Two.l ?_ | refine And.intro (And.intro rfl rfl) ?_)
                    refine ⟨i + 1, [], by omega, by omega, ?_⟩
                    rw [hsu]
                    refine ⟨?_, ?_, rfl, rfl, by first | exact Nat.le_of_ble_eq_true rfl | exact Nat.le_refl _ | omega⟩
                    · repeat (first | exact trivial | (refine And.intro (covS_syn (by first | rfl | (refine congrArg some (congrArg V.i ?_); omega)) rfl (by first | exact trivial | exact Nat.le_of_ble_eq_true rfl | exact hy | (first | ((show ∀ p ∈ (_ : List (Nat × Nat)), p.1 < _); decide) | exact (fun p hp => nomatch hp)) | (show (_ : Nat) < _; omega))) ?_) | refine And.intro (covS_bool rfl rfl (by rfl)) ?_)
                    · repeat (first | exact trivial | (refine And.intro (covE_id (Nat.le_of_ble_eq_true rfl) (by first | exact wf_ints _ _ | exact wf_bools _ _ | first | exact wf_us _ _ | exact wf_cells _ _ | exact wf_bools _ _ | (simp [C.wf]; done) | simp [C.wf]) rfl (by rfl)) ?_))
            · obtain rfl : i = qs.length := by omega
              have hlv : (l.map C.bool)[mulS ((a : Nat) : Int).toNat 1]? = some (C.bool (jac qs bs r a)) := by rw [← hla]; exact boolL (by omega)
              have hjs : jac qs bs (r + 1) a = (jac qs bs r a || okJ qs bs (jac qs bs r) a qs.length) := rfl
              obtain ⟨o, ho⟩ : ∃ o, o = okJ qs bs (jac qs bs r) a qs.length := ⟨_, rfl⟩
              rw [← ho] at hjs ⊢
              cases hj : jac qs bs r a with
              | true =>
                rw [hj] at hlv hjs
                rw [hjs] at hls
                repeat ((conv => whnf); first | (refine And.intro (by first | omega | exact Nat.le_of_ble_eq_true rfl | (dsimp only [inK]; omega) | (simp only [mulS_eq]; omega) | (simp only [mulS_eq, setL_length]; omega) | (simp only [setL_length]; omega) | (simp only [setL_length, List.length_map]; omega) | (exact ⟨by omega, by omega, by first | exact Nat.le_of_ble_eq_true rfl | (dsimp only; omega) | (simp only [setL_length]; omega) | (simp only [setL_length, List.length_map]; omega)⟩) | (exact ⟨by omega, by first | rfl | omega, by omega, Nat.le_of_ble_eq_true rfl, Nat.le_of_ble_eq_true rfl⟩) | (exact ⟨rfl, rfl, rfl, Nat.le_of_ble_eq_true rfl, by first | rfl | omega | exact Nat.le_of_ble_eq_true rfl | (dsimp only; omega) | (simp; done) | (simp; omega), by first | rfl | omega | exact Nat.le_of_ble_eq_true rfl | (dsimp only; omega) | (simp; done) | (simp; omega), by omega, Nat.le_of_ble_eq_true rfl⟩) | exact Eq.refl true) ?_) | with_reducible refine ld (hlv) ?_ | refine Exists.intro _ (And.intro rfl ?_) | refine And.intro (And.intro rfl (chk_rowI _ _ _ _)) ?_ | refine br_t (by omega) ?_ | refine br_f (by omega) ?_ | refine bs_t (by omega) ?_ | refine bs_f (by omega) ?_ | refine fun (K' : K3) hK' => ?_ | (refine hK' _ _ _ ?_; clear hK' K') | refine draw_auto tok mixed (by kernel_rfl) ?_ | refine bs_bt (Eq.refl true) ?_ | refine bs_bf (Eq.refl false) ?_ | refine br_bt (Eq.refl true) ?_ | refine br_bf (Eq.refl false) ?_ | refine CallK.m ?_ | refine Two.l ?_ | refine And.intro (And.intro rfl rfl) ?_)
                refine ⟨a + 1, [], by omega, by omega, ?_⟩
                rw [← hls]
                refine ⟨?_, ?_, rfl, rfl, by first | exact Nat.le_of_ble_eq_true rfl | exact Nat.le_refl _ | omega⟩
                · repeat (first | exact trivial | (refine And.intro (covS_syn (by first | rfl | (refine congrArg some (congrArg V.i ?_); omega)) rfl (by first | exact trivial | exact Nat.le_of_ble_eq_true rfl | exact hy | (first | ((show ∀ p ∈ (_ : List (Nat × Nat)), p.1 < _); decide) | exact (fun p hp => nomatch hp)) | (show (_ : Nat) < _; omega))) ?_) | refine And.intro (covS_bool rfl rfl (by rfl)) ?_)
                · repeat (first | exact trivial | refine And.intro (covE_bools rfl (Nat.le_of_ble_eq_true rfl) rfl (toB_set rfl)) ?_ | (refine And.intro (covE_id (Nat.le_of_ble_eq_true rfl) (by first | exact wf_ints _ _ | exact wf_bools _ _ | first | exact wf_us _ _ | exact wf_cells _ _ | exact wf_bools _ _ | (simp [C.wf]; done) | simp [C.wf]) rfl (by rfl)) ?_))
              | false =>
                rw [hj] at hlv hjs
                rw [hjs] at hls
                repeat ((conv => whnf); first | (refine And.intro (by first | omega | exact Nat.le_of_ble_eq_true rfl | (dsimp only [inK]; omega) | (simp only [mulS_eq]; omega) | (simp only [mulS_eq, setL_length]; omega) | (simp only [setL_length]; omega) | (simp only [setL_length, List.length_map]; omega) | (exact ⟨by omega, by omega, by first | exact Nat.le_of_ble_eq_true rfl | (dsimp only; omega) | (simp only [setL_length]; omega) | (simp only [setL_length, List.length_map]; omega)⟩) | (exact ⟨by omega, by first | rfl | omega, by omega, Nat.le_of_ble_eq_true rfl, Nat.le_of_ble_eq_true rfl⟩) | (exact ⟨rfl, rfl, rfl, Nat.le_of_ble_eq_true rfl, by first | rfl | omega | exact Nat.le_of_ble_eq_true rfl | (dsimp only; omega) | (simp; done) | (simp; omega), by first | rfl | omega | exact Nat.le_of_ble_eq_true rfl | (dsimp only; omega) | (simp; done) | (simp; omega), by omega, Nat.le_of_ble_eq_true rfl⟩) | exact Eq.refl true) ?_) | with_reducible refine ld (hlv) ?_ | refine Exists.intro _ (And.intro rfl ?_) | refine And.intro (And.intro rfl (chk_rowI _ _ _ _)) ?_ | refine br_t (by omega) ?_ | refine br_f (by omega) ?_ | refine bs_t (by omega) ?_ | refine bs_f (by omega) ?_ | refine fun (K' : K3) hK' => ?_ | (refine hK' _ _ _ ?_; clear hK' K') | refine draw_auto tok mixed (by kernel_rfl) ?_ | refine bs_bt (Eq.refl true) ?_ | refine bs_bf (Eq.refl false) ?_ | refine br_bt (Eq.refl true) ?_ | refine br_bf (Eq.refl false) ?_ | refine CallK.m ?_ | refine Two.l ?_ | refine And.intro (And.intro rfl rfl) ?_)
                refine ⟨a + 1, [], by omega, by omega, ?_⟩
                rw [← hls]
                refine ⟨?_, ?_, rfl, rfl, by first | exact Nat.le_of_ble_eq_true rfl | exact Nat.le_refl _ | omega⟩
                · repeat (first | exact trivial | (refine And.intro (covS_syn (by first | rfl | (refine congrArg some (congrArg V.i ?_); omega)) rfl (by first | exact trivial | exact Nat.le_of_ble_eq_true rfl | exact hy | (first | ((show ∀ p ∈ (_ : List (Nat × Nat)), p.1 < _); decide) | exact (fun p hp => nomatch hp)) | (show (_ : Nat) < _; omega))) ?_) | refine And.intro (covS_bool rfl rfl (by rfl)) ?_)
                · repeat (first | exact trivial | refine And.intro (covE_bools rfl (Nat.le_of_ble_eq_true rfl) rfl (toB_set rfl)) ?_ | (refine And.intro (covE_id (Nat.le_of_ble_eq_true rfl) (by first | exact wf_ints _ _ | exact wf_bools _ _ | first | exact wf_us _ _ | exact wf_cells _ _ | exact wf_bools _ _ | (simp [C.wf]; done) | simp [C.wf]) rfl (by rfl)) ?_))
        · obtain rfl : a = n := by omega
          have hz : fnB (fun x => if x < a then jac qs bs (r + 1) x else jac qs bs r x) a = fnB (jac qs bs (r + 1)) a := fnB_congr fun x hx => by rw [if_pos hx]
          rw [hz]
          repeat ((conv => whnf); first | (refine And.intro (by first | omega | exact Nat.le_of_ble_eq_true rfl | (dsimp only [inK]; omega) | (simp only [mulS_eq]; omega) | (simp only [mulS_eq, setL_length]; omega) | (simp only [setL_length]; omega) | (simp only [setL_length, List.length_map]; omega) | (exact ⟨by omega, by omega, by first | exact Nat.le_of_ble_eq_true rfl | (dsimp only; omega) | (simp only [setL_length]; omega) | (simp only [setL_length, List.length_map]; omega)⟩) | (exact ⟨by omega, by first | rfl | omega, by omega, Nat.le_of_ble_eq_true rfl, Nat.le_of_ble_eq_true rfl⟩) | (exact ⟨rfl, rfl, rfl, Nat.le_of_ble_eq_true rfl, by first | rfl | omega | exact Nat.le_of_ble_eq_true rfl | (dsimp only; omega) | (simp; done) | (simp; omega), by first | rfl | omega | exact Nat.le_of_ble_eq_true rfl | (dsimp only; omega) | (simp; done) | (simp; omega), by omega, Nat.le_of_ble_eq_true rfl⟩) | exact Eq.refl true) ?_) | refine Exists.intro _ (And.intro rfl ?_) | refine And.intro (And.intro rfl (chk_rowI _ _ _ _)) ?_ | refine br_t (by omega) ?_ | refine br_f (by omega) ?_ | refine bs_t (by omega) ?_ | refine bs_f (by omega) ?_ | refine fun (K' : K3) hK' => ?_ | (refine hK' _ _ _ ?_; clear hK' K') | refine draw_auto tok mixed (by kernel_rfl) ?_ | refine bs_bt (Eq.refl true) ?_ | refine bs_bf (Eq.refl false) ?_ | refine br_bt (Eq.refl true) ?_ | refine br_bf (Eq.refl false) ?_ | refine CallK.m ?_ | refine Two.l ?_ | refine And.intro (And.intro rfl rfl) ?_)
          refine ⟨r + 1, [], by omega, by omega, ?_⟩
          refine ⟨?_, ?_, rfl, rfl, by first | exact Nat.le_of_ble_eq_true rfl | exact Nat.le_refl _ | omega⟩
          · repeat (first | exact trivial | (refine And.intro (covS_syn (by first | rfl | (refine congrArg some (congrArg V.i ?_); omega)) rfl (by first | exact trivial | exact Nat.le_of_ble_eq_true rfl | exact hy | (first | ((show ∀ p ∈ (_ : List (Nat × Nat)), p.1 < _); decide) | exact (fun p hp => nomatch hp)) | (show (_ : Nat) < _; omega))) ?_) | refine And.intro (covS_bool rfl rfl (by rfl)) ?_)
          · repeat (first | exact trivial | (refine And.intro (covE_id (Nat.le_of_ble_eq_true rfl) (by first | exact wf_ints _ _ | exact wf_bools _ _ | first | exact wf_us _ _ | exact wf_cells _ _ | exact wf_bools _ _ | (simp [C.wf]; done) | simp [C.wf]) rfl (by rfl)) ?_))
    · obtain rfl : r = n := by omega
      have hfl := fnB_len (jac qs bs r) r
      have hfm : ((fnB (jac qs bs r) r).map C.bool).length = r := by rw [List.length_map, hfl]
      repeat ((conv => whnf); first | (refine And.intro (by first | omega | exact Nat.le_of_ble_eq_true rfl | (dsimp only [inK]; omega) | (simp only [mulS_eq]; omega) | (simp only [mulS_eq, setL_length]; omega) | (simp only [setL_length]; omega) | (simp only [setL_length, List.length_map]; omega) | (exact ⟨by omega, by omega, by first | exact Nat.le_of_ble_eq_true rfl | (dsimp only; omega) | (simp only [setL_length]; omega) | (simp only [setL_length, List.length_map]; omega)⟩) | (exact ⟨by omega, by first | rfl | omega, by omega, Nat.le_of_ble_eq_true rfl, Nat.le_of_ble_eq_true rfl⟩) | (exact ⟨rfl, rfl, rfl, Nat.le_of_ble_eq_true rfl, by first | rfl | omega | exact Nat.le_of_ble_eq_true rfl | (dsimp only; omega) | (simp; done) | (simp; omega), by first | rfl | omega | exact Nat.le_of_ble_eq_true rfl | (dsimp only; omega) | (simp; done) | (simp; omega), by omega, Nat.le_of_ble_eq_true rfl⟩) | exact Eq.refl true) ?_) | refine Exists.intro _ (And.intro rfl ?_) | refine And.intro (And.intro rfl (chk_rowI _ _ _ _)) ?_ | refine br_t (by omega) ?_ | refine br_f (by omega) ?_ | refine bs_t (by omega) ?_ | refine bs_f (by omega) ?_ | refine fun (K' : K3) hK' => ?_ | (refine hK' _ _ _ ?_; clear hK' K') | refine draw_auto tok mixed (by kernel_rfl) ?_ | refine bs_bt (Eq.refl true) ?_ | refine bs_bf (Eq.refl false) ?_ | refine br_bt (Eq.refl true) ?_ | refine br_bf (Eq.refl false) ?_ | refine CallK.m ?_ | refine Two.l ?_ | refine And.intro (And.intro rfl rfl) ?_)
      refine Tri.loop (γ := Nat) (fun k => k ≤ r ∧ ∀ x, x < k → jac qs bs r x = true) (fun k => [(75, V.c (.sl 3 r)), (76, V.i r), (77, V.i (k : Nat))])
        (fun k => [⟨3, .vec 4 1, (fnB (jac qs bs r) r).map C.bool⟩]) 4 (fun k => r - k) 0 (R0 := []) ?_ ?_ ?_
      · exact ⟨by omega, fun x hx => by omega⟩
      · skip
        refine ⟨?_, ?_, rfl, rfl, by first | exact Nat.le_of_ble_eq_true rfl | exact Nat.le_refl _ | omega⟩
        · repeat (first | exact trivial | (refine And.intro (covS_syn (by rfl) rfl (by first | exact trivial | exact Nat.le_of_ble_eq_true rfl | exact hy | (first | ((show ∀ p ∈ (_ : List (Nat × Nat)), p.1 < _); decide) | exact (fun p hp => nomatch hp)) | (show (_ : Nat) < _; omega))) ?_) | refine And.intro (covS_bool rfl rfl (by rfl)) ?_)
        · repeat (first | exact trivial | (refine And.intro (covE_id (Nat.le_of_ble_eq_true rfl) (by first | exact wf_ints _ _ | exact wf_bools _ _ | first | exact wf_us _ _ | exact wf_cells _ _ | exact wf_bools _ _ | (simp [C.wf]; done) | simp [C.wf]) rfl (by rfl)) ?_))
      · rintro k ⟨hkr, hall⟩
        refine vc_ok tok ?_
        by_cases hlk : k < r
        · have hlv : ((fnB (jac qs bs r) r).map C.bool)[mulS ((k : Nat) : Int).toNat 1]? = some (C.bool (jac qs bs r k)) := by
            rw [← fnB_get (f := jac qs bs r) hlk]; exact boolL (by omega)
          cases hj : jac qs bs r k with
          | true =>
            rw [hj] at hlv
            repeat ((conv => whnf); first | (refine And.intro (by first | omega | exact Nat.le_of_ble_eq_true rfl | (dsimp only [inK]; omega) | (simp only [mulS_eq]; omega) | (simp only [mulS_eq, setL_length]; omega) | (simp only [setL_length]; omega) | (simp only [setL_length, List.length_map]; omega) | (exact ⟨by omega, by omega, by first | exact Nat.le_of_ble_eq_true rfl | (dsimp only; omega) | (simp only [setL_length]; omega) | (simp only [setL_length, List.length_map]; omega)⟩) | (exact ⟨by omega, by first | rfl | omega, by omega, Nat.le_of_ble_eq_true rfl, Nat.le_of_ble_eq_true rfl⟩) | (exact ⟨rfl, rfl, rfl, Nat.le_of_ble_eq_true rfl, by first | rfl | omega | exact Nat.le_of_ble_eq_true rfl | (dsimp only; omega) | (simp; done) | (simp; omega), by first | rfl | omega | exact Nat.le_of_ble_eq_true rfl | (dsimp only; omega) | (simp; done) | (simp; omega), by omega, Nat.le_of_ble_eq_true rfl⟩) | exact Eq.refl true) ?_) | with_reducible refine ld (hlv) ?_ | refine Exists.intro _ (And.intro rfl ?_) | refine And.intro (And.intro rfl (chk_rowI _ _ _ _)) ?_ | refine br_t (by omega) ?_ | refine br_f (by omega) ?_ | refine bs_t (by omega) ?_ | refine bs_f (by omega) ?_ | refine fun (K' : K3) hK' => ?_ | (refine hK' _ _ _ ?_; clear hK' K') | refine draw_auto tok mixed (by kernel_rfl) ?_ | refine bs_bt (Eq.refl true) ?_ | refine bs_bf (Eq.refl false) ?_ | refine br_bt (Eq.refl true) ?_ | refine br_bf (Eq.refl false) ?_ | refine CallK.m ?_ | refine Two.l ?_ | refine And.intro (And.intro rfl rfl) ?_)
            refine ⟨k + 1, [], ⟨by omega, fun x hx => ?_⟩, by omega, ?_⟩
            · rcases Nat.lt_or_ge x k with h | h
              · exact hall x h
              · obtain rfl : x = k := by omega
                exact hj
            · skip
              refine ⟨?_, ?_, rfl, rfl, by first | exact Nat.le_of_ble_eq_true rfl | exact Nat.le_refl _ | omega⟩
              · repeat (first | exact trivial | (refine And.intro (covS_syn (by first | rfl | (refine congrArg some (congrArg V.i ?_); omega)) rfl (by first | exact trivial | exact Nat.le_of_ble_eq_true rfl | exact hy | (first | ((show ∀ p ∈ (_ : List (Nat × Nat)), p.1 < _); decide) | exact (fun p hp => nomatch hp)) | (show (_ : Nat) < _; omega))) ?_) | refine And.intro (covS_bool rfl rfl (by rfl)) ?_)
              · repeat (first | exact trivial | (refine And.intro (covE_id (Nat.le_of_ble_eq_true rfl) (by first | exact wf_ints _ _ | exact wf_bools _ _ | first | exact wf_us _ _ | exact wf_cells _ _ | exact wf_bools _ _ | (simp [C.wf]; done) | simp [C.wf]) rfl (by rfl)) ?_))
          | false =>
            rw [hj] at hlv
            have hres : isLd r qs bs = false := by
              rw [Bool.eq_false_iff]; intro h
              have := (isLd_jac hk).1 h k hlk
              rw [hj] at this; cases this
            repeat ((conv => whnf); first | (refine And.intro (by first | omega | exact Nat.le_of_ble_eq_true rfl | (dsimp only [inK]; omega) | (simp only [mulS_eq]; omega) | (simp only [mulS_eq, setL_length]; omega) | (simp only [setL_length]; omega) | (simp only [setL_length, List.length_map]; omega) | (exact ⟨by omega, by omega, by first | exact Nat.le_of_ble_eq_true rfl | (dsimp only; omega) | (simp only [setL_length]; omega) | (simp only [setL_length, List.length_map]; omega)⟩) | (exact ⟨by omega, by first | rfl | omega, by omega, Nat.le_of_ble_eq_true rfl, Nat.le_of_ble_eq_true rfl⟩) | (exact ⟨rfl, rfl, rfl, Nat.le_of_ble_eq_true rfl, by first | rfl | omega | exact Nat.le_of_ble_eq_true rfl | (dsimp only; omega) | (simp; done) | (simp; omega), by first | rfl | omega | exact Nat.le_of_ble_eq_true rfl | (dsimp only; omega) | (simp; done) | (simp; omega), by omega, Nat.le_of_ble_eq_true rfl⟩) | exact Eq.refl true) ?_) | with_reducible refine ld (hlv) ?_ | refine Exists.intro _ (And.intro rfl ?_) | refine And.intro (And.intro rfl (chk_rowI _ _ _ _)) ?_ | refine br_t (by omega) ?_ | refine br_f (by omega) ?_ | refine bs_t (by omega) ?_ | refine bs_f (by omega) ?_ | refine fun (K' : K3) hK' => ?_ | (refine hK' _ _ _ ?_; clear hK' K') | refine draw_auto tok mixed (by kernel_rfl) ?_ | refine bs_bt (Eq.refl true) ?_ | refine bs_bf (Eq.refl false) ?_ | refine br_bt (Eq.refl true) ?_ | refine br_bf (Eq.refl false) ?_ | refine CallK.m ?_ | refine Two.l ?_ | refine And.intro (And.intro rfl rfl) ?_)
            intro ρ; rw [hres]; rfl
        · obtain rfl : k = r := by omega
          have hres : isLd k qs bs = true := (isLd_jac hk).2 hall
          repeat ((conv => whnf); first | (refine And.intro (by first | omega | exact Nat.le_of_ble_eq_true rfl | (dsimp only [inK]; omega) | (simp only [mulS_eq]; omega) | (simp only [mulS_eq, setL_length]; omega) | (simp only [setL_length]; omega) | (simp only [setL_length, List.length_map]; omega) | (exact ⟨by omega, by omega, by first | exact Nat.le_of_ble_eq_true rfl | (dsimp only; omega) | (simp only [setL_length]; omega) | (simp only [setL_length, List.length_map]; omega)⟩) | (exact ⟨by omega, by first | rfl | omega, by omega, Nat.le_of_ble_eq_true rfl, Nat.le_of_ble_eq_true rfl⟩) | (exact ⟨rfl, rfl, rfl, Nat.le_of_ble_eq_true rfl, by first | rfl | omega | exact Nat.le_of_ble_eq_true rfl | (dsimp only; omega) | (simp; done) | (simp; omega), by first | rfl | omega | exact Nat.le_of_ble_eq_true rfl | (dsimp only; omega) | (simp; done) | (simp; omega), by omega, Nat.le_of_ble_eq_true rfl⟩) | exact Eq.refl true) ?_) | refine Exists.intro _ (And.intro rfl ?_) | refine And.intro (And.intro rfl (chk_rowI _ _ _ _)) ?_ | refine br_t (by omega) ?_ | refine br_f (by omega) ?_ | refine bs_t (by omega) ?_ | refine bs_f (by omega) ?_ | refine fun (K' : K3) hK' => ?_ | (refine hK' _ _ _ ?_; clear hK' K') | refine draw_auto tok mixed (by kernel_rfl) ?_ | refine bs_bt (Eq.refl true) ?_ | refine bs_bf (Eq.refl false) ?_ | refine br_bt (Eq.refl true) ?_ | refine br_bf (Eq.refl false) ?_ | refine CallK.m ?_ | refine Two.l ?_ | refine And.intro (And.intro rfl rfl) ?_)
          intro ρ; rw [hres]; rfl
end Go.Proofs.YtijnimgmpocmaaaDoor

/- Waste: the document's IsLoading (whole), At, and powers. -/
namespace Go.Proofs.YtijnimgmpocmaaaDoor
open Go.RowKit
set_option linter.unusedVariables false
set_option linter.unusedSimpArgs false
def rldO (N : Int) (ps : List Cell) (m : Nat) : Option Int := if okK' N ps = true then (if m = ps.length then none else some 2) else some 70
set_option maxRecDepth 10000 in
set_option maxHeartbeats 4000000 in
theorem rIsLoading_spec (n : Nat) (qs : List (Nat × Nat)) (hk : Knd n qs) (bs : List Bool) (hbl : bs.length = qs.length) :
    Spec Tryd.prog 32 [kW n (castP qs), V.c (.sl 1 bs.length)] [⟨0, .ro 2, cellC (castP qs)⟩, ⟨1, .ro 0, bs.map C.bool⟩] 2 (Is (V.tup [A.c (.bool (isLd n qs bs)), A.c (C.i 0)])) := by
  have hql := knd_len hk
  have hpl := castP_len qs
  have hva := rvalid_spec n (castP qs) (by omega)
  rw [knd_ok hk] at hva
  have his := risLoading_spec n qs hk bs hbl
  have hne : ¬ (bs.length : Int) ≠ ((castP qs).length : Int) := by omega
  refine Spec.of tok Tryd.func32 rfl rfl rfl fun n0 cx => vc_ok tok ?_
  repeat ((conv => whnf); first | (refine And.intro (by first | omega | exact Nat.le_of_ble_eq_true rfl | (dsimp only [inK]; omega) | (simp only [mulS_eq]; omega) | (simp only [mulS_eq, setL_length]; omega) | (simp only [setL_length]; omega) | (simp only [setL_length, List.length_map]; omega) | (exact ⟨by omega, by omega, by first | exact Nat.le_of_ble_eq_true rfl | (dsimp only; omega) | (simp only [setL_length]; omega) | (simp only [setL_length, List.length_map]; omega)⟩) | (exact ⟨by omega, by first | rfl | omega, by omega, Nat.le_of_ble_eq_true rfl, Nat.le_of_ble_eq_true rfl⟩) | (exact ⟨rfl, rfl, rfl, Nat.le_of_ble_eq_true rfl, by first | rfl | omega | exact Nat.le_of_ble_eq_true rfl | (dsimp only; omega) | (simp; done) | (simp; omega), by first | rfl | omega | exact Nat.le_of_ble_eq_true rfl | (dsimp only; omega) | (simp; done) | (simp; omega), by omega, Nat.le_of_ble_eq_true rfl⟩) | exact Eq.refl true) ?_) | refine Exists.intro _ (And.intro rfl ?_) | refine And.intro (And.intro rfl (chk_rowI _ _ _ _)) ?_ | refine br_t (by omega) ?_ | refine br_f (by omega) ?_ | refine bs_t (by omega) ?_ | refine bs_f (by omega) ?_ | refine fun (K' : K3) hK' => ?_ | (refine hK' _ _ _ ?_; clear hK' K') | refine draw_auto tok mixed (by kernel_rfl) ?_ | refine CallK.val (R := []) hva (by kernel_rfl) rfl (by simp [V.wf, A.wf, C.wf]) ⟨roE_f (flat_c _) (l := 0) rfl (by omega) rfl (.inr rfl), trivial⟩ rfl rfl trivial ?_ | refine bs_f hne ?_ | refine br_f hne ?_ | refine CallK.val (R := []) his (by kernel_rfl) rfl (by simp [V.wf, A.wf, C.wf]) ⟨roE_f (flat_c _) (l := 0) rfl (by omega) rfl (.inr rfl), roE_s (sim_b _) (l := 1) rfl (by omega) rfl (.inl rfl), trivial⟩ rfl rfl trivial ?_ | refine bs_bt (Eq.refl true) ?_ | refine bs_bf (Eq.refl false) ?_ | refine br_bt (Eq.refl true) ?_ | refine br_bf (Eq.refl false) ?_ | refine CallK.m ?_ | refine Two.l ?_ | refine And.intro (And.intro rfl rfl) ?_)
  intro ρ; rfl
set_option maxRecDepth 10000 in
set_option maxHeartbeats 4000000 in
theorem rAt_spec (f : Nat → Int) (x : Int) (N : Nat) (hN : N ≤ 100) (hB : HornB f x N) : Spec Tryd.prog 27 [V.c (.sl 0 N), V.i x] [⟨0, .ro 0, (fnL f N).map C.i⟩] 1 (Is (V.i (horn f x 0 N))) := by
  have hlm : ((fnL f N).map C.i).length = N := by rw [List.length_map, fnL_len]
  obtain ⟨hx, hf, hh⟩ := hB
  refine Spec.of tok Tryd.func27 rfl rfl rfl fun n0 cx => vc_ok tok ?_
  repeat ((conv => whnf); first | (refine And.intro (by first | omega | exact Nat.le_of_ble_eq_true rfl | (dsimp only [inK]; omega) | (simp only [mulS_eq]; omega) | (simp only [mulS_eq, setL_length]; omega) | (simp only [setL_length]; omega) | (simp only [setL_length, List.length_map]; omega) | (exact ⟨by omega, by omega, by first | exact Nat.le_of_ble_eq_true rfl | (dsimp only; omega) | (simp only [setL_length]; omega) | (simp only [setL_length, List.length_map]; omega)⟩) | (exact ⟨by omega, by first | rfl | omega, by omega, Nat.le_of_ble_eq_true rfl, Nat.le_of_ble_eq_true rfl⟩) | (exact ⟨rfl, rfl, rfl, Nat.le_of_ble_eq_true rfl, by first | rfl | omega | exact Nat.le_of_ble_eq_true rfl | (dsimp only; omega) | (simp; done) | (simp; omega), by first | rfl | omega | exact Nat.le_of_ble_eq_true rfl | (dsimp only; omega) | (simp; done) | (simp; omega), by omega, Nat.le_of_ble_eq_true rfl⟩) | exact Eq.refl true) ?_) | refine Exists.intro _ (And.intro rfl ?_) | refine And.intro (And.intro rfl (chk_rowI _ _ _ _)) ?_ | refine br_t (by omega) ?_ | refine br_f (by omega) ?_ | refine bs_t (by omega) ?_ | refine bs_f (by omega) ?_ | refine fun (K' : K3) hK' => ?_ | (refine hK' _ _ _ ?_; clear hK' K') | refine draw_auto tok mixed (by kernel_rfl) ?_ | refine bs_bt (Eq.refl true) ?_ | refine bs_bf (Eq.refl false) ?_ | refine br_bt (Eq.refl true) ?_ | refine br_bf (Eq.refl false) ?_ | refine CallK.m ?_ | refine Two.l ?_ | refine And.intro (And.intro rfl rfl) ?_)
  refine Tri.loop (γ := Nat) (fun m => m ≤ N) (fun m => [(0, V.c (.sl 0 N)), (1, V.i x), (5, V.i (horn f x m (N - m))), (6, V.i ((m : Int) - 1))])
    (fun m => [⟨0, .ro 0, (fnL f N).map C.i⟩]) 1 (fun m => m) N (R0 := []) ?_ ?_ ?_
  · exact Nat.le_refl _
  · skip
    rw [Nat.sub_self]
    refine ⟨?_, ?_, rfl, rfl, by first | exact Nat.le_of_ble_eq_true rfl | exact Nat.le_refl _ | omega⟩
    · repeat (first | exact trivial | (refine And.intro (covS_syn (by rfl) rfl (by first | exact trivial | exact Nat.le_of_ble_eq_true rfl | exact hy | (first | ((show ∀ p ∈ (_ : List (Nat × Nat)), p.1 < _); decide) | exact (fun p hp => nomatch hp)) | (show (_ : Nat) < _; omega))) ?_) | refine And.intro (covS_bool rfl rfl (by rfl)) ?_)
    · repeat (first | exact trivial | (refine And.intro (covE_id (Nat.le_of_ble_eq_true rfl) (by first | exact wf_ints _ _ | exact wf_bools _ _ | first | exact wf_us _ _ | exact wf_cells _ _ | exact wf_bools _ _ | (simp [C.wf]; done) | simp [C.wf]) rfl (by rfl)) ?_))
  · intro m hm
    refine vc_ok tok ?_
    cases m with
    | zero =>
      have h0 : ¬ (((0 : Nat) : Int) - 1 ≥ 0) := by omega
      repeat ((conv => whnf); first | (refine And.intro (by first | omega | exact Nat.le_of_ble_eq_true rfl | (dsimp only [inK]; omega) | (simp only [mulS_eq]; omega) | (simp only [mulS_eq, setL_length]; omega) | (simp only [setL_length]; omega) | (simp only [setL_length, List.length_map]; omega) | (exact ⟨by omega, by omega, by first | exact Nat.le_of_ble_eq_true rfl | (dsimp only; omega) | (simp only [setL_length]; omega) | (simp only [setL_length, List.length_map]; omega)⟩) | (exact ⟨by omega, by first | rfl | omega, by omega, Nat.le_of_ble_eq_true rfl, Nat.le_of_ble_eq_true rfl⟩) | (exact ⟨rfl, rfl, rfl, Nat.le_of_ble_eq_true rfl, by first | rfl | omega | exact Nat.le_of_ble_eq_true rfl | (dsimp only; omega) | (simp; done) | (simp; omega), by first | rfl | omega | exact Nat.le_of_ble_eq_true rfl | (dsimp only; omega) | (simp; done) | (simp; omega), by omega, Nat.le_of_ble_eq_true rfl⟩) | exact Eq.refl true) ?_) | refine Exists.intro _ (And.intro rfl ?_) | refine And.intro (And.intro rfl (chk_rowI _ _ _ _)) ?_ | refine br_t (by omega) ?_ | refine br_f (by omega) ?_ | refine bs_t (by omega) ?_ | refine bs_f (by omega) ?_ | refine fun (K' : K3) hK' => ?_ | (refine hK' _ _ _ ?_; clear hK' K') | refine draw_auto tok mixed (by kernel_rfl) ?_ | refine bs_f h0 ?_ | refine br_f h0 ?_ | refine bs_bt (Eq.refl true) ?_ | refine bs_bf (Eq.refl false) ?_ | refine br_bt (Eq.refl true) ?_ | refine br_bf (Eq.refl false) ?_ | refine CallK.m ?_ | refine Two.l ?_ | refine And.intro (And.intro rfl rfl) ?_)
      intro ρ; rfl
    | succ k =>
      have hld : ((fnL f N).map C.i)[mulS (((k + 1 : Nat) : Int) - 1).toNat 1]? = some (C.i (f k)) := by
        rw [intLz (k := k) (by omega) (by rw [fnL_len]; omega), fnL_get (by omega)]
      have hst : horn f x k (N - k) = horn f x (k + 1) (N - (k + 1)) * x + f k := by
        rw [show N - k = (N - (k + 1)) + 1 by omega]; rfl
      have h1 := hh (k + 1) hm
      have h2 := hh k (by omega)
      have h3 := mul_bd (A := 100000000000000000) (B := 20) h1 hx (by omega) (by omega)
      have h4 := hf k (by omega)
      rw [hst] at h2
      have hge : ((k + 1 : Nat) : Int) - 1 ≥ 0 := by omega
      have hs1 : ((k + 1 : Nat) : Int) - 1 - 1 = (k : Int) - 1 := by omega
      repeat ((conv => whnf); first | (refine And.intro (by first | omega | exact Nat.le_of_ble_eq_true rfl | (dsimp only [inK]; omega) | (simp only [mulS_eq]; omega) | (simp only [mulS_eq, setL_length]; omega) | (simp only [setL_length]; omega) | (simp only [setL_length, List.length_map]; omega) | (exact ⟨by omega, by omega, by first | exact Nat.le_of_ble_eq_true rfl | (dsimp only; omega) | (simp only [setL_length]; omega) | (simp only [setL_length, List.length_map]; omega)⟩) | (exact ⟨by omega, by first | rfl | omega, by omega, Nat.le_of_ble_eq_true rfl, Nat.le_of_ble_eq_true rfl⟩) | (exact ⟨rfl, rfl, rfl, Nat.le_of_ble_eq_true rfl, by first | rfl | omega | exact Nat.le_of_ble_eq_true rfl | (dsimp only; omega) | (simp; done) | (simp; omega), by first | rfl | omega | exact Nat.le_of_ble_eq_true rfl | (dsimp only; omega) | (simp; done) | (simp; omega), by omega, Nat.le_of_ble_eq_true rfl⟩) | exact Eq.refl true) ?_) | with_reducible refine ld (hld) ?_ | refine Exists.intro _ (And.intro rfl ?_) | refine And.intro (And.intro rfl (chk_rowI _ _ _ _)) ?_ | refine br_t (by omega) ?_ | refine br_f (by omega) ?_ | refine bs_t (by omega) ?_ | refine bs_f (by omega) ?_ | refine fun (K' : K3) hK' => ?_ | (refine hK' _ _ _ ?_; clear hK' K') | refine draw_auto tok mixed (by kernel_rfl) ?_ | refine bs_t hge ?_ | refine br_t hge ?_ | refine bs_bt (Eq.refl true) ?_ | refine bs_bf (Eq.refl false) ?_ | refine br_bt (Eq.refl true) ?_ | refine br_bf (Eq.refl false) ?_ | refine CallK.m ?_ | refine Two.l ?_ | refine And.intro (And.intro rfl rfl) ?_)
      refine ⟨k, [], by omega, by omega, ?_⟩
      rw [hst]
      refine ⟨?_, ?_, rfl, rfl, by first | exact Nat.le_of_ble_eq_true rfl | exact Nat.le_refl _ | omega⟩
      · repeat (first | exact trivial | (refine And.intro (covS_syn (by first | rfl | (refine congrArg some (congrArg V.i ?_); omega) | exact congrArg (fun z => some (V.i z)) hs1) rfl (by first | exact trivial | exact Nat.le_of_ble_eq_true rfl | exact hy | (first | ((show ∀ p ∈ (_ : List (Nat × Nat)), p.1 < _); decide) | exact (fun p hp => nomatch hp)) | (show (_ : Nat) < _; omega))) ?_) | refine And.intro (covS_bool rfl rfl (by rfl)) ?_)
      · repeat (first | exact trivial | (refine And.intro (covE_id (Nat.le_of_ble_eq_true rfl) (by first | exact wf_ints _ _ | exact wf_bools _ _ | first | exact wf_us _ _ | exact wf_cells _ _ | exact wf_bools _ _ | (simp [C.wf]; done) | simp [C.wf]) rfl (by rfl)) ?_))
set_option maxHeartbeats 4000000 in
theorem power_spec (x n : Nat) (hx : x ≤ 20) (hn : n ≤ 8) : Spec Tryd.prog 30 [V.i (x : Nat), V.i (n : Nat)] [] 0 (Is (V.i (((x ^ n : Nat)) : Int))) := by
  have hb : ∀ k, k ≤ 8 → x ^ k ≤ 25600000000 := fun k hk => by
    have h1 : x ^ k ≤ 20 ^ k := Nat.pow_le_pow_left hx k
    have h2 : 20 ^ k ≤ 20 ^ 8 := Nat.pow_le_pow_right (by omega) hk
    omega
  refine Spec.of tok Tryd.func30 rfl rfl rfl fun n0 cx => vc_ok tok ?_
  repeat ((conv => whnf); first | (refine And.intro (by first | omega | exact Nat.le_of_ble_eq_true rfl | (dsimp only [inK]; omega) | (simp only [mulS_eq]; omega) | (simp only [mulS_eq, setL_length]; omega) | (simp only [setL_length]; omega) | (simp only [setL_length, List.length_map]; omega) | (exact ⟨by omega, by omega, by first | exact Nat.le_of_ble_eq_true rfl | (dsimp only; omega) | (simp only [setL_length]; omega) | (simp only [setL_length, List.length_map]; omega)⟩) | (exact ⟨by omega, by first | rfl | omega, by omega, Nat.le_of_ble_eq_true rfl, Nat.le_of_ble_eq_true rfl⟩) | (exact ⟨rfl, rfl, rfl, Nat.le_of_ble_eq_true rfl, by first | rfl | omega | exact Nat.le_of_ble_eq_true rfl | (dsimp only; omega) | (simp; done) | (simp; omega), by first | rfl | omega | exact Nat.le_of_ble_eq_true rfl | (dsimp only; omega) | (simp; done) | (simp; omega), by omega, Nat.le_of_ble_eq_true rfl⟩) | exact Eq.refl true) ?_) | refine Exists.intro _ (And.intro rfl ?_) | refine And.intro (And.intro rfl (chk_rowI _ _ _ _)) ?_ | refine br_t (by omega) ?_ | refine br_f (by omega) ?_ | refine bs_t (by omega) ?_ | refine bs_f (by omega) ?_ | refine fun (K' : K3) hK' => ?_ | (refine hK' _ _ _ ?_; clear hK' K') | refine draw_auto tok mixed (by kernel_rfl) ?_ | refine bs_bt (Eq.refl true) ?_ | refine bs_bf (Eq.refl false) ?_ | refine br_bt (Eq.refl true) ?_ | refine br_bf (Eq.refl false) ?_ | refine CallK.m ?_ | refine Two.l ?_ | refine And.intro (And.intro rfl rfl) ?_)
  refine Tri.loop (γ := Nat) (fun k => k ≤ n) (fun k => [(0, V.i (x : Nat)), (5, V.i ((x ^ k : Nat) : Int)), (6, V.i (n : Nat)), (7, V.i (k : Nat))])
    (fun k => []) 0 (fun k => n - k) 0 (R0 := []) ?_ ?_ ?_
  · omega
  · skip
    refine ⟨?_, ?_, rfl, rfl, by first | exact Nat.le_of_ble_eq_true rfl | exact Nat.le_refl _ | omega⟩
    · repeat (first | exact trivial | (refine And.intro (covS_syn (by rfl) rfl (by first | exact trivial | exact Nat.le_of_ble_eq_true rfl | exact hy | (first | ((show ∀ p ∈ (_ : List (Nat × Nat)), p.1 < _); decide) | exact (fun p hp => nomatch hp)) | (show (_ : Nat) < _; omega))) ?_) | refine And.intro (covS_bool rfl rfl (by rfl)) ?_)
    · repeat (first | exact trivial | (refine And.intro (covE_id (Nat.le_of_ble_eq_true rfl) (by first | exact wf_ints _ _ | exact wf_bools _ _ | first | exact wf_us _ _ | exact wf_cells _ _ | exact wf_bools _ _ | (simp [C.wf]; done) | simp [C.wf]) rfl (by rfl)) ?_))
  · intro k hk
    refine vc_ok tok ?_
    by_cases hlt : k < n
    · have h1 := hb (k + 1) (by omega)
      have h2 : ((x ^ k : Nat) : Int) * (x : Nat) = ((x ^ (k + 1) : Nat) : Int) := by rw [← Int.natCast_mul, Nat.pow_succ]
      obtain ⟨y, hy⟩ : ∃ y, y = x ^ k := ⟨_, rfl⟩
      obtain ⟨z, hz⟩ : ∃ z, z = x ^ (k + 1) := ⟨_, rfl⟩
      rw [← hy, ← hz] at h2
      rw [← hz] at h1
      rw [← hy]
      have h3 : -9223372036854775808 ≤ ((y : Nat) : Int) * (x : Nat) ∧ ((y : Nat) : Int) * (x : Nat) ≤ 9223372036854775807 := by rw [h2]; omega
      repeat ((conv => whnf); first | (refine And.intro (by first | omega | exact Nat.le_of_ble_eq_true rfl | (dsimp only [inK]; omega) | (simp only [mulS_eq]; omega) | (simp only [mulS_eq, setL_length]; omega) | (simp only [setL_length]; omega) | (simp only [setL_length, List.length_map]; omega) | (exact ⟨by omega, by omega, by first | exact Nat.le_of_ble_eq_true rfl | (dsimp only; omega) | (simp only [setL_length]; omega) | (simp only [setL_length, List.length_map]; omega)⟩) | (exact ⟨by omega, by first | rfl | omega, by omega, Nat.le_of_ble_eq_true rfl, Nat.le_of_ble_eq_true rfl⟩) | (exact ⟨rfl, rfl, rfl, Nat.le_of_ble_eq_true rfl, by first | rfl | omega | exact Nat.le_of_ble_eq_true rfl | (dsimp only; omega) | (simp; done) | (simp; omega), by first | rfl | omega | exact Nat.le_of_ble_eq_true rfl | (dsimp only; omega) | (simp; done) | (simp; omega), by omega, Nat.le_of_ble_eq_true rfl⟩) | exact Eq.refl true) ?_) | refine Exists.intro _ (And.intro rfl ?_) | refine And.intro (And.intro rfl (chk_rowI _ _ _ _)) ?_ | refine br_t (by omega) ?_ | refine br_f (by omega) ?_ | refine bs_t (by omega) ?_ | refine bs_f (by omega) ?_ | refine fun (K' : K3) hK' => ?_ | (refine hK' _ _ _ ?_; clear hK' K') | refine draw_auto tok mixed (by kernel_rfl) ?_ | refine And.intro h3 ?_ | refine bs_bt (Eq.refl true) ?_ | refine bs_bf (Eq.refl false) ?_ | refine br_bt (Eq.refl true) ?_ | refine br_bf (Eq.refl false) ?_ | refine CallK.m ?_ | refine Two.l ?_ | refine And.intro (And.intro rfl rfl) ?_)
      refine ⟨k + 1, [], by omega, by omega, ?_⟩
      rw [← hz]
      refine ⟨?_, ?_, rfl, rfl, by first | exact Nat.le_of_ble_eq_true rfl | exact Nat.le_refl _ | omega⟩
      · repeat (first | exact trivial | (refine And.intro (covS_syn (by first | rfl | (refine congrArg some (congrArg V.i ?_); omega) | exact congrArg (fun z => some (V.i z)) h2) rfl (by first | exact trivial | exact Nat.le_of_ble_eq_true rfl | exact hy | (first | ((show ∀ p ∈ (_ : List (Nat × Nat)), p.1 < _); decide) | exact (fun p hp => nomatch hp)) | (show (_ : Nat) < _; omega))) ?_) | refine And.intro (covS_bool rfl rfl (by rfl)) ?_)
      · repeat (first | exact trivial | (refine And.intro (covE_id (Nat.le_of_ble_eq_true rfl) (by first | exact wf_ints _ _ | exact wf_bools _ _ | first | exact wf_us _ _ | exact wf_cells _ _ | exact wf_bools _ _ | (simp [C.wf]; done) | simp [C.wf]) rfl (by rfl)) ?_))
    · obtain rfl : k = n := by omega
      repeat ((conv => whnf); first | (refine And.intro (by first | omega | exact Nat.le_of_ble_eq_true rfl | (dsimp only [inK]; omega) | (simp only [mulS_eq]; omega) | (simp only [mulS_eq, setL_length]; omega) | (simp only [setL_length]; omega) | (simp only [setL_length, List.length_map]; omega) | (exact ⟨by omega, by omega, by first | exact Nat.le_of_ble_eq_true rfl | (dsimp only; omega) | (simp only [setL_length]; omega) | (simp only [setL_length, List.length_map]; omega)⟩) | (exact ⟨by omega, by first | rfl | omega, by omega, Nat.le_of_ble_eq_true rfl, Nat.le_of_ble_eq_true rfl⟩) | (exact ⟨rfl, rfl, rfl, Nat.le_of_ble_eq_true rfl, by first | rfl | omega | exact Nat.le_of_ble_eq_true rfl | (dsimp only; omega) | (simp; done) | (simp; omega), by first | rfl | omega | exact Nat.le_of_ble_eq_true rfl | (dsimp only; omega) | (simp; done) | (simp; omega), by omega, Nat.le_of_ble_eq_true rfl⟩) | exact Eq.refl true) ?_) | refine Exists.intro _ (And.intro rfl ?_) | refine And.intro (And.intro rfl (chk_rowI _ _ _ _)) ?_ | refine br_t (by omega) ?_ | refine br_f (by omega) ?_ | refine bs_t (by omega) ?_ | refine bs_f (by omega) ?_ | refine fun (K' : K3) hK' => ?_ | (refine hK' _ _ _ ?_; clear hK' K') | refine draw_auto tok mixed (by kernel_rfl) ?_ | refine bs_bt (Eq.refl true) ?_ | refine bs_bf (Eq.refl false) ?_ | refine br_bt (Eq.refl true) ?_ | refine br_bf (Eq.refl false) ?_ | refine CallK.m ?_ | refine Two.l ?_ | refine And.intro (And.intro rfl rfl) ?_)
      intro ρ; rfl
end Go.Proofs.YtijnimgmpocmaaaDoor

