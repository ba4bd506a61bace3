/- Texts of the proof, part 5: R1, R2, P4, R3, R4. -/
import Derived.Test.YtbhpnhcdjmcaoaaN4
import Derived.WalkKit
import Derived.Below
import Derived.Laws.OwnMore
import Derived.Maps.AppendAt
import Derived.Laws.IdiomCopy
import Derived.Laws.CopyRow
import Derived.IntWalk
import Derived.StillTail
import Derived.Scope
import Derived.ChangeKeysEq
import Derived.Laws.Small
import Derived.OrdersIn
import Derived.TacticsIn
import Derived.OwnWalkIn
import Derived.RangeFuncNested
import Derived.RangeFuncLeaves
import Derived.RangeFuncRecord
import Derived.Maps.Keyed
import Derived.Maps.RangeRun
import Derived.DeepKeys4
import Derived.Test.YtbhpnhcdjmcaoaaRows
import Derived.KernelRfl
/- Boom, the reference: small functions; neighbours. -/
namespace Go.Proofs.Ytbhpnhcdjmcaoaa
open Go.RowKit
set_option linter.unusedVariables false
set_option linter.unusedSimpArgs false
/-- A chart as the reference's functions take it. -/
@[reducible] def chR (W H : Int) (n : Nat) : V := V.agg [C.i W, C.i H, C.sl 0 n]
def mx (a b : Int) : Int := if b > a then b else a
set_option maxHeartbeats 2000000 in
theorem rvalid_spec (W H : Int) (cs : List Int) (hl : cs.length ≤ 300) : Spec Try.prog 35 [chR W H cs.length] [⟨0, .ro 0, cs.map C.i⟩] 1 (Is (V.c (.bool (okC W H cs)))) := by
  have hlm : (cs.map C.i).length = cs.length := by simp
  refine Spec.of tok Try.func35 rfl rfl rfl fun n0 cx => vc_ok tok ?_
  have hno : (¬ (1 ≤ W ∧ W ≤ 10) ∨ ¬ (1 ≤ H ∧ H ≤ 10) ∨ ¬ (cs.length : Int) = W * H) → okC W H cs = false := fun h => by
    rcases h with h | h | h
    · simp only [okC, dd_f h]; simp
    · simp only [okC, dd_f h]; simp
    · simp only [okC, dd_f h]; simp
  by_cases h1 : W < 1
  · have hf := hno (.inl (by omega))
    repeat ((conv => whnf); first | (refine And.intro (by first | omega | exact Nat.le_of_ble_eq_true rfl | (dsimp only [inK]; omega) | (simp only [mulS_eq]; omega) | (simp only [mulS_eq, setL_length]; omega) | (simp only [setL_length, List.length_map]; omega) | exact ⟨by omega, by omega, by first | exact Nat.le_of_ble_eq_true rfl | (dsimp only; omega) | (simp only [setL_length]; omega) | (simp only [setL_length, List.length_map]; omega)⟩ | exact ⟨by omega, by first | rfl | omega, by omega, Nat.le_of_ble_eq_true rfl, Nat.le_of_ble_eq_true rfl⟩ | exact ⟨rfl, rfl, rfl, Nat.le_of_ble_eq_true rfl, by first | rfl | omega | exact Nat.le_of_ble_eq_true rfl | (dsimp only; omega) | (simp; done) | (simp; omega), by first | rfl | omega | exact Nat.le_of_ble_eq_true rfl | (dsimp only; omega) | (simp; done) | (simp; omega), by omega, Nat.le_of_ble_eq_true rfl⟩ | exact Eq.refl true) ?_) | (refine Exists.intro _ (And.intro rfl ?_)) | (refine And.intro (And.intro rfl (chk_rowI _ _ _ _)) ?_) | (refine br_t (by omega) ?_) | (refine br_f (by omega) ?_) | (refine bs_t (by omega) ?_) | (refine bs_f (by omega) ?_) | (refine fun (K' : K3) hK' => ?_) | (refine hK' _ _ _ ?_; clear hK' K') | (refine draw_auto tok mixed (by kernel_rfl) ?_) | (refine bs_t h1 ?_) | (refine br_t h1 ?_) | (refine bs_bt (Eq.refl true) ?_) | (refine bs_bf (Eq.refl false) ?_) | (refine br_bt (Eq.refl true) ?_) | (refine br_bf (Eq.refl false) ?_) | (refine CallK.m ?_) | (refine And.intro (And.intro rfl rfl) ?_))
    intro ρ; rw [hf]; rfl
  · by_cases h2 : W > 10
    · have hf := hno (.inl (by omega))
      repeat ((conv => whnf); first | (refine And.intro (by first | omega | exact Nat.le_of_ble_eq_true rfl | (dsimp only [inK]; omega) | (simp only [mulS_eq]; omega) | (simp only [mulS_eq, setL_length]; omega) | (simp only [setL_length, List.length_map]; omega) | exact ⟨by omega, by omega, by first | exact Nat.le_of_ble_eq_true rfl | (dsimp only; omega) | (simp only [setL_length]; omega) | (simp only [setL_length, List.length_map]; omega)⟩ | exact ⟨by omega, by first | rfl | omega, by omega, Nat.le_of_ble_eq_true rfl, Nat.le_of_ble_eq_true rfl⟩ | exact ⟨rfl, rfl, rfl, Nat.le_of_ble_eq_true rfl, by first | rfl | omega | exact Nat.le_of_ble_eq_true rfl | (dsimp only; omega) | (simp; done) | (simp; omega), by first | rfl | omega | exact Nat.le_of_ble_eq_true rfl | (dsimp only; omega) | (simp; done) | (simp; omega), by omega, Nat.le_of_ble_eq_true rfl⟩ | exact Eq.refl true) ?_) | (refine Exists.intro _ (And.intro rfl ?_)) | (refine And.intro (And.intro rfl (chk_rowI _ _ _ _)) ?_) | (refine br_t (by omega) ?_) | (refine br_f (by omega) ?_) | (refine bs_t (by omega) ?_) | (refine bs_f (by omega) ?_) | (refine fun (K' : K3) hK' => ?_) | (refine hK' _ _ _ ?_; clear hK' K') | (refine draw_auto tok mixed (by kernel_rfl) ?_) | (refine bs_f h1 ?_) | (refine br_f h1 ?_) | (refine bs_t h2 ?_) | (refine br_t h2 ?_) | (refine bs_bt (Eq.refl true) ?_) | (refine bs_bf (Eq.refl false) ?_) | (refine br_bt (Eq.refl true) ?_) | (refine br_bf (Eq.refl false) ?_) | (refine CallK.m ?_) | (refine And.intro (And.intro rfl rfl) ?_))
      intro ρ; rw [hf]; rfl
    · by_cases h3 : H < 1
      · have hf := hno (.inr (.inl (by omega)))
        repeat ((conv => whnf); first | (refine And.intro (by first | omega | exact Nat.le_of_ble_eq_true rfl | (dsimp only [inK]; omega) | (simp only [mulS_eq]; omega) | (simp only [mulS_eq, setL_length]; omega) | (simp only [setL_length, List.length_map]; omega) | exact ⟨by omega, by omega, by first | exact Nat.le_of_ble_eq_true rfl | (dsimp only; omega) | (simp only [setL_length]; omega) | (simp only [setL_length, List.length_map]; omega)⟩ | exact ⟨by omega, by first | rfl | omega, by omega, Nat.le_of_ble_eq_true rfl, Nat.le_of_ble_eq_true rfl⟩ | exact ⟨rfl, rfl, rfl, Nat.le_of_ble_eq_true rfl, by first | rfl | omega | exact Nat.le_of_ble_eq_true rfl | (dsimp only; omega) | (simp; done) | (simp; omega), by first | rfl | omega | exact Nat.le_of_ble_eq_true rfl | (dsimp only; omega) | (simp; done) | (simp; omega), by omega, Nat.le_of_ble_eq_true rfl⟩ | exact Eq.refl true) ?_) | (refine Exists.intro _ (And.intro rfl ?_)) | (refine And.intro (And.intro rfl (chk_rowI _ _ _ _)) ?_) | (refine br_t (by omega) ?_) | (refine br_f (by omega) ?_) | (refine bs_t (by omega) ?_) | (refine bs_f (by omega) ?_) | (refine fun (K' : K3) hK' => ?_) | (refine hK' _ _ _ ?_; clear hK' K') | (refine draw_auto tok mixed (by kernel_rfl) ?_) | (refine bs_f h1 ?_) | (refine br_f h1 ?_) | (refine bs_f h2 ?_) | (refine br_f h2 ?_) | (refine bs_t h3 ?_) | (refine br_t h3 ?_) | (refine bs_bt (Eq.refl true) ?_) | (refine bs_bf (Eq.refl false) ?_) | (refine br_bt (Eq.refl true) ?_) | (refine br_bf (Eq.refl false) ?_) | (refine CallK.m ?_) | (refine And.intro (And.intro rfl rfl) ?_))
        intro ρ; rw [hf]; rfl
      · by_cases h4 : H > 10
        · have hf := hno (.inr (.inl (by omega)))
          repeat ((conv => whnf); first | (refine And.intro (by first | omega | exact Nat.le_of_ble_eq_true rfl | (dsimp only [inK]; omega) | (simp only [mulS_eq]; omega) | (simp only [mulS_eq, setL_length]; omega) | (simp only [setL_length, List.length_map]; omega) | exact ⟨by omega, by omega, by first | exact Nat.le_of_ble_eq_true rfl | (dsimp only; omega) | (simp only [setL_length]; omega) | (simp only [setL_length, List.length_map]; omega)⟩ | exact ⟨by omega, by first | rfl | omega, by omega, Nat.le_of_ble_eq_true rfl, Nat.le_of_ble_eq_true rfl⟩ | exact ⟨rfl, rfl, rfl, Nat.le_of_ble_eq_true rfl, by first | rfl | omega | exact Nat.le_of_ble_eq_true rfl | (dsimp only; omega) | (simp; done) | (simp; omega), by first | rfl | omega | exact Nat.le_of_ble_eq_true rfl | (dsimp only; omega) | (simp; done) | (simp; omega), by omega, Nat.le_of_ble_eq_true rfl⟩ | exact Eq.refl true) ?_) | (refine Exists.intro _ (And.intro rfl ?_)) | (refine And.intro (And.intro rfl (chk_rowI _ _ _ _)) ?_) | (refine br_t (by omega) ?_) | (refine br_f (by omega) ?_) | (refine bs_t (by omega) ?_) | (refine bs_f (by omega) ?_) | (refine fun (K' : K3) hK' => ?_) | (refine hK' _ _ _ ?_; clear hK' K') | (refine draw_auto tok mixed (by kernel_rfl) ?_) | (refine bs_f h1 ?_) | (refine br_f h1 ?_) | (refine bs_f h2 ?_) | (refine br_f h2 ?_) | (refine bs_f h3 ?_) | (refine br_f h3 ?_) | (refine bs_t h4 ?_) | (refine br_t h4 ?_) | (refine bs_bt (Eq.refl true) ?_) | (refine bs_bf (Eq.refl false) ?_) | (refine br_bt (Eq.refl true) ?_) | (refine br_bf (Eq.refl false) ?_) | (refine CallK.m ?_) | (refine And.intro (And.intro rfl rfl) ?_))
          intro ρ; rw [hf]; rfl
        · have hm : W * H ≤ 10 * 10 := Int.mul_le_mul (by omega) (by omega) (by omega) (by omega)
          have hm0 : 0 ≤ W * H := Int.mul_nonneg (by omega) (by omega)
          by_cases h5 : ¬ (cs.length : Int) = W * H
          · have hf := hno (.inr (.inr h5))
            repeat ((conv => whnf); first | (refine And.intro (by first | omega | exact Nat.le_of_ble_eq_true rfl | (dsimp only [inK]; omega) | (simp only [mulS_eq]; omega) | (simp only [mulS_eq, setL_length]; omega) | (simp only [setL_length, List.length_map]; omega) | exact ⟨by omega, by omega, by first | exact Nat.le_of_ble_eq_true rfl | (dsimp only; omega) | (simp only [setL_length]; omega) | (simp only [setL_length, List.length_map]; omega)⟩ | exact ⟨by omega, by first | rfl | omega, by omega, Nat.le_of_ble_eq_true rfl, Nat.le_of_ble_eq_true rfl⟩ | exact ⟨rfl, rfl, rfl, Nat.le_of_ble_eq_true rfl, by first | rfl | omega | exact Nat.le_of_ble_eq_true rfl | (dsimp only; omega) | (simp; done) | (simp; omega), by first | rfl | omega | exact Nat.le_of_ble_eq_true rfl | (dsimp only; omega) | (simp; done) | (simp; omega), by omega, Nat.le_of_ble_eq_true rfl⟩ | exact Eq.refl true) ?_) | (refine Exists.intro _ (And.intro rfl ?_)) | (refine And.intro (And.intro rfl (chk_rowI _ _ _ _)) ?_) | (refine br_t (by omega) ?_) | (refine br_f (by omega) ?_) | (refine bs_t (by omega) ?_) | (refine bs_f (by omega) ?_) | (refine fun (K' : K3) hK' => ?_) | (refine hK' _ _ _ ?_; clear hK' K') | (refine draw_auto tok mixed (by kernel_rfl) ?_) | (refine bs_f h1 ?_) | (refine br_f h1 ?_) | (refine bs_f h2 ?_) | (refine br_f h2 ?_) | (refine bs_f h3 ?_) | (refine br_f h3 ?_) | (refine bs_f h4 ?_) | (refine br_f h4 ?_) | (refine bs_bt (nd_t h5) ?_) | (refine br_bt (nd_t h5) ?_) | (refine bs_t h5 ?_) | (refine br_t h5 ?_) | (refine bs_bt (Eq.refl true) ?_) | (refine bs_bf (Eq.refl false) ?_) | (refine br_bt (Eq.refl true) ?_) | (refine br_bf (Eq.refl false) ?_) | (refine CallK.m ?_) | (refine And.intro (And.intro rfl rfl) ?_))
            intro ρ; rw [hf]; rfl
          · have h5' : (cs.length : Int) = W * H := Classical.byContradiction h5
            repeat ((conv => whnf); first | (refine And.intro (by first | omega | exact Nat.le_of_ble_eq_true rfl | (dsimp only [inK]; omega) | (simp only [mulS_eq]; omega) | (simp only [mulS_eq, setL_length]; omega) | (simp only [setL_length, List.length_map]; omega) | exact ⟨by omega, by omega, by first | exact Nat.le_of_ble_eq_true rfl | (dsimp only; omega) | (simp only [setL_length]; omega) | (simp only [setL_length, List.length_map]; omega)⟩ | exact ⟨by omega, by first | rfl | omega, by omega, Nat.le_of_ble_eq_true rfl, Nat.le_of_ble_eq_true rfl⟩ | exact ⟨rfl, rfl, rfl, Nat.le_of_ble_eq_true rfl, by first | rfl | omega | exact Nat.le_of_ble_eq_true rfl | (dsimp only; omega) | (simp; done) | (simp; omega), by first | rfl | omega | exact Nat.le_of_ble_eq_true rfl | (dsimp only; omega) | (simp; done) | (simp; omega), by omega, Nat.le_of_ble_eq_true rfl⟩ | exact Eq.refl true) ?_) | (refine Exists.intro _ (And.intro rfl ?_)) | (refine And.intro (And.intro rfl (chk_rowI _ _ _ _)) ?_) | (refine br_t (by omega) ?_) | (refine br_f (by omega) ?_) | (refine bs_t (by omega) ?_) | (refine bs_f (by omega) ?_) | (refine fun (K' : K3) hK' => ?_) | (refine hK' _ _ _ ?_; clear hK' K') | (refine draw_auto tok mixed (by kernel_rfl) ?_) | (refine bs_f h1 ?_) | (refine br_f h1 ?_) | (refine bs_f h2 ?_) | (refine br_f h2 ?_) | (refine bs_f h3 ?_) | (refine br_f h3 ?_) | (refine bs_f h4 ?_) | (refine br_f h4 ?_) | (refine bs_bf (nd_f h5') ?_) | (refine br_bf (nd_f h5') ?_) | (refine bs_f h5 ?_) | (refine br_f h5 ?_) | (refine bs_bt (Eq.refl true) ?_) | (refine bs_bf (Eq.refl false) ?_) | (refine br_bt (Eq.refl true) ?_) | (refine br_bf (Eq.refl false) ?_) | (refine CallK.m ?_) | (refine And.intro (And.intro rfl rfl) ?_))
            refine Tri.loop (γ := Nat) (fun k => k ≤ cs.length ∧ ∀ j, j < k → -1 ≤ cs.getD j 0 ∧ cs.getD j 0 ≤ 100) (fun k => [(2, V.c .ff), (35, V.c (.sl 0 cs.length)), (36, V.i cs.length), (37, V.i (k : Nat))]) (fun k => [⟨0, .ro 0, cs.map C.i⟩]) 2 (fun k => cs.length - k) 0 (R0 := []) ?_ ?_ ?_
            · exact ⟨by omega, fun j hj => by omega⟩
            · skip
              refine ⟨?_, ?_, rfl, rfl, by first | exact Nat.le_of_ble_eq_true rfl | exact Nat.le_refl _ | omega⟩
              · repeat (first | exact trivial | refine And.intro (covS_syn (by first | rfl) rfl (by first | exact trivial | exact Nat.le_of_ble_eq_true rfl | exact hy | exact (fun p hp => nomatch hp) | (show (_ : Nat) < _; omega))) ?_ | refine And.intro (covS_bool rfl rfl (by first | rfl)) ?_)
              · repeat (first | exact trivial | refine And.intro (covE_id (Nat.le_of_ble_eq_true rfl) (by first | exact wf_ints _ _ | exact wf_bools _ _ | first | exact wf_cells _ _ | simp [C.wf]) rfl (by first | rfl)) ?_)
            · rintro k ⟨hk, hall⟩
              refine vc_ok tok ?_
              by_cases hlt : k < cs.length
              · have hmem : cs.getD k 0 ∈ cs := by rw [List.getD_eq_getElem?_getD, List.getElem?_eq_getElem hlt]; exact List.getElem_mem hlt
                have hld := intL hlt
                have hbad : ¬ (-1 ≤ cs.getD k 0 ∧ cs.getD k 0 ≤ 100) → okC W H cs = false := fun h => by
                  cases hh : okC W H cs with
                  | false => rfl
                  | true => exact absurd ((okC_iff.1 hh).cost _ hmem) h
                obtain ⟨ck, hck⟩ : ∃ ck, ck = cs.getD k 0 := ⟨_, rfl⟩
                rw [← hck] at hld hbad
                by_cases g1 : ck < -1
                · have hf := hbad (by omega)
                  repeat ((conv => whnf); first | (refine And.intro (by first | omega | exact Nat.le_of_ble_eq_true rfl | (dsimp only [inK]; omega) | (simp only [mulS_eq]; omega) | (simp only [mulS_eq, setL_length]; omega) | (simp only [setL_length, List.length_map]; omega) | exact ⟨by omega, by omega, by first | exact Nat.le_of_ble_eq_true rfl | (dsimp only; omega) | (simp only [setL_length]; omega) | (simp only [setL_length, List.length_map]; omega)⟩ | exact ⟨by omega, by first | rfl | omega, by omega, Nat.le_of_ble_eq_true rfl, Nat.le_of_ble_eq_true rfl⟩ | exact ⟨rfl, rfl, rfl, Nat.le_of_ble_eq_true rfl, by first | rfl | omega | exact Nat.le_of_ble_eq_true rfl | (dsimp only; omega) | (simp; done) | (simp; omega), by first | rfl | omega | exact Nat.le_of_ble_eq_true rfl | (dsimp only; omega) | (simp; done) | (simp; omega), by omega, Nat.le_of_ble_eq_true rfl⟩ | exact Eq.refl true) ?_) | (with_reducible refine ld (hld) ?_) | (refine Exists.intro _ (And.intro rfl ?_)) | (refine And.intro (And.intro rfl (chk_rowI _ _ _ _)) ?_) | (refine br_t (by omega) ?_) | (refine br_f (by omega) ?_) | (refine bs_t (by omega) ?_) | (refine bs_f (by omega) ?_) | (refine fun (K' : K3) hK' => ?_) | (refine hK' _ _ _ ?_; clear hK' K') | (refine draw_auto tok mixed (by kernel_rfl) ?_) | (refine bs_t g1 ?_) | (refine br_t g1 ?_) | (refine bs_bt (Eq.refl true) ?_) | (refine bs_bf (Eq.refl false) ?_) | (refine br_bt (Eq.refl true) ?_) | (refine br_bf (Eq.refl false) ?_) | (refine CallK.m ?_) | (refine And.intro (And.intro rfl rfl) ?_))
                  intro ρ; rw [hf]; rfl
                · by_cases g2 : ck > 100
                  · have hf := hbad (by omega)
                    repeat ((conv => whnf); first | (refine And.intro (by first | omega | exact Nat.le_of_ble_eq_true rfl | (dsimp only [inK]; omega) | (simp only [mulS_eq]; omega) | (simp only [mulS_eq, setL_length]; omega) | (simp only [setL_length, List.length_map]; omega) | exact ⟨by omega, by omega, by first | exact Nat.le_of_ble_eq_true rfl | (dsimp only; omega) | (simp only [setL_length]; omega) | (simp only [setL_length, List.length_map]; omega)⟩ | exact ⟨by omega, by first | rfl | omega, by omega, Nat.le_of_ble_eq_true rfl, Nat.le_of_ble_eq_true rfl⟩ | exact ⟨rfl, rfl, rfl, Nat.le_of_ble_eq_true rfl, by first | rfl | omega | exact Nat.le_of_ble_eq_true rfl | (dsimp only; omega) | (simp; done) | (simp; omega), by first | rfl | omega | exact Nat.le_of_ble_eq_true rfl | (dsimp only; omega) | (simp; done) | (simp; omega), by omega, Nat.le_of_ble_eq_true rfl⟩ | exact Eq.refl true) ?_) | (with_reducible refine ld (hld) ?_) | (refine Exists.intro _ (And.intro rfl ?_)) | (refine And.intro (And.intro rfl (chk_rowI _ _ _ _)) ?_) | (refine br_t (by omega) ?_) | (refine br_f (by omega) ?_) | (refine bs_t (by omega) ?_) | (refine bs_f (by omega) ?_) | (refine fun (K' : K3) hK' => ?_) | (refine hK' _ _ _ ?_; clear hK' K') | (refine draw_auto tok mixed (by kernel_rfl) ?_) | (refine bs_f g1 ?_) | (refine br_f g1 ?_) | (refine bs_t g2 ?_) | (refine br_t g2 ?_) | (refine bs_bt (Eq.refl true) ?_) | (refine bs_bf (Eq.refl false) ?_) | (refine br_bt (Eq.refl true) ?_) | (refine br_bf (Eq.refl false) ?_) | (refine CallK.m ?_) | (refine And.intro (And.intro rfl rfl) ?_))
                    intro ρ; rw [hf]; rfl
                  · repeat ((conv => whnf); first | (refine And.intro (by first | omega | exact Nat.le_of_ble_eq_true rfl | (dsimp only [inK]; omega) | (simp only [mulS_eq]; omega) | (simp only [mulS_eq, setL_length]; omega) | (simp only [setL_length, List.length_map]; omega) | exact ⟨by omega, by omega, by first | exact Nat.le_of_ble_eq_true rfl | (dsimp only; omega) | (simp only [setL_length]; omega) | (simp only [setL_length, List.length_map]; omega)⟩ | exact ⟨by omega, by first | rfl | omega, by omega, Nat.le_of_ble_eq_true rfl, Nat.le_of_ble_eq_true rfl⟩ | exact ⟨rfl, rfl, rfl, Nat.le_of_ble_eq_true rfl, by first | rfl | omega | exact Nat.le_of_ble_eq_true rfl | (dsimp only; omega) | (simp; done) | (simp; omega), by first | rfl | omega | exact Nat.le_of_ble_eq_true rfl | (dsimp only; omega) | (simp; done) | (simp; omega), by omega, Nat.le_of_ble_eq_true rfl⟩ | exact Eq.refl true) ?_) | (with_reducible refine ld (hld) ?_) | (refine Exists.intro _ (And.intro rfl ?_)) | (refine And.intro (And.intro rfl (chk_rowI _ _ _ _)) ?_) | (refine br_t (by omega) ?_) | (refine br_f (by omega) ?_) | (refine bs_t (by omega) ?_) | (refine bs_f (by omega) ?_) | (refine fun (K' : K3) hK' => ?_) | (refine hK' _ _ _ ?_; clear hK' K') | (refine draw_auto tok mixed (by kernel_rfl) ?_) | (refine bs_f g1 ?_) | (refine br_f g1 ?_) | (refine bs_f g2 ?_) | (refine br_f g2 ?_) | (refine bs_bt (Eq.refl true) ?_) | (refine bs_bf (Eq.refl false) ?_) | (refine br_bt (Eq.refl true) ?_) | (refine br_bf (Eq.refl false) ?_) | (refine CallK.m ?_) | (refine And.intro (And.intro rfl rfl) ?_))
                    refine ⟨k + 1, [], ⟨by omega, fun j hj => ?_⟩, by omega, ?_⟩
                    · by_cases hjk : j = k
                      · rw [hjk, ← hck]; omega
                      · exact hall j (by omega)
                    · skip
                      refine ⟨?_, ?_, rfl, rfl, by first | exact Nat.le_of_ble_eq_true rfl | exact Nat.le_refl _ | omega⟩
                      · repeat (first | exact trivial | refine And.intro (covS_syn (by first | rfl | (refine congrArg some (congrArg V.i ?_); omega)) rfl (by first | exact trivial | exact Nat.le_of_ble_eq_true rfl | exact hy | exact (fun p hp => nomatch hp) | (show (_ : Nat) < _; omega))) ?_ | refine And.intro (covS_bool rfl rfl (by first | rfl)) ?_)
                      · repeat (first | exact trivial | refine And.intro (covE_id (Nat.le_of_ble_eq_true rfl) (by first | exact wf_ints _ _ | exact wf_bools _ _ | first | exact wf_cells _ _ | simp [C.wf]) rfl (by first | rfl)) ?_)
              · have hkl : k = cs.length := by omega
                have ht : okC W H cs = true := okC_iff.2 ⟨by omega, by omega, h5', fun x hx => by
                  obtain ⟨j, hj, rfl⟩ := List.mem_iff_getElem.1 hx
                  have := hall j (by omega)
                  rwa [List.getD_eq_getElem?_getD, List.getElem?_eq_getElem hj] at this⟩
                repeat ((conv => whnf); first | (refine And.intro (by first | omega | exact Nat.le_of_ble_eq_true rfl | (dsimp only [inK]; omega) | (simp only [mulS_eq]; omega) | (simp only [mulS_eq, setL_length]; omega) | (simp only [setL_length, List.length_map]; omega) | exact ⟨by omega, by omega, by first | exact Nat.le_of_ble_eq_true rfl | (dsimp only; omega) | (simp only [setL_length]; omega) | (simp only [setL_length, List.length_map]; omega)⟩ | exact ⟨by omega, by first | rfl | omega, by omega, Nat.le_of_ble_eq_true rfl, Nat.le_of_ble_eq_true rfl⟩ | exact ⟨rfl, rfl, rfl, Nat.le_of_ble_eq_true rfl, by first | rfl | omega | exact Nat.le_of_ble_eq_true rfl | (dsimp only; omega) | (simp; done) | (simp; omega), by first | rfl | omega | exact Nat.le_of_ble_eq_true rfl | (dsimp only; omega) | (simp; done) | (simp; omega), by omega, Nat.le_of_ble_eq_true rfl⟩ | exact Eq.refl true) ?_) | (refine Exists.intro _ (And.intro rfl ?_)) | (refine And.intro (And.intro rfl (chk_rowI _ _ _ _)) ?_) | (refine br_t (by omega) ?_) | (refine br_f (by omega) ?_) | (refine bs_t (by omega) ?_) | (refine bs_f (by omega) ?_) | (refine fun (K' : K3) hK' => ?_) | (refine hK' _ _ _ ?_; clear hK' K') | (refine draw_auto tok mixed (by kernel_rfl) ?_) | (refine bs_bt (Eq.refl true) ?_) | (refine bs_bf (Eq.refl false) ?_) | (refine br_bt (Eq.refl true) ?_) | (refine br_bf (Eq.refl false) ?_) | (refine CallK.m ?_) | (refine And.intro (And.intro rfl rfl) ?_))
                intro ρ; rw [ht]; rfl
/-- Better, as the reference has it. -/
def betW (a b : Way) : Bool := if a.2 = 0 ∨ b.2 = 0 then decide (a.2 > 0) else lessW a b
theorem better_spec (a b : Way) : Spec Try.prog 61 [V.agg [C.i a.1, C.i a.2], V.agg [C.i b.1, C.i b.2]] [] 0 (Is (V.c (.bool (betW a b)))) := by
  refine Spec.of tok Try.func61 rfl rfl rfl fun n0 cx => vc_ok tok ?_
  by_cases h1 : a.2 = 0
  · repeat ((conv => whnf); first | (refine And.intro (by first | omega | exact Nat.le_of_ble_eq_true rfl | (dsimp only [inK]; omega) | (simp only [mulS_eq]; omega) | (simp only [mulS_eq, setL_length]; omega) | (simp only [setL_length, List.length_map]; omega) | exact ⟨by omega, by omega, by first | exact Nat.le_of_ble_eq_true rfl | (dsimp only; omega) | (simp only [setL_length]; omega) | (simp only [setL_length, List.length_map]; omega)⟩ | exact ⟨by omega, by first | rfl | omega, by omega, Nat.le_of_ble_eq_true rfl, Nat.le_of_ble_eq_true rfl⟩ | exact ⟨rfl, rfl, rfl, Nat.le_of_ble_eq_true rfl, by first | rfl | omega | exact Nat.le_of_ble_eq_true rfl | (dsimp only; omega) | (simp; done) | (simp; omega), by first | rfl | omega | exact Nat.le_of_ble_eq_true rfl | (dsimp only; omega) | (simp; done) | (simp; omega), by omega, Nat.le_of_ble_eq_true rfl⟩ | exact Eq.refl true) ?_) | (refine Exists.intro _ (And.intro rfl ?_)) | (refine And.intro (And.intro rfl (chk_rowI _ _ _ _)) ?_) | (refine br_t (by omega) ?_) | (refine br_f (by omega) ?_) | (refine bs_t (by omega) ?_) | (refine bs_f (by omega) ?_) | (refine fun (K' : K3) hK' => ?_) | (refine hK' _ _ _ ?_; clear hK' K') | (refine draw_auto tok mixed (by kernel_rfl) ?_) | (refine bs_t h1 ?_) | (refine br_t h1 ?_) | (refine bs_bt (Eq.refl true) ?_) | (refine bs_bf (Eq.refl false) ?_) | (refine br_bt (Eq.refl true) ?_) | (refine br_bf (Eq.refl false) ?_) | (refine CallK.m ?_) | (refine And.intro (And.intro rfl rfl) ?_))
    intro ρ; show Value.bool _ = Value.bool _; simp [betW, h1]
  · by_cases h2 : b.2 = 0
    · repeat ((conv => whnf); first | (refine And.intro (by first | omega | exact Nat.le_of_ble_eq_true rfl | (dsimp only [inK]; omega) | (simp only [mulS_eq]; omega) | (simp only [mulS_eq, setL_length]; omega) | (simp only [setL_length, List.length_map]; omega) | exact ⟨by omega, by omega, by first | exact Nat.le_of_ble_eq_true rfl | (dsimp only; omega) | (simp only [setL_length]; omega) | (simp only [setL_length, List.length_map]; omega)⟩ | exact ⟨by omega, by first | rfl | omega, by omega, Nat.le_of_ble_eq_true rfl, Nat.le_of_ble_eq_true rfl⟩ | exact ⟨rfl, rfl, rfl, Nat.le_of_ble_eq_true rfl, by first | rfl | omega | exact Nat.le_of_ble_eq_true rfl | (dsimp only; omega) | (simp; done) | (simp; omega), by first | rfl | omega | exact Nat.le_of_ble_eq_true rfl | (dsimp only; omega) | (simp; done) | (simp; omega), by omega, Nat.le_of_ble_eq_true rfl⟩ | exact Eq.refl true) ?_) | (refine Exists.intro _ (And.intro rfl ?_)) | (refine And.intro (And.intro rfl (chk_rowI _ _ _ _)) ?_) | (refine br_t (by omega) ?_) | (refine br_f (by omega) ?_) | (refine bs_t (by omega) ?_) | (refine bs_f (by omega) ?_) | (refine fun (K' : K3) hK' => ?_) | (refine hK' _ _ _ ?_; clear hK' K') | (refine draw_auto tok mixed (by kernel_rfl) ?_) | (refine bs_f h1 ?_) | (refine br_f h1 ?_) | (refine bs_t h2 ?_) | (refine br_t h2 ?_) | (refine bs_bt (Eq.refl true) ?_) | (refine bs_bf (Eq.refl false) ?_) | (refine br_bt (Eq.refl true) ?_) | (refine br_bf (Eq.refl false) ?_) | (refine CallK.m ?_) | (refine And.intro (And.intro rfl rfl) ?_))
      intro ρ; show Value.bool _ = Value.bool _; simp [betW, h1, h2]
    · by_cases h3 : a.1 < b.1
      · repeat ((conv => whnf); first | (refine And.intro (by first | omega | exact Nat.le_of_ble_eq_true rfl | (dsimp only [inK]; omega) | (simp only [mulS_eq]; omega) | (simp only [mulS_eq, setL_length]; omega) | (simp only [setL_length, List.length_map]; omega) | exact ⟨by omega, by omega, by first | exact Nat.le_of_ble_eq_true rfl | (dsimp only; omega) | (simp only [setL_length]; omega) | (simp only [setL_length, List.length_map]; omega)⟩ | exact ⟨by omega, by first | rfl | omega, by omega, Nat.le_of_ble_eq_true rfl, Nat.le_of_ble_eq_true rfl⟩ | exact ⟨rfl, rfl, rfl, Nat.le_of_ble_eq_true rfl, by first | rfl | omega | exact Nat.le_of_ble_eq_true rfl | (dsimp only; omega) | (simp; done) | (simp; omega), by first | rfl | omega | exact Nat.le_of_ble_eq_true rfl | (dsimp only; omega) | (simp; done) | (simp; omega), by omega, Nat.le_of_ble_eq_true rfl⟩ | exact Eq.refl true) ?_) | (refine Exists.intro _ (And.intro rfl ?_)) | (refine And.intro (And.intro rfl (chk_rowI _ _ _ _)) ?_) | (refine br_t (by omega) ?_) | (refine br_f (by omega) ?_) | (refine bs_t (by omega) ?_) | (refine bs_f (by omega) ?_) | (refine fun (K' : K3) hK' => ?_) | (refine hK' _ _ _ ?_; clear hK' K') | (refine draw_auto tok mixed (by kernel_rfl) ?_) | (refine bs_f h1 ?_) | (refine br_f h1 ?_) | (refine bs_f h2 ?_) | (refine br_f h2 ?_) | (refine bs_t h3 ?_) | (refine br_t h3 ?_) | (refine bs_bt (Eq.refl true) ?_) | (refine bs_bf (Eq.refl false) ?_) | (refine br_bt (Eq.refl true) ?_) | (refine br_bf (Eq.refl false) ?_) | (refine CallK.m ?_) | (refine And.intro (And.intro rfl rfl) ?_))
        intro ρ; show Value.bool _ = Value.bool _; simp [betW, lessW, h1, h2, h3]
      · by_cases h4 : a.1 = b.1
        · repeat ((conv => whnf); first | (refine And.intro (by first | omega | exact Nat.le_of_ble_eq_true rfl | (dsimp only [inK]; omega) | (simp only [mulS_eq]; omega) | (simp only [mulS_eq, setL_length]; omega) | (simp only [setL_length, List.length_map]; omega) | exact ⟨by omega, by omega, by first | exact Nat.le_of_ble_eq_true rfl | (dsimp only; omega) | (simp only [setL_length]; omega) | (simp only [setL_length, List.length_map]; omega)⟩ | exact ⟨by omega, by first | rfl | omega, by omega, Nat.le_of_ble_eq_true rfl, Nat.le_of_ble_eq_true rfl⟩ | exact ⟨rfl, rfl, rfl, Nat.le_of_ble_eq_true rfl, by first | rfl | omega | exact Nat.le_of_ble_eq_true rfl | (dsimp only; omega) | (simp; done) | (simp; omega), by first | rfl | omega | exact Nat.le_of_ble_eq_true rfl | (dsimp only; omega) | (simp; done) | (simp; omega), by omega, Nat.le_of_ble_eq_true rfl⟩ | exact Eq.refl true) ?_) | (refine Exists.intro _ (And.intro rfl ?_)) | (refine And.intro (And.intro rfl (chk_rowI _ _ _ _)) ?_) | (refine br_t (by omega) ?_) | (refine br_f (by omega) ?_) | (refine bs_t (by omega) ?_) | (refine bs_f (by omega) ?_) | (refine fun (K' : K3) hK' => ?_) | (refine hK' _ _ _ ?_; clear hK' K') | (refine draw_auto tok mixed (by kernel_rfl) ?_) | (refine bs_f h1 ?_) | (refine br_f h1 ?_) | (refine bs_f h2 ?_) | (refine br_f h2 ?_) | (refine bs_f h3 ?_) | (refine br_f h3 ?_) | (refine bs_t h4 ?_) | (refine br_t h4 ?_) | (refine bs_bt (Eq.refl true) ?_) | (refine bs_bf (Eq.refl false) ?_) | (refine br_bt (Eq.refl true) ?_) | (refine br_bf (Eq.refl false) ?_) | (refine CallK.m ?_) | (refine And.intro (And.intro rfl rfl) ?_))
          intro ρ; show Value.bool _ = Value.bool _; simp [betW, lessW, h1, h2, h3, h4]
        · repeat ((conv => whnf); first | (refine And.intro (by first | omega | exact Nat.le_of_ble_eq_true rfl | (dsimp only [inK]; omega) | (simp only [mulS_eq]; omega) | (simp only [mulS_eq, setL_length]; omega) | (simp only [setL_length, List.length_map]; omega) | exact ⟨by omega, by omega, by first | exact Nat.le_of_ble_eq_true rfl | (dsimp only; omega) | (simp only [setL_length]; omega) | (simp only [setL_length, List.length_map]; omega)⟩ | exact ⟨by omega, by first | rfl | omega, by omega, Nat.le_of_ble_eq_true rfl, Nat.le_of_ble_eq_true rfl⟩ | exact ⟨rfl, rfl, rfl, Nat.le_of_ble_eq_true rfl, by first | rfl | omega | exact Nat.le_of_ble_eq_true rfl | (dsimp only; omega) | (simp; done) | (simp; omega), by first | rfl | omega | exact Nat.le_of_ble_eq_true rfl | (dsimp only; omega) | (simp; done) | (simp; omega), by omega, Nat.le_of_ble_eq_true rfl⟩ | exact Eq.refl true) ?_) | (refine Exists.intro _ (And.intro rfl ?_)) | (refine And.intro (And.intro rfl (chk_rowI _ _ _ _)) ?_) | (refine br_t (by omega) ?_) | (refine br_f (by omega) ?_) | (refine bs_t (by omega) ?_) | (refine bs_f (by omega) ?_) | (refine fun (K' : K3) hK' => ?_) | (refine hK' _ _ _ ?_; clear hK' K') | (refine draw_auto tok mixed (by kernel_rfl) ?_) | (refine bs_f h1 ?_) | (refine br_f h1 ?_) | (refine bs_f h2 ?_) | (refine br_f h2 ?_) | (refine bs_f h3 ?_) | (refine br_f h3 ?_) | (refine bs_f h4 ?_) | (refine br_f h4 ?_) | (refine bs_bt (Eq.refl true) ?_) | (refine bs_bf (Eq.refl false) ?_) | (refine br_bt (Eq.refl true) ?_) | (refine br_bf (Eq.refl false) ?_) | (refine CallK.m ?_) | (refine And.intro (And.intro rfl rfl) ?_))
          intro ρ; show Value.bool _ = Value.bool _; simp [betW, lessW, h1, h2, h3, h4]
theorem at_spec (W H : Int) (n : Nat) (i : Int) (hW : 0 < W) (hi : 0 ≤ i ∧ i ≤ 1000) : Spec Try.prog 62 [chR W H n, V.i i] [] 1 (Is (V.agg [C.i (i % W), C.i (i / W)])) := by
  have h1 : 0 ≤ i / W := Int.ediv_nonneg hi.1 (by omega)
  have h2 : i / W ≤ i := Int.ediv_le_self _ hi.1
  refine Spec.of tok Try.func62 rfl rfl rfl fun n0 cx => vc_ok tok ?_
  repeat ((conv => whnf); first | (refine And.intro (by first | omega | exact Nat.le_of_ble_eq_true rfl | (dsimp only [inK]; omega) | (simp only [mulS_eq]; omega) | (simp only [mulS_eq, setL_length]; omega) | (simp only [setL_length, List.length_map]; omega) | exact ⟨by omega, by omega, by first | exact Nat.le_of_ble_eq_true rfl | (dsimp only; omega) | (simp only [setL_length]; omega) | (simp only [setL_length, List.length_map]; omega)⟩ | exact ⟨by omega, by first | rfl | omega, by omega, Nat.le_of_ble_eq_true rfl, Nat.le_of_ble_eq_true rfl⟩ | exact ⟨rfl, rfl, rfl, Nat.le_of_ble_eq_true rfl, by first | rfl | omega | exact Nat.le_of_ble_eq_true rfl | (dsimp only; omega) | (simp; done) | (simp; omega), by first | rfl | omega | exact Nat.le_of_ble_eq_true rfl | (dsimp only; omega) | (simp; done) | (simp; omega), by omega, Nat.le_of_ble_eq_true rfl⟩ | exact Eq.refl true) ?_) | (refine Exists.intro _ (And.intro rfl ?_)) | (refine And.intro (And.intro rfl (chk_rowI _ _ _ _)) ?_) | (refine br_t (by omega) ?_) | (refine br_f (by omega) ?_) | (refine bs_t (by omega) ?_) | (refine bs_f (by omega) ?_) | (refine fun (K' : K3) hK' => ?_) | (refine hK' _ _ _ ?_; clear hK' K') | (refine draw_auto tok mixed (by kernel_rfl) ?_) | (refine bs_bt (Eq.refl true) ?_) | (refine bs_bf (Eq.refl false) ?_) | (refine br_bt (Eq.refl true) ?_) | (refine br_bf (Eq.refl false) ?_) | (refine CallK.m ?_) | (refine And.intro (And.intro rfl rfl) ?_))
  intro ρ; rfl
theorem rcost_spec (W H : Int) (cs : List Int) (i : Nat) (hi : i < cs.length) : Spec Try.prog 64 [chR W H cs.length, V.i i] [⟨0, .ro 0, cs.map C.i⟩] 1 (Is (V.i (cstI cs i))) := by
  have hlm : (cs.map C.i).length = cs.length := by simp
  refine Spec.of tok Try.func64 rfl rfl rfl fun n0 cx => vc_ok tok ?_
  repeat ((conv => whnf); first | (refine And.intro (by first | omega | exact Nat.le_of_ble_eq_true rfl | (dsimp only [inK]; omega) | (simp only [mulS_eq]; omega) | (simp only [mulS_eq, setL_length]; omega) | (simp only [setL_length, List.length_map]; omega) | exact ⟨by omega, by omega, by first | exact Nat.le_of_ble_eq_true rfl | (dsimp only; omega) | (simp only [setL_length]; omega) | (simp only [setL_length, List.length_map]; omega)⟩ | exact ⟨by omega, by first | rfl | omega, by omega, Nat.le_of_ble_eq_true rfl, Nat.le_of_ble_eq_true rfl⟩ | exact ⟨rfl, rfl, rfl, Nat.le_of_ble_eq_true rfl, by first | rfl | omega | exact Nat.le_of_ble_eq_true rfl | (dsimp only; omega) | (simp; done) | (simp; omega), by first | rfl | omega | exact Nat.le_of_ble_eq_true rfl | (dsimp only; omega) | (simp; done) | (simp; omega), by omega, Nat.le_of_ble_eq_true rfl⟩ | exact Eq.refl true) ?_) | (with_reducible refine ld (intL hi) ?_) | (refine Exists.intro _ (And.intro rfl ?_)) | (refine And.intro (And.intro rfl (chk_rowI _ _ _ _)) ?_) | (refine br_t (by omega) ?_) | (refine br_f (by omega) ?_) | (refine bs_t (by omega) ?_) | (refine bs_f (by omega) ?_) | (refine fun (K' : K3) hK' => ?_) | (refine hK' _ _ _ ?_; clear hK' K') | (refine draw_auto tok mixed (by kernel_rfl) ?_) | (refine bs_bt (Eq.refl true) ?_) | (refine bs_bf (Eq.refl false) ?_) | (refine br_bt (Eq.refl true) ?_) | (refine br_bf (Eq.refl false) ?_) | (refine CallK.m ?_) | (refine And.intro (And.intro rfl rfl) ?_))
  have h : (if 0 > cs.getD i 0 then 0 else cs.getD i 0) = cstI cs i := by
    simp only [cstI, Int.toNat_natCast]; split <;> split <;> omega
  intro ρ; rw [← h]; rfl
theorem rindex_spec (W H : Int) (n : Nat) (x y : Int) (hW : 0 < W ∧ W ≤ 10) (hx : -1000 ≤ x ∧ x ≤ 1000) (hy : -1000 ≤ y ∧ y ≤ 1000) : Spec Try.prog 69 [chR W H n, V.agg [C.i x, C.i y]] [] 1 (Is (V.i (y * W + x))) := by
  have h1 : y * W ≤ 1000 * 10 := by
    by_cases h : 0 ≤ y
    · exact Int.mul_le_mul (by omega) (by omega) (by omega) (by omega)
    · have := Int.mul_nonpos_of_nonpos_of_nonneg (show y ≤ 0 by omega) (show 0 ≤ W by omega); omega
  have h2 : -10000 ≤ y * W := by
    by_cases h : 0 ≤ y
    · have := Int.mul_nonneg h (show 0 ≤ W by omega); omega
    · have := Int.mul_le_mul (show -y ≤ 1000 by omega) hW.2 (by omega) (by omega)
      rw [Int.neg_mul] at this; omega
  refine Spec.of tok Try.func69 rfl rfl rfl fun n0 cx => vc_ok tok ?_
  repeat ((conv => whnf); first | (refine And.intro (by first | omega | exact Nat.le_of_ble_eq_true rfl | (dsimp only [inK]; omega) | (simp only [mulS_eq]; omega) | (simp only [mulS_eq, setL_length]; omega) | (simp only [setL_length, List.length_map]; omega) | exact ⟨by omega, by omega, by first | exact Nat.le_of_ble_eq_true rfl | (dsimp only; omega) | (simp only [setL_length]; omega) | (simp only [setL_length, List.length_map]; omega)⟩ | exact ⟨by omega, by first | rfl | omega, by omega, Nat.le_of_ble_eq_true rfl, Nat.le_of_ble_eq_true rfl⟩ | exact ⟨rfl, rfl, rfl, Nat.le_of_ble_eq_true rfl, by first | rfl | omega | exact Nat.le_of_ble_eq_true rfl | (dsimp only; omega) | (simp; done) | (simp; omega), by first | rfl | omega | exact Nat.le_of_ble_eq_true rfl | (dsimp only; omega) | (simp; done) | (simp; omega), by omega, Nat.le_of_ble_eq_true rfl⟩ | exact Eq.refl true) ?_) | (refine Exists.intro _ (And.intro rfl ?_)) | (refine And.intro (And.intro rfl (chk_rowI _ _ _ _)) ?_) | (refine br_t (by omega) ?_) | (refine br_f (by omega) ?_) | (refine bs_t (by omega) ?_) | (refine bs_f (by omega) ?_) | (refine fun (K' : K3) hK' => ?_) | (refine hK' _ _ _ ?_; clear hK' K') | (refine draw_auto tok mixed (by kernel_rfl) ?_) | (refine bs_bt (Eq.refl true) ?_) | (refine bs_bf (Eq.refl false) ?_) | (refine br_bt (Eq.refl true) ?_) | (refine br_bf (Eq.refl false) ?_) | (refine CallK.m ?_) | (refine And.intro (And.intro rfl rfl) ?_))
  intro ρ; rfl
def onB (W H x y : Int) : Bool := decide (x ≥ 0) && (decide (x < W) && (decide (y ≥ 0) && decide (y < H)))
theorem on_spec (W H : Int) (n : Nat) (x y : Int) : Spec Try.prog 84 [chR W H n, V.agg [C.i x, C.i y]] [] 1 (Is (V.c (.bool (onB W H x y)))) := by
  refine Spec.of tok Try.func84 rfl rfl rfl fun n0 cx => vc_ok tok ?_
  by_cases h1 : x ≥ 0
  · by_cases h2 : x < W
    · by_cases h3 : y ≥ 0
      · repeat ((conv => whnf); first | (refine And.intro (by first | omega | exact Nat.le_of_ble_eq_true rfl | (dsimp only [inK]; omega) | (simp only [mulS_eq]; omega) | (simp only [mulS_eq, setL_length]; omega) | (simp only [setL_length, List.length_map]; omega) | exact ⟨by omega, by omega, by first | exact Nat.le_of_ble_eq_true rfl | (dsimp only; omega) | (simp only [setL_length]; omega) | (simp only [setL_length, List.length_map]; omega)⟩ | exact ⟨by omega, by first | rfl | omega, by omega, Nat.le_of_ble_eq_true rfl, Nat.le_of_ble_eq_true rfl⟩ | exact ⟨rfl, rfl, rfl, Nat.le_of_ble_eq_true rfl, by first | rfl | omega | exact Nat.le_of_ble_eq_true rfl | (dsimp only; omega) | (simp; done) | (simp; omega), by first | rfl | omega | exact Nat.le_of_ble_eq_true rfl | (dsimp only; omega) | (simp; done) | (simp; omega), by omega, Nat.le_of_ble_eq_true rfl⟩ | exact Eq.refl true) ?_) | (refine Exists.intro _ (And.intro rfl ?_)) | (refine And.intro (And.intro rfl (chk_rowI _ _ _ _)) ?_) | (refine br_t (by omega) ?_) | (refine br_f (by omega) ?_) | (refine bs_t (by omega) ?_) | (refine bs_f (by omega) ?_) | (refine fun (K' : K3) hK' => ?_) | (refine hK' _ _ _ ?_; clear hK' K') | (refine draw_auto tok mixed (by kernel_rfl) ?_) | (refine br_t h1 ?_) | (refine bs_t h1 ?_) | (refine br_t h2 ?_) | (refine bs_t h2 ?_) | (refine br_t h3 ?_) | (refine bs_t h3 ?_) | (refine bs_bt (Eq.refl true) ?_) | (refine bs_bf (Eq.refl false) ?_) | (refine br_bt (Eq.refl true) ?_) | (refine br_bf (Eq.refl false) ?_) | (refine CallK.m ?_) | (refine And.intro (And.intro rfl rfl) ?_))
        intro ρ; show Value.bool _ = Value.bool _; simp [onB, h1, h2, h3]
      · repeat ((conv => whnf); first | (refine And.intro (by first | omega | exact Nat.le_of_ble_eq_true rfl | (dsimp only [inK]; omega) | (simp only [mulS_eq]; omega) | (simp only [mulS_eq, setL_length]; omega) | (simp only [setL_length, List.length_map]; omega) | exact ⟨by omega, by omega, by first | exact Nat.le_of_ble_eq_true rfl | (dsimp only; omega) | (simp only [setL_length]; omega) | (simp only [setL_length, List.length_map]; omega)⟩ | exact ⟨by omega, by first | rfl | omega, by omega, Nat.le_of_ble_eq_true rfl, Nat.le_of_ble_eq_true rfl⟩ | exact ⟨rfl, rfl, rfl, Nat.le_of_ble_eq_true rfl, by first | rfl | omega | exact Nat.le_of_ble_eq_true rfl | (dsimp only; omega) | (simp; done) | (simp; omega), by first | rfl | omega | exact Nat.le_of_ble_eq_true rfl | (dsimp only; omega) | (simp; done) | (simp; omega), by omega, Nat.le_of_ble_eq_true rfl⟩ | exact Eq.refl true) ?_) | (refine Exists.intro _ (And.intro rfl ?_)) | (refine And.intro (And.intro rfl (chk_rowI _ _ _ _)) ?_) | (refine br_t (by omega) ?_) | (refine br_f (by omega) ?_) | (refine bs_t (by omega) ?_) | (refine bs_f (by omega) ?_) | (refine fun (K' : K3) hK' => ?_) | (refine hK' _ _ _ ?_; clear hK' K') | (refine draw_auto tok mixed (by kernel_rfl) ?_) | (refine br_t h1 ?_) | (refine bs_t h1 ?_) | (refine br_t h2 ?_) | (refine bs_t h2 ?_) | (refine br_f h3 ?_) | (refine bs_f h3 ?_) | (refine bs_bt (Eq.refl true) ?_) | (refine bs_bf (Eq.refl false) ?_) | (refine br_bt (Eq.refl true) ?_) | (refine br_bf (Eq.refl false) ?_) | (refine CallK.m ?_) | (refine And.intro (And.intro rfl rfl) ?_))
        intro ρ; show Value.bool _ = Value.bool _; simp only [onB, dd_f h3]; simp
    · repeat ((conv => whnf); first | (refine And.intro (by first | omega | exact Nat.le_of_ble_eq_true rfl | (dsimp only [inK]; omega) | (simp only [mulS_eq]; omega) | (simp only [mulS_eq, setL_length]; omega) | (simp only [setL_length, List.length_map]; omega) | exact ⟨by omega, by omega, by first | exact Nat.le_of_ble_eq_true rfl | (dsimp only; omega) | (simp only [setL_length]; omega) | (simp only [setL_length, List.length_map]; omega)⟩ | exact ⟨by omega, by first | rfl | omega, by omega, Nat.le_of_ble_eq_true rfl, Nat.le_of_ble_eq_true rfl⟩ | exact ⟨rfl, rfl, rfl, Nat.le_of_ble_eq_true rfl, by first | rfl | omega | exact Nat.le_of_ble_eq_true rfl | (dsimp only; omega) | (simp; done) | (simp; omega), by first | rfl | omega | exact Nat.le_of_ble_eq_true rfl | (dsimp only; omega) | (simp; done) | (simp; omega), by omega, Nat.le_of_ble_eq_true rfl⟩ | exact Eq.refl true) ?_) | (refine Exists.intro _ (And.intro rfl ?_)) | (refine And.intro (And.intro rfl (chk_rowI _ _ _ _)) ?_) | (refine br_t (by omega) ?_) | (refine br_f (by omega) ?_) | (refine bs_t (by omega) ?_) | (refine bs_f (by omega) ?_) | (refine fun (K' : K3) hK' => ?_) | (refine hK' _ _ _ ?_; clear hK' K') | (refine draw_auto tok mixed (by kernel_rfl) ?_) | (refine br_t h1 ?_) | (refine bs_t h1 ?_) | (refine br_f h2 ?_) | (refine bs_f h2 ?_) | (refine bs_bt (Eq.refl true) ?_) | (refine bs_bf (Eq.refl false) ?_) | (refine br_bt (Eq.refl true) ?_) | (refine br_bf (Eq.refl false) ?_) | (refine CallK.m ?_) | (refine And.intro (And.intro rfl rfl) ?_))
      intro ρ; show Value.bool _ = Value.bool _; simp only [onB, dd_f h2]; simp
  · repeat ((conv => whnf); first | (refine And.intro (by first | omega | exact Nat.le_of_ble_eq_true rfl | (dsimp only [inK]; omega) | (simp only [mulS_eq]; omega) | (simp only [mulS_eq, setL_length]; omega) | (simp only [setL_length, List.length_map]; omega) | exact ⟨by omega, by omega, by first | exact Nat.le_of_ble_eq_true rfl | (dsimp only; omega) | (simp only [setL_length]; omega) | (simp only [setL_length, List.length_map]; omega)⟩ | exact ⟨by omega, by first | rfl | omega, by omega, Nat.le_of_ble_eq_true rfl, Nat.le_of_ble_eq_true rfl⟩ | exact ⟨rfl, rfl, rfl, Nat.le_of_ble_eq_true rfl, by first | rfl | omega | exact Nat.le_of_ble_eq_true rfl | (dsimp only; omega) | (simp; done) | (simp; omega), by first | rfl | omega | exact Nat.le_of_ble_eq_true rfl | (dsimp only; omega) | (simp; done) | (simp; omega), by omega, Nat.le_of_ble_eq_true rfl⟩ | exact Eq.refl true) ?_) | (refine Exists.intro _ (And.intro rfl ?_)) | (refine And.intro (And.intro rfl (chk_rowI _ _ _ _)) ?_) | (refine br_t (by omega) ?_) | (refine br_f (by omega) ?_) | (refine bs_t (by omega) ?_) | (refine bs_f (by omega) ?_) | (refine fun (K' : K3) hK' => ?_) | (refine hK' _ _ _ ?_; clear hK' K') | (refine draw_auto tok mixed (by kernel_rfl) ?_) | (refine br_f h1 ?_) | (refine bs_f h1 ?_) | (refine bs_bt (Eq.refl true) ?_) | (refine bs_bf (Eq.refl false) ?_) | (refine br_bt (Eq.refl true) ?_) | (refine br_bf (Eq.refl false) ?_) | (refine CallK.m ?_) | (refine And.intro (And.intro rfl rfl) ?_))
    intro ρ; show Value.bool _ = Value.bool _; simp only [onB, dd_f h1]; simp
theorem apart_spec (x y u v : Int) (hx : -1000 ≤ x ∧ x ≤ 1000) (hy : -1000 ≤ y ∧ y ≤ 1000) (hu : -1000 ≤ u ∧ u ≤ 1000) (hv : -1000 ≤ v ∧ v ≤ 1000) : Spec Try.prog 112 [V.agg [C.i x, C.i y], V.agg [C.i u, C.i v]] [] 0 (Is (V.tup [A.c (C.i (mx (x - u) (u - x))), A.c (C.i (mx (y - v) (v - y)))])) := by
  refine Spec.of tok Try.func112 rfl rfl rfl fun n0 cx => vc_ok tok ?_
  repeat ((conv => whnf); first | (refine And.intro (by first | omega | exact Nat.le_of_ble_eq_true rfl | (dsimp only [inK]; omega) | (simp only [mulS_eq]; omega) | (simp only [mulS_eq, setL_length]; omega) | (simp only [setL_length, List.length_map]; omega) | exact ⟨by omega, by omega, by first | exact Nat.le_of_ble_eq_true rfl | (dsimp only; omega) | (simp only [setL_length]; omega) | (simp only [setL_length, List.length_map]; omega)⟩ | exact ⟨by omega, by first | rfl | omega, by omega, Nat.le_of_ble_eq_true rfl, Nat.le_of_ble_eq_true rfl⟩ | exact ⟨rfl, rfl, rfl, Nat.le_of_ble_eq_true rfl, by first | rfl | omega | exact Nat.le_of_ble_eq_true rfl | (dsimp only; omega) | (simp; done) | (simp; omega), by first | rfl | omega | exact Nat.le_of_ble_eq_true rfl | (dsimp only; omega) | (simp; done) | (simp; omega), by omega, Nat.le_of_ble_eq_true rfl⟩ | exact Eq.refl true) ?_) | (refine Exists.intro _ (And.intro rfl ?_)) | (refine And.intro (And.intro rfl (chk_rowI _ _ _ _)) ?_) | (refine br_t (by omega) ?_) | (refine br_f (by omega) ?_) | (refine bs_t (by omega) ?_) | (refine bs_f (by omega) ?_) | (refine fun (K' : K3) hK' => ?_) | (refine hK' _ _ _ ?_; clear hK' K') | (refine draw_auto tok mixed (by kernel_rfl) ?_) | (refine bs_bt (Eq.refl true) ?_) | (refine bs_bf (Eq.refl false) ?_) | (refine br_bt (Eq.refl true) ?_) | (refine br_bf (Eq.refl false) ?_) | (refine CallK.m ?_) | (refine And.intro (And.intro rfl rfl) ?_))
  intro ρ; rfl
def fourB (x y u v : Int) : Bool := decide (mx (x - u) (u - x) + mx (y - v) (v - y) = 1)
def eightB (x y u v : Int) : Bool := decide (mx (mx (x - u) (u - x)) (mx (y - v) (v - y)) = 1)
theorem mx_bd {a b : Int} (ha : -10000 ≤ a ∧ a ≤ 10000) (hb : -10000 ≤ b ∧ b ≤ 10000) : -10000 ≤ mx a b ∧ mx a b ≤ 10000 := by unfold mx; split <;> omega
theorem four_spec (x y u v : Int) (hx : -1000 ≤ x ∧ x ≤ 1000) (hy : -1000 ≤ y ∧ y ≤ 1000) (hu : -1000 ≤ u ∧ u ≤ 1000) (hv : -1000 ≤ v ∧ v ≤ 1000) : Spec Try.prog 102 [V.agg [C.i x, C.i y], V.agg [C.i u, C.i v]] [] 0 (Is (V.c (.bool (fourB x y u v)))) := by
  have h1 := mx_bd (a := x - u) (b := u - x) (by omega) (by omega)
  have h2 := mx_bd (a := y - v) (b := v - y) (by omega) (by omega)
  refine Spec.of tok Try.func102 rfl rfl rfl fun n0 cx => vc_ok tok ?_
  repeat ((conv => whnf); first | (refine And.intro (by first | omega | exact Nat.le_of_ble_eq_true rfl | (dsimp only [inK]; omega) | (simp only [mulS_eq]; omega) | (simp only [mulS_eq, setL_length]; omega) | (simp only [setL_length, List.length_map]; omega) | exact ⟨by omega, by omega, by first | exact Nat.le_of_ble_eq_true rfl | (dsimp only; omega) | (simp only [setL_length]; omega) | (simp only [setL_length, List.length_map]; omega)⟩ | exact ⟨by omega, by first | rfl | omega, by omega, Nat.le_of_ble_eq_true rfl, Nat.le_of_ble_eq_true rfl⟩ | exact ⟨rfl, rfl, rfl, Nat.le_of_ble_eq_true rfl, by first | rfl | omega | exact Nat.le_of_ble_eq_true rfl | (dsimp only; omega) | (simp; done) | (simp; omega), by first | rfl | omega | exact Nat.le_of_ble_eq_true rfl | (dsimp only; omega) | (simp; done) | (simp; omega), by omega, Nat.le_of_ble_eq_true rfl⟩ | exact Eq.refl true) ?_) | (refine Exists.intro _ (And.intro rfl ?_)) | (refine And.intro (And.intro rfl (chk_rowI _ _ _ _)) ?_) | (refine br_t (by omega) ?_) | (refine br_f (by omega) ?_) | (refine bs_t (by omega) ?_) | (refine bs_f (by omega) ?_) | (refine fun (K' : K3) hK' => ?_) | (refine hK' _ _ _ ?_; clear hK' K') | (refine draw_auto tok mixed (by kernel_rfl) ?_) | (refine CallK.val (R := []) (apart_spec x y u v hx hy hu hv) (by kernel_rfl) rfl (by simp [V.wf, A.wf, C.wf]) trivial rfl rfl (by simp [V.wf, A.wf, C.wf]) ?_) | (refine bs_bt (Eq.refl true) ?_) | (refine bs_bf (Eq.refl false) ?_) | (refine br_bt (Eq.refl true) ?_) | (refine br_bf (Eq.refl false) ?_) | (refine CallK.m ?_) | (refine And.intro (And.intro rfl rfl) ?_))
  intro ρ; rfl
theorem eight_spec (x y u v : Int) (hx : -1000 ≤ x ∧ x ≤ 1000) (hy : -1000 ≤ y ∧ y ≤ 1000) (hu : -1000 ≤ u ∧ u ≤ 1000) (hv : -1000 ≤ v ∧ v ≤ 1000) : Spec Try.prog 103 [V.agg [C.i x, C.i y], V.agg [C.i u, C.i v]] [] 0 (Is (V.c (.bool (eightB x y u v)))) := by
  have h1 := mx_bd (a := x - u) (b := u - x) (by omega) (by omega)
  have h2 := mx_bd (a := y - v) (b := v - y) (by omega) (by omega)
  refine Spec.of tok Try.func103 rfl rfl rfl fun n0 cx => vc_ok tok ?_
  repeat ((conv => whnf); first | (refine And.intro (by first | omega | exact Nat.le_of_ble_eq_true rfl | (dsimp only [inK]; omega) | (simp only [mulS_eq]; omega) | (simp only [mulS_eq, setL_length]; omega) | (simp only [setL_length, List.length_map]; omega) | exact ⟨by omega, by omega, by first | exact Nat.le_of_ble_eq_true rfl | (dsimp only; omega) | (simp only [setL_length]; omega) | (simp only [setL_length, List.length_map]; omega)⟩ | exact ⟨by omega, by first | rfl | omega, by omega, Nat.le_of_ble_eq_true rfl, Nat.le_of_ble_eq_true rfl⟩ | exact ⟨rfl, rfl, rfl, Nat.le_of_ble_eq_true rfl, by first | rfl | omega | exact Nat.le_of_ble_eq_true rfl | (dsimp only; omega) | (simp; done) | (simp; omega), by first | rfl | omega | exact Nat.le_of_ble_eq_true rfl | (dsimp only; omega) | (simp; done) | (simp; omega), by omega, Nat.le_of_ble_eq_true rfl⟩ | exact Eq.refl true) ?_) | (refine Exists.intro _ (And.intro rfl ?_)) | (refine And.intro (And.intro rfl (chk_rowI _ _ _ _)) ?_) | (refine br_t (by omega) ?_) | (refine br_f (by omega) ?_) | (refine bs_t (by omega) ?_) | (refine bs_f (by omega) ?_) | (refine fun (K' : K3) hK' => ?_) | (refine hK' _ _ _ ?_; clear hK' K') | (refine draw_auto tok mixed (by kernel_rfl) ?_) | (refine CallK.val (R := []) (apart_spec x y u v hx hy hu hv) (by kernel_rfl) rfl (by simp [V.wf, A.wf, C.wf]) trivial rfl rfl (by simp [V.wf, A.wf, C.wf]) ?_) | (refine bs_bt (Eq.refl true) ?_) | (refine bs_bf (Eq.refl false) ?_) | (refine br_bt (Eq.refl true) ?_) | (refine br_bf (Eq.refl false) ?_) | (refine CallK.m ?_) | (refine And.intro (And.intro rfl rfl) ?_))
  intro ρ; rfl
end Go.Proofs.Ytbhpnhcdjmcaoaa

/- Boom, the reference: the neighbours of a cell. -/
namespace Go.Proofs.Ytbhpnhcdjmcaoaa
open Go.RowKit
set_option linter.unusedVariables false
set_option linter.unusedSimpArgs false
theorem CallK.den {P : Program} {n0 : Nat} {f : FuncId} {vs vs' : List V} {L : List E} {nx : Nat} {K : V → List E → Nat → Prop} (hd : ∀ ρ, vs.map (V.den ρ) = vs'.map (V.den ρ)) (hw : ∀ v ∈ vs, v.wf nx) (h : CallK P n0 f vs L nx K) : CallK P n0 f vs' L nx K :=
  ⟨h.ok, fun ρ w hp _ => by rw [← hd]; exact h.run ρ w hp hw⟩
theorem four_cand (x y : Int) {a b : Nat} (ha : a < 3) (hb : b < 3) : fourB x y (x + ((b : Int) - 1)) (y + ((a : Int) - 1)) = decide ((b ≠ 1 ∧ a = 1) ∨ (b = 1 ∧ a ≠ 1)) := by
  unfold fourB mx
  rw [decide_eq_decide]
  split <;> split <;> omega
theorem eight_cand (x y : Int) {a b : Nat} (ha : a < 3) (hb : b < 3) : eightB x y (x + ((b : Int) - 1)) (y + ((a : Int) - 1)) = decide (¬ (b = 1 ∧ a = 1)) := by
  unfold eightB mx
  rw [decide_eq_decide]
  split <;> split <;> split <;> omega
theorem onB_t {W H x y : Int} (h : onB W H x y = true) : (0 ≤ x ∧ x < W) ∧ 0 ≤ y ∧ y < H := by
  simp only [onB, Bool.and_eq_true, decide_eq_true_eq] at h; omega
theorem onB_f {W H x y : Int} (h : onB W H x y = false) : ¬ ((0 ≤ x ∧ x < W) ∧ 0 ≤ y ∧ y < H) := fun hh => by
  rw [onB, dd_t (show x ≥ 0 by omega), dd_t (show x < W by omega), dd_t (show y ≥ 0 by omega), dd_t (show y < H by omega)] at h; cases h
theorem idxI_on {W H x y : Int} (h : onB W H x y = true) : idxI W H x y = y * W + x ∧ idxI W H x y ≥ 0 := by
  have := onB_t h
  unfold idxI
  rw [if_pos (by omega)]
  have : 0 ≤ y * W := Int.mul_nonneg (by omega) (by omega)
  exact ⟨rfl, by omega⟩
theorem idxI_off {W H x y : Int} (h : onB W H x y = false) : ¬ idxI W H x y ≥ 0 := by
  have := onB_f h
  unfold idxI
  rw [if_neg (by omega)]; omega
def intsR (l : List Int) (v : V) (L' : List E) : Prop := ∃ lab, v = V.c (.sl lab l.length) ∧ find L' lab = some ⟨lab, .vec 3 1, l.map C.i⟩
set_option maxRecDepth 10000 in
set_option maxHeartbeats 4000000 in
theorem beside_spec (W H : Int) (n : Nat) (i : Int) (e : Bool) (hW : 0 < W ∧ W ≤ 10) (hH : 0 < H ∧ H ≤ 10) (hi : 0 ≤ i ∧ i ≤ 500) : Spec Try.prog 63 [chR W H n, V.i i, V.c (.bool e)] [] 1 (fun v L' _ => intsR (nearL W H e i) v L') := by
  have hx0 : 0 ≤ i % W := Int.emod_nonneg _ (by omega)
  have hx1 : i % W < W := Int.emod_lt_of_pos _ (by omega)
  have hy0 : 0 ≤ i / W := Int.ediv_nonneg hi.1 (by omega)
  have hy1 : i / W ≤ 500 := Int.le_trans (Int.ediv_le_self _ hi.1) (by omega)
  obtain ⟨x, hx⟩ : ∃ x, x = i % W := ⟨_, rfl⟩
  obtain ⟨y, hy⟩ : ∃ y, y = i / W := ⟨_, rfl⟩
  have hat := at_spec W H n i (by omega) (by omega)
  rw [← hx, ← hy] at hat
  rw [← hx] at hx0 hx1
  rw [← hy] at hy0 hy1
  refine Spec.of tok Try.func63 rfl rfl rfl fun n0 cx => vc_ok tok ?_
  repeat ((conv => whnf); first | (refine And.intro (by first | omega | exact Nat.le_of_ble_eq_true rfl | (dsimp only [inK]; omega) | (simp only [mulS_eq]; omega) | (simp only [mulS_eq, setL_length]; omega) | (simp only [setL_length, List.length_map]; omega) | exact ⟨by omega, by omega, by first | exact Nat.le_of_ble_eq_true rfl | (dsimp only; omega) | (simp only [setL_length]; omega) | (simp only [setL_length, List.length_map]; omega)⟩ | exact ⟨by omega, by first | rfl | omega, by omega, Nat.le_of_ble_eq_true rfl, Nat.le_of_ble_eq_true rfl⟩ | exact ⟨rfl, rfl, rfl, Nat.le_of_ble_eq_true rfl, by first | rfl | omega | exact Nat.le_of_ble_eq_true rfl | (dsimp only; omega) | (simp; done) | (simp; omega), by first | rfl | omega | exact Nat.le_of_ble_eq_true rfl | (dsimp only; omega) | (simp; done) | (simp; omega), by omega, Nat.le_of_ble_eq_true rfl⟩ | exact Eq.refl true) ?_) | (refine Exists.intro _ (And.intro rfl ?_)) | (refine And.intro (And.intro rfl (chk_rowI _ _ _ _)) ?_) | (refine br_t (by omega) ?_) | (refine br_f (by omega) ?_) | (refine bs_t (by omega) ?_) | (refine bs_f (by omega) ?_) | (refine fun (K' : K3) hK' => ?_) | (refine hK' _ _ _ ?_; clear hK' K') | (refine draw_auto tok mixed (by kernel_rfl) ?_) | (refine CallK.val (R := []) hat (by kernel_rfl) rfl (by simp [V.wf, A.wf, C.wf]) trivial rfl rfl (by simp [V.wf, A.wf, C.wf]) ?_) | (refine bs_bt (Eq.refl true) ?_) | (refine bs_bf (Eq.refl false) ?_) | (refine br_bt (Eq.refl true) ?_) | (refine br_bf (Eq.refl false) ?_) | (refine CallK.m ?_) | (refine And.intro (And.intro rfl rfl) ?_))
  refine Tri.loop (γ := Nat × Nat) (fun g => g.1 ≤ 3 ∧ (candP W H e i (3 * g.1)).length = g.2) (fun g => [(2, V.c (.bool e)), (3, V.c (.ptr 1 0)), (7, V.c (.sl 3 g.2)), (8, V.c (.ptr 2 0)), (9, V.i ((g.1 : Int) - 1))])
    (fun g => [⟨3, .vec 3 1, (candP W H e i (3 * g.1)).map C.i⟩, ⟨2, .own 57, [C.i x, C.i y]⟩, ⟨1, .own 24, [C.i W, C.i H, .sl 0 n]⟩]) 4 (fun g => 3 - g.1) (0, 0) (R0 := [(3, none)]) ?_ ?_ ?_
  · exact ⟨by omega, rfl⟩
  · skip
    refine ⟨?_, ?_, rfl, rfl, by first | exact Nat.le_of_ble_eq_true rfl | exact Nat.le_refl _ | omega⟩
    · repeat (first | exact trivial | refine And.intro (covS_syn (by first | rfl) rfl (by first | exact trivial | exact Nat.le_of_ble_eq_true rfl | exact hy | exact (fun p hp => nomatch hp) | (show (_ : Nat) < _; omega))) ?_ | refine And.intro (covS_bool rfl rfl (by first | rfl)) ?_)
    · repeat (first | exact trivial | refine And.intro (covE_nil rfl (Nat.le_of_ble_eq_true rfl) rfl rfl) ?_ | refine And.intro (covE_some rfl (Nat.le_of_ble_eq_true rfl) (by first | exact wf_ints _ _ | exact wf_bools _ _ | first | exact wf_cells _ _ | simp [C.wf]) rfl (by first | exact ren_ints _ _ | exact ren_bools _ _ | exact ren_shares _ _ | rfl)) ?_)
  · rintro ⟨a, m0⟩ ⟨ha, hm0⟩
    simp only at ha hm0 ⊢
    refine vc_ok tok ?_
    by_cases ha3 : a < 3
    · repeat ((conv => whnf); first | (refine And.intro (by first | omega | exact Nat.le_of_ble_eq_true rfl | (dsimp only [inK]; omega) | (simp only [mulS_eq]; omega) | (simp only [mulS_eq, setL_length]; omega) | (simp only [setL_length, List.length_map]; omega) | exact ⟨by omega, by omega, by first | exact Nat.le_of_ble_eq_true rfl | (dsimp only; omega) | (simp only [setL_length]; omega) | (simp only [setL_length, List.length_map]; omega)⟩ | exact ⟨by omega, by first | rfl | omega, by omega, Nat.le_of_ble_eq_true rfl, Nat.le_of_ble_eq_true rfl⟩ | exact ⟨rfl, rfl, rfl, Nat.le_of_ble_eq_true rfl, by first | rfl | omega | exact Nat.le_of_ble_eq_true rfl | (dsimp only; omega) | (simp; done) | (simp; omega), by first | rfl | omega | exact Nat.le_of_ble_eq_true rfl | (dsimp only; omega) | (simp; done) | (simp; omega), by omega, Nat.le_of_ble_eq_true rfl⟩ | exact Eq.refl true) ?_) | (refine Exists.intro _ (And.intro rfl ?_)) | (refine And.intro (And.intro rfl (chk_rowI _ _ _ _)) ?_) | (refine br_t (by omega) ?_) | (refine br_f (by omega) ?_) | (refine bs_t (by omega) ?_) | (refine bs_f (by omega) ?_) | (refine fun (K' : K3) hK' => ?_) | (refine hK' _ _ _ ?_; clear hK' K') | (refine draw_auto tok mixed (by kernel_rfl) ?_) | (refine bs_bt (Eq.refl true) ?_) | (refine bs_bf (Eq.refl false) ?_) | (refine br_bt (Eq.refl true) ?_) | (refine br_bf (Eq.refl false) ?_) | (refine CallK.m ?_) | (refine And.intro (And.intro rfl rfl) ?_))
      refine Tri.loop (γ := Nat × Nat) (fun g => g.1 ≤ 3 ∧ (candP W H e i (3 * a + g.1)).length = g.2) (fun g => [(2, V.c (.bool e)), (3, V.c (.ptr 1 0)), (7, V.c (.sl 3 g.2)), (8, V.c (.ptr 2 0)), (9, V.i ((a : Int) - 1)), (10, V.i ((g.1 : Int) - 1))])
        (fun g => [⟨3, .vec 3 1, (candP W H e i (3 * a + g.1)).map C.i⟩, ⟨2, .own 57, [C.i x, C.i y]⟩, ⟨1, .own 24, [C.i W, C.i H, .sl 0 n]⟩]) 4 (fun g => 3 - g.1) (0, m0) (R0 := []) ?_ ?_ ?_
      · exact ⟨by omega, hm0⟩
      · skip
        refine ⟨?_, ?_, rfl, rfl, by first | exact Nat.le_of_ble_eq_true rfl | exact Nat.le_refl _ | omega⟩
        · repeat (first | exact trivial | refine And.intro (covS_syn (by first | rfl | (refine congrArg some (congrArg V.i ?_); omega)) rfl (by first | exact trivial | exact Nat.le_of_ble_eq_true rfl | exact hy | exact (fun p hp => nomatch hp) | (show (_ : Nat) < _; omega))) ?_ | refine And.intro (covS_bool rfl rfl (by first | rfl)) ?_)
        · repeat (first | exact trivial | refine And.intro (covE_id (Nat.le_of_ble_eq_true rfl) (by first | exact wf_ints _ _ | exact wf_bools _ _ | first | exact wf_cells _ _ | simp [C.wf]) rfl (by first | rfl)) ?_)
      · rintro ⟨b, m⟩ ⟨hb, hm⟩
        simp only at hb hm ⊢
        have hm9 : m ≤ 9 := by
          rw [← hm]; unfold candP
          refine Nat.le_trans (List.length_filterMap_le _ _) ?_
          rw [List.length_range]
          by_cases q : b = 3
          · omega
          · omega
        refine vc_ok tok ?_
        by_cases hb3 : b < 3
        · have hon := on_spec W H n (x + ((b : Int) - 1)) (y + ((a : Int) - 1))
          have hfo := four_spec x y (x + ((b : Int) - 1)) (y + ((a : Int) - 1)) (by omega) (by omega) (by omega) (by omega)
          have hei := eight_spec x y (x + ((b : Int) - 1)) (y + ((a : Int) - 1)) (by omega) (by omega) (by omega) (by omega)
          have hix := rindex_spec W H n (x + ((b : Int) - 1)) (y + ((a : Int) - 1)) hW (by omega) (by omega)
          have f4 := four_cand x y ha3 hb3
          have f8 := eight_cand x y ha3 hb3
          have hnone : ((b = 1 ∧ a = 1) ∨ (e = false ∧ b ≠ 1 ∧ a ≠ 1)) → candP W H e i (3 * a + (b + 1)) = candP W H e i (3 * a + b) := fun hs => candP_none hb3 (cand_skip hs)
          cases hob : onB W H (x + ((b : Int) - 1)) (y + ((a : Int) - 1)) with
          | false =>
            have hst : candP W H e i (3 * a + (b + 1)) = candP W H e i (3 * a + b) := candP_none hb3 (by rw [← hx, ← hy]; exact cand_out (idxI_off hob))
            repeat ((conv => whnf); first | (refine And.intro (by first | omega | exact Nat.le_of_ble_eq_true rfl | (dsimp only [inK]; omega) | (simp only [mulS_eq]; omega) | (simp only [mulS_eq, setL_length]; omega) | (simp only [setL_length, List.length_map]; omega) | exact ⟨by omega, by omega, by first | exact Nat.le_of_ble_eq_true rfl | (dsimp only; omega) | (simp only [setL_length]; omega) | (simp only [setL_length, List.length_map]; omega)⟩ | exact ⟨by omega, by first | rfl | omega, by omega, Nat.le_of_ble_eq_true rfl, Nat.le_of_ble_eq_true rfl⟩ | exact ⟨rfl, rfl, rfl, Nat.le_of_ble_eq_true rfl, by first | rfl | omega | exact Nat.le_of_ble_eq_true rfl | (dsimp only; omega) | (simp; done) | (simp; omega), by first | rfl | omega | exact Nat.le_of_ble_eq_true rfl | (dsimp only; omega) | (simp; done) | (simp; omega), by omega, Nat.le_of_ble_eq_true rfl⟩ | exact Eq.refl true) ?_) | (refine Exists.intro _ (And.intro rfl ?_)) | (refine And.intro (And.intro rfl (chk_rowI _ _ _ _)) ?_) | (refine br_t (by omega) ?_) | (refine br_f (by omega) ?_) | (refine bs_t (by omega) ?_) | (refine bs_f (by omega) ?_) | (refine fun (K' : K3) hK' => ?_) | (refine hK' _ _ _ ?_; clear hK' K') | (refine draw_auto tok mixed (by kernel_rfl) ?_) | (refine CallK.val (R := []) hon (by kernel_rfl) rfl (by simp [V.wf, A.wf, C.wf]) trivial rfl rfl trivial ?_) | (refine bs_bf hob ?_) | (refine br_bf hob ?_) | (refine bs_bt (Eq.refl true) ?_) | (refine bs_bf (Eq.refl false) ?_) | (refine br_bt (Eq.refl true) ?_) | (refine br_bf (Eq.refl false) ?_) | (refine CallK.m ?_) | (refine And.intro (And.intro rfl rfl) ?_))
            refine ⟨(b + 1, m), [], ⟨by simp only; omega, by simp only [hst]; exact hm⟩, by simp only; omega, ?_⟩
            refine ⟨?_, ?_, rfl, rfl, by first | exact Nat.le_of_ble_eq_true rfl | exact Nat.le_refl _ | omega⟩
            · repeat (first | exact trivial | refine And.intro (covS_syn (by first | rfl | (refine congrArg some (congrArg V.i ?_); first | omega | (simp only; omega))) rfl (by first | exact trivial | exact Nat.le_of_ble_eq_true rfl | exact hy | exact (fun p hp => nomatch hp) | (show (_ : Nat) < _; omega))) ?_ | refine And.intro (covS_bool rfl rfl (by first | rfl)) ?_)
            · repeat (first | exact trivial | refine And.intro (covE_id (Nat.le_of_ble_eq_true rfl) (by first | exact wf_ints _ _ | exact wf_bools _ _ | first | exact wf_cells _ _ | simp [C.wf]) rfl (by first | rfl | (exact congrArg (List.map C.i) hst.symm))) ?_)
          | true =>
            have hxy := onB_t hob
            have hsome : ¬ ((b = 1 ∧ a = 1) ∨ (e = false ∧ b ≠ 1 ∧ a ≠ 1)) → candP W H e i (3 * a + (b + 1)) = candP W H e i (3 * a + b) ++ [(y + ((a : Int) - 1)) * W + (x + ((b : Int) - 1))] := fun hs => by
              obtain ⟨q1, q2⟩ := idxI_on hob
              refine candP_some hb3 ?_
              rw [← hx, ← hy, cand_in hs q2, q1]
            cases h4 : fourB x y (x + ((b : Int) - 1)) (y + ((a : Int) - 1)) with
            | true =>
              rw [h4] at f4
              have f4' := of_decide_eq_true f4.symm
              have hst := hsome (by rintro (⟨_, _⟩ | ⟨_, _, _⟩) <;> omega)
              repeat ((conv => whnf); first | (refine And.intro (by first | omega | exact Nat.le_of_ble_eq_true rfl | (dsimp only [inK]; omega) | (simp only [mulS_eq]; omega) | (simp only [mulS_eq, setL_length]; omega) | (simp only [setL_length, List.length_map]; omega) | exact ⟨by omega, by omega, by first | exact Nat.le_of_ble_eq_true rfl | (dsimp only; omega) | (simp only [setL_length]; omega) | (simp only [setL_length, List.length_map]; omega)⟩ | exact ⟨by omega, by first | rfl | omega, by omega, Nat.le_of_ble_eq_true rfl, Nat.le_of_ble_eq_true rfl⟩ | exact ⟨rfl, rfl, rfl, Nat.le_of_ble_eq_true rfl, by first | rfl | omega | exact Nat.le_of_ble_eq_true rfl | (dsimp only; omega) | (simp; done) | (simp; omega), by first | rfl | omega | exact Nat.le_of_ble_eq_true rfl | (dsimp only; omega) | (simp; done) | (simp; omega), by omega, Nat.le_of_ble_eq_true rfl⟩ | exact Eq.refl true) ?_) | (refine Exists.intro _ (And.intro rfl ?_)) | (refine And.intro (And.intro rfl (chk_rowI _ _ _ _)) ?_) | (refine br_t (by omega) ?_) | (refine br_f (by omega) ?_) | (refine bs_t (by omega) ?_) | (refine bs_f (by omega) ?_) | (refine fun (K' : K3) hK' => ?_) | (refine hK' _ _ _ ?_; clear hK' K') | (refine draw_auto tok mixed (by kernel_rfl) ?_) | (refine CallK.val (R := []) hon (by kernel_rfl) rfl (by simp [V.wf, A.wf, C.wf]) trivial rfl rfl trivial ?_) | (refine bs_bt hob ?_) | (refine br_bt hob ?_) | (refine CallK.val (R := []) hfo (by kernel_rfl) rfl (by simp [V.wf, A.wf, C.wf]) trivial rfl rfl trivial ?_) | (refine bs_bt h4 ?_) | (refine br_bt h4 ?_) | (refine CallK.val (R := []) hix (by kernel_rfl) rfl (by simp [V.wf, A.wf, C.wf]) trivial rfl rfl trivial ?_) | (refine bs_bt (Eq.refl true) ?_) | (refine bs_bf (Eq.refl false) ?_) | (refine br_bt (Eq.refl true) ?_) | (refine br_bf (Eq.refl false) ?_) | (refine CallK.m ?_) | (refine And.intro (And.intro rfl rfl) ?_))
              refine ⟨(b + 1, m + 1), [(3, some 6)], ⟨by simp only; omega, by simp only [hst, List.length_append, hm]; rfl⟩, by simp only; omega, ?_⟩
              refine ⟨?_, ?_, rfl, rfl, by first | exact Nat.le_of_ble_eq_true rfl | exact Nat.le_refl _ | omega⟩
              · repeat (first | exact trivial | refine And.intro (covS_syn (by first | rfl | (refine congrArg some (congrArg V.i ?_); first | omega | (simp only; omega))) rfl (by first | exact trivial | exact Nat.le_of_ble_eq_true rfl | exact hy | exact (fun p hp => nomatch hp) | (show (_ : Nat) < _; omega))) ?_ | refine And.intro (covS_bool rfl rfl (by first | rfl)) ?_)
              · repeat (first | exact trivial | refine And.intro (covE_nil rfl (Nat.le_of_ble_eq_true rfl) rfl rfl) ?_ | refine And.intro (covE_some rfl (Nat.le_of_ble_eq_true rfl) (by first | exact wf_ints _ _ | exact wf_bools _ _ | first | exact wf_cells _ _ | simp [C.wf]) rfl (by first | exact ren_ints _ _ | exact ren_bools _ _ | exact ren_shares _ _ | (refine (ren_ints _ _).trans (congrArg some ?_); rw [hst, List.map_append]; rfl) | rfl)) ?_)
            | false =>
              rw [h4] at f4
              have f4' := of_decide_eq_false f4.symm
              cases e with
              | false =>
                have hst := hnone (Classical.byCases (fun q : b = 1 => .inl ⟨q, by omega⟩) (fun q => .inr ⟨rfl, q, by omega⟩))
                repeat ((conv => whnf); first | (refine And.intro (by first | omega | exact Nat.le_of_ble_eq_true rfl | (dsimp only [inK]; omega) | (simp only [mulS_eq]; omega) | (simp only [mulS_eq, setL_length]; omega) | (simp only [setL_length, List.length_map]; omega) | exact ⟨by omega, by omega, by first | exact Nat.le_of_ble_eq_true rfl | (dsimp only; omega) | (simp only [setL_length]; omega) | (simp only [setL_length, List.length_map]; omega)⟩ | exact ⟨by omega, by first | rfl | omega, by omega, Nat.le_of_ble_eq_true rfl, Nat.le_of_ble_eq_true rfl⟩ | exact ⟨rfl, rfl, rfl, Nat.le_of_ble_eq_true rfl, by first | rfl | omega | exact Nat.le_of_ble_eq_true rfl | (dsimp only; omega) | (simp; done) | (simp; omega), by first | rfl | omega | exact Nat.le_of_ble_eq_true rfl | (dsimp only; omega) | (simp; done) | (simp; omega), by omega, Nat.le_of_ble_eq_true rfl⟩ | exact Eq.refl true) ?_) | (refine Exists.intro _ (And.intro rfl ?_)) | (refine And.intro (And.intro rfl (chk_rowI _ _ _ _)) ?_) | (refine br_t (by omega) ?_) | (refine br_f (by omega) ?_) | (refine bs_t (by omega) ?_) | (refine bs_f (by omega) ?_) | (refine fun (K' : K3) hK' => ?_) | (refine hK' _ _ _ ?_; clear hK' K') | (refine draw_auto tok mixed (by kernel_rfl) ?_) | (refine CallK.val (R := []) hon (by kernel_rfl) rfl (by simp [V.wf, A.wf, C.wf]) trivial rfl rfl trivial ?_) | (refine bs_bt hob ?_) | (refine br_bt hob ?_) | (refine CallK.val (R := []) hfo (by kernel_rfl) rfl (by simp [V.wf, A.wf, C.wf]) trivial rfl rfl trivial ?_) | (refine bs_bf h4 ?_) | (refine br_bf h4 ?_) | (refine bs_bt (Eq.refl true) ?_) | (refine bs_bf (Eq.refl false) ?_) | (refine br_bt (Eq.refl true) ?_) | (refine br_bf (Eq.refl false) ?_) | (refine CallK.m ?_) | (refine And.intro (And.intro rfl rfl) ?_))
                refine ⟨(b + 1, m), [], ⟨by simp only; omega, by simp only [hst]; exact hm⟩, by simp only; omega, ?_⟩
                refine ⟨?_, ?_, rfl, rfl, by first | exact Nat.le_of_ble_eq_true rfl | exact Nat.le_refl _ | omega⟩
                · repeat (first | exact trivial | refine And.intro (covS_syn (by first | rfl | (refine congrArg some (congrArg V.i ?_); first | omega | (simp only; omega))) rfl (by first | exact trivial | exact Nat.le_of_ble_eq_true rfl | exact hy | exact (fun p hp => nomatch hp) | (show (_ : Nat) < _; omega))) ?_ | refine And.intro (covS_bool rfl rfl (by first | rfl)) ?_)
                · repeat (first | exact trivial | refine And.intro (covE_id (Nat.le_of_ble_eq_true rfl) (by first | exact wf_ints _ _ | exact wf_bools _ _ | first | exact wf_cells _ _ | simp [C.wf]) rfl (by first | rfl | (exact congrArg (List.map C.i) hst.symm))) ?_)
              | true =>
                cases h8 : eightB x y (x + ((b : Int) - 1)) (y + ((a : Int) - 1)) with
                | true =>
                  rw [h8] at f8
                  have f8' := of_decide_eq_true f8.symm
                  have hst := hsome (fun h => h.elim f8' (fun h => by cases h.1))
                  repeat ((conv => whnf); first | (refine And.intro (by first | omega | exact Nat.le_of_ble_eq_true rfl | (dsimp only [inK]; omega) | (simp only [mulS_eq]; omega) | (simp only [mulS_eq, setL_length]; omega) | (simp only [setL_length, List.length_map]; omega) | exact ⟨by omega, by omega, by first | exact Nat.le_of_ble_eq_true rfl | (dsimp only; omega) | (simp only [setL_length]; omega) | (simp only [setL_length, List.length_map]; omega)⟩ | exact ⟨by omega, by first | rfl | omega, by omega, Nat.le_of_ble_eq_true rfl, Nat.le_of_ble_eq_true rfl⟩ | exact ⟨rfl, rfl, rfl, Nat.le_of_ble_eq_true rfl, by first | rfl | omega | exact Nat.le_of_ble_eq_true rfl | (dsimp only; omega) | (simp; done) | (simp; omega), by first | rfl | omega | exact Nat.le_of_ble_eq_true rfl | (dsimp only; omega) | (simp; done) | (simp; omega), by omega, Nat.le_of_ble_eq_true rfl⟩ | exact Eq.refl true) ?_) | (refine Exists.intro _ (And.intro rfl ?_)) | (refine And.intro (And.intro rfl (chk_rowI _ _ _ _)) ?_) | (refine br_t (by omega) ?_) | (refine br_f (by omega) ?_) | (refine bs_t (by omega) ?_) | (refine bs_f (by omega) ?_) | (refine fun (K' : K3) hK' => ?_) | (refine hK' _ _ _ ?_; clear hK' K') | (refine draw_auto tok mixed (by kernel_rfl) ?_) | (refine CallK.val (R := []) hon (by kernel_rfl) rfl (by simp [V.wf, A.wf, C.wf]) trivial rfl rfl trivial ?_) | (refine bs_bt hob ?_) | (refine br_bt hob ?_) | (refine CallK.val (R := []) hfo (by kernel_rfl) rfl (by simp [V.wf, A.wf, C.wf]) trivial rfl rfl trivial ?_) | (refine bs_bf h4 ?_) | (refine br_bf h4 ?_) | (refine CallK.val (R := []) hei (by kernel_rfl) rfl (by simp [V.wf, A.wf, C.wf]) trivial rfl rfl trivial ?_) | (refine bs_bt h8 ?_) | (refine br_bt h8 ?_) | (refine CallK.val (R := []) hix (by kernel_rfl) rfl (by simp [V.wf, A.wf, C.wf]) trivial rfl rfl trivial ?_) | (refine bs_bt (Eq.refl true) ?_) | (refine bs_bf (Eq.refl false) ?_) | (refine br_bt (Eq.refl true) ?_) | (refine br_bf (Eq.refl false) ?_) | (refine CallK.m ?_) | (refine And.intro (And.intro rfl rfl) ?_))
                  refine ⟨(b + 1, m + 1), [(3, some 6)], ⟨by simp only; omega, by simp only [hst, List.length_append, hm]; rfl⟩, by simp only; omega, ?_⟩
                  refine ⟨?_, ?_, rfl, rfl, by first | exact Nat.le_of_ble_eq_true rfl | exact Nat.le_refl _ | omega⟩
                  · repeat (first | exact trivial | refine And.intro (covS_syn (by first | rfl | (refine congrArg some (congrArg V.i ?_); first | omega | (simp only; omega))) rfl (by first | exact trivial | exact Nat.le_of_ble_eq_true rfl | exact hy | exact (fun p hp => nomatch hp) | (show (_ : Nat) < _; omega))) ?_ | refine And.intro (covS_bool rfl rfl (by first | rfl)) ?_)
                  · repeat (first | exact trivial | refine And.intro (covE_nil rfl (Nat.le_of_ble_eq_true rfl) rfl rfl) ?_ | refine And.intro (covE_some rfl (Nat.le_of_ble_eq_true rfl) (by first | exact wf_ints _ _ | exact wf_bools _ _ | first | exact wf_cells _ _ | simp [C.wf]) rfl (by first | exact ren_ints _ _ | exact ren_bools _ _ | exact ren_shares _ _ | (refine (ren_ints _ _).trans (congrArg some ?_); rw [hst, List.map_append]; rfl) | rfl)) ?_)
                | false =>
                  rw [h8] at f8
                  have f8' := of_decide_eq_false f8.symm
                  have hst := hnone (.inl (Classical.byContradiction fun h => f8' h))
                  repeat ((conv => whnf); first | (refine And.intro (by first | omega | exact Nat.le_of_ble_eq_true rfl | (dsimp only [inK]; omega) | (simp only [mulS_eq]; omega) | (simp only [mulS_eq, setL_length]; omega) | (simp only [setL_length, List.length_map]; omega) | exact ⟨by omega, by omega, by first | exact Nat.le_of_ble_eq_true rfl | (dsimp only; omega) | (simp only [setL_length]; omega) | (simp only [setL_length, List.length_map]; omega)⟩ | exact ⟨by omega, by first | rfl | omega, by omega, Nat.le_of_ble_eq_true rfl, Nat.le_of_ble_eq_true rfl⟩ | exact ⟨rfl, rfl, rfl, Nat.le_of_ble_eq_true rfl, by first | rfl | omega | exact Nat.le_of_ble_eq_true rfl | (dsimp only; omega) | (simp; done) | (simp; omega), by first | rfl | omega | exact Nat.le_of_ble_eq_true rfl | (dsimp only; omega) | (simp; done) | (simp; omega), by omega, Nat.le_of_ble_eq_true rfl⟩ | exact Eq.refl true) ?_) | (refine Exists.intro _ (And.intro rfl ?_)) | (refine And.intro (And.intro rfl (chk_rowI _ _ _ _)) ?_) | (refine br_t (by omega) ?_) | (refine br_f (by omega) ?_) | (refine bs_t (by omega) ?_) | (refine bs_f (by omega) ?_) | (refine fun (K' : K3) hK' => ?_) | (refine hK' _ _ _ ?_; clear hK' K') | (refine draw_auto tok mixed (by kernel_rfl) ?_) | (refine CallK.val (R := []) hon (by kernel_rfl) rfl (by simp [V.wf, A.wf, C.wf]) trivial rfl rfl trivial ?_) | (refine bs_bt hob ?_) | (refine br_bt hob ?_) | (refine CallK.val (R := []) hfo (by kernel_rfl) rfl (by simp [V.wf, A.wf, C.wf]) trivial rfl rfl trivial ?_) | (refine bs_bf h4 ?_) | (refine br_bf h4 ?_) | (refine CallK.val (R := []) hei (by kernel_rfl) rfl (by simp [V.wf, A.wf, C.wf]) trivial rfl rfl trivial ?_) | (refine bs_bf h8 ?_) | (refine br_bf h8 ?_) | (refine bs_bt (Eq.refl true) ?_) | (refine bs_bf (Eq.refl false) ?_) | (refine br_bt (Eq.refl true) ?_) | (refine br_bf (Eq.refl false) ?_) | (refine CallK.m ?_) | (refine And.intro (And.intro rfl rfl) ?_))
                  refine ⟨(b + 1, m), [], ⟨by simp only; omega, by simp only [hst]; exact hm⟩, by simp only; omega, ?_⟩
                  refine ⟨?_, ?_, rfl, rfl, by first | exact Nat.le_of_ble_eq_true rfl | exact Nat.le_refl _ | omega⟩
                  · repeat (first | exact trivial | refine And.intro (covS_syn (by first | rfl | (refine congrArg some (congrArg V.i ?_); first | omega | (simp only; omega))) rfl (by first | exact trivial | exact Nat.le_of_ble_eq_true rfl | exact hy | exact (fun p hp => nomatch hp) | (show (_ : Nat) < _; omega))) ?_ | refine And.intro (covS_bool rfl rfl (by first | rfl)) ?_)
                  · repeat (first | exact trivial | refine And.intro (covE_id (Nat.le_of_ble_eq_true rfl) (by first | exact wf_ints _ _ | exact wf_bools _ _ | first | exact wf_cells _ _ | simp [C.wf]) rfl (by first | rfl | (exact congrArg (List.map C.i) hst.symm))) ?_)
        · have hb3' : b = 3 := by omega
          subst hb3'
          have h3 : 3 * a + 3 = 3 * (a + 1) := by omega
          repeat ((conv => whnf); first | (refine And.intro (by first | omega | exact Nat.le_of_ble_eq_true rfl | (dsimp only [inK]; omega) | (simp only [mulS_eq]; omega) | (simp only [mulS_eq, setL_length]; omega) | (simp only [setL_length, List.length_map]; omega) | exact ⟨by omega, by omega, by first | exact Nat.le_of_ble_eq_true rfl | (dsimp only; omega) | (simp only [setL_length]; omega) | (simp only [setL_length, List.length_map]; omega)⟩ | exact ⟨by omega, by first | rfl | omega, by omega, Nat.le_of_ble_eq_true rfl, Nat.le_of_ble_eq_true rfl⟩ | exact ⟨rfl, rfl, rfl, Nat.le_of_ble_eq_true rfl, by first | rfl | omega | exact Nat.le_of_ble_eq_true rfl | (dsimp only; omega) | (simp; done) | (simp; omega), by first | rfl | omega | exact Nat.le_of_ble_eq_true rfl | (dsimp only; omega) | (simp; done) | (simp; omega), by omega, Nat.le_of_ble_eq_true rfl⟩ | exact Eq.refl true) ?_) | (refine Exists.intro _ (And.intro rfl ?_)) | (refine And.intro (And.intro rfl (chk_rowI _ _ _ _)) ?_) | (refine br_t (by omega) ?_) | (refine br_f (by omega) ?_) | (refine bs_t (by omega) ?_) | (refine bs_f (by omega) ?_) | (refine fun (K' : K3) hK' => ?_) | (refine hK' _ _ _ ?_; clear hK' K') | (refine draw_auto tok mixed (by kernel_rfl) ?_) | (refine bs_bt (Eq.refl true) ?_) | (refine bs_bf (Eq.refl false) ?_) | (refine br_bt (Eq.refl true) ?_) | (refine br_bf (Eq.refl false) ?_) | (refine CallK.m ?_) | (refine And.intro (And.intro rfl rfl) ?_))
          refine ⟨(a + 1, m), [], ⟨by simp only; omega, by simp only; rw [← h3]; exact hm⟩, by simp only; omega, ?_⟩
          refine ⟨?_, ?_, rfl, rfl, by first | exact Nat.le_of_ble_eq_true rfl | exact Nat.le_refl _ | omega⟩
          · repeat (first | exact trivial | refine And.intro (covS_syn (by first | rfl | (refine congrArg some (congrArg V.i ?_); first | omega | (simp only; omega))) rfl (by first | exact trivial | exact Nat.le_of_ble_eq_true rfl | exact hy | exact (fun p hp => nomatch hp) | (show (_ : Nat) < _; omega))) ?_ | refine And.intro (covS_bool rfl rfl (by first | rfl)) ?_)
          · repeat (first | exact trivial | refine And.intro (covE_id (Nat.le_of_ble_eq_true rfl) (by first | exact wf_ints _ _ | exact wf_bools _ _ | first | exact wf_cells _ _ | simp [C.wf]) rfl (by first | rfl | (exact congrArg (fun z => (candP W H e i z).map C.i) h3))) ?_)
    · have ha3' : a = 3 := by omega
      subst ha3'
      repeat ((conv => whnf); first | (refine And.intro (by first | omega | exact Nat.le_of_ble_eq_true rfl | (dsimp only [inK]; omega) | (simp only [mulS_eq]; omega) | (simp only [mulS_eq, setL_length]; omega) | (simp only [setL_length, List.length_map]; omega) | exact ⟨by omega, by omega, by first | exact Nat.le_of_ble_eq_true rfl | (dsimp only; omega) | (simp only [setL_length]; omega) | (simp only [setL_length, List.length_map]; omega)⟩ | exact ⟨by omega, by first | rfl | omega, by omega, Nat.le_of_ble_eq_true rfl, Nat.le_of_ble_eq_true rfl⟩ | exact ⟨rfl, rfl, rfl, Nat.le_of_ble_eq_true rfl, by first | rfl | omega | exact Nat.le_of_ble_eq_true rfl | (dsimp only; omega) | (simp; done) | (simp; omega), by first | rfl | omega | exact Nat.le_of_ble_eq_true rfl | (dsimp only; omega) | (simp; done) | (simp; omega), by omega, Nat.le_of_ble_eq_true rfl⟩ | exact Eq.refl true) ?_) | (refine Exists.intro _ (And.intro rfl ?_)) | (refine And.intro (And.intro rfl (chk_rowI _ _ _ _)) ?_) | (refine br_t (by omega) ?_) | (refine br_f (by omega) ?_) | (refine bs_t (by omega) ?_) | (refine bs_f (by omega) ?_) | (refine fun (K' : K3) hK' => ?_) | (refine hK' _ _ _ ?_; clear hK' K') | (refine draw_auto tok mixed (by kernel_rfl) ?_) | (refine bs_bt (Eq.refl true) ?_) | (refine bs_bf (Eq.refl false) ?_) | (refine br_bt (Eq.refl true) ?_) | (refine br_bf (Eq.refl false) ?_) | (refine CallK.m ?_) | (refine And.intro (And.intro rfl rfl) ?_))
      exact ⟨3, by rw [show nearL W H e i = candP W H e i (3 * 3) from rfl, hm0]; rfl, rfl⟩
end Go.Proofs.Ytbhpnhcdjmcaoaa

/- Boom, plain: the reference's ways. -/
namespace Go.Proofs.Ytbhpnhcdjmcaoaa
open Go.RowKit
set_option linter.unusedVariables false
set_option linter.unusedSimpArgs false
def nbR (W H : Int) (cs : List Int) (i : Int) : List Int := if inR cs i && hldI cs i then nearL W H true i else []
def encW (d : Int → Option Way) (i : Nat) : Way := (d i).getD (0, 0)
def encL (d : Int → Option Way) (n : Nat) : List Way := (List.range n).map (encW d)
theorem encL_len (d : Int → Option Way) (n : Nat) : (encL d n).length = n := by simp [encL]
theorem encL_get {d : Int → Option Way} {n k : Nat} (h : k < n) : (encL d n).getD k (0, 0) = encW d k := by
  rw [List.getD_eq_getElem?_getD]; simp [encL, h]
theorem encL_upd {d : Int → Option Way} {n k : Nat} (w : Way) : (encL d n).set k w = encL (updD d k w) n := by
  apply List.ext_getElem
  · simp [encL]
  · intro j h1 h2
    rw [List.getElem_set]
    simp only [encL, List.length_map, List.length_range, List.length_set] at h1 h2
    simp only [encL, List.getElem_map, List.getElem_range]
    by_cases hj : k = j
    · subst hj; simp [encW, updD]
    · have : ¬ ((j : Int) = k) := by omega
      simp [hj, encW, updD, this]
theorem setL_cell {l : List Cell} : ∀ {k : Nat} {a b : Int}, k < l.length → setL (cellC l) (k * 2) [C.i a, C.i b] = cellC (l.set k (a, b)) := by
  induction l with
  | nil => intro k a b h; simp at h
  | cons x r ih =>
    intro k a b h
    match k with
    | 0 => rfl
    | k + 1 =>
      have := ih (k := k) (a := a) (b := b) (by simpa using h)
      rw [cellC_cons, show (k + 1) * 2 = k * 2 + 1 + 1 by omega]
      simp only [setL, List.set_cons_succ, List.set_cons_succ, List.set] at this ⊢
      rw [cellC_cons, ← this]
theorem setL_cellz {l : List Cell} {k : Nat} {z a b : Int} (hz : z = k) (h : k < l.length) : setL (cellC l) (mulS z.toNat 2) [C.i a, C.i b] = cellC (l.set k (a, b)) := by
  subst hz; rw [mulS_eq]; exact setL_cell h
theorem repC_cell (n : Nat) : repC n [C.i 0, C.i 0] = cellC (encL (fun _ => none) n) := by
  induction n with
  | zero => rfl
  | succ n ih =>
    have : encL (fun _ => none) (n + 1) = encL (fun _ => none) n ++ [(0, 0)] := by simp [encL, List.range_succ, encW]
    rw [this, cellC_app, ← ih]
    clear ih this
    induction n with
    | zero => rfl
    | succ n ih => exact congrArg (fun z => [C.i 0, C.i 0] ++ z) ih
theorem encW_none {d : Int → Option Way} {k : Nat} (h : d k = none) : encW d k = (0, 0) := by simp [encW, h]
theorem encW_some {d : Int → Option Way} {k : Nat} {w : Way} (h : d k = some w) : encW d k = w := by simp [encW, h]
/-- The last row, the first k of it. -/
def d0R (W H : Int) (cs : List Int) (k : Nat) (i : Int) : Option Way := if ((H - 1) * W ≤ i ∧ i < (H - 1) * W + k) ∧ hldI cs i = true then some (cstI cs i, 1) else none
theorem d0R_zero (W H : Int) (cs : List Int) : d0R W H cs 0 = fun _ => none := by
  funext i; unfold d0R; rw [if_neg (by omega)]
theorem d0R_skip {W H : Int} {cs : List Int} {k : Nat} (h : hldI cs ((H - 1) * W + k) = false) : d0R W H cs (k + 1) = d0R W H cs k := by
  funext i; unfold d0R
  by_cases hi : i = (H - 1) * W + k
  · subst hi; rw [h]; simp
  · by_cases hc : ((H - 1) * W ≤ i ∧ i < (H - 1) * W + k) ∧ hldI cs i = true
    · rw [if_pos hc, if_pos ⟨by omega, hc.2⟩]
    · rw [if_neg hc, if_neg (fun hh => hc ⟨by omega, hh.2⟩)]
theorem d0R_put {W H : Int} {cs : List Int} {k : Nat} (h : hldI cs ((H - 1) * W + k) = true) : d0R W H cs (k + 1) = updD (d0R W H cs k) ((H - 1) * W + k) (cstI cs ((H - 1) * W + k), 1) := by
  funext i; unfold d0R updD
  by_cases hi : i = (H - 1) * W + k
  · subst hi; rw [if_pos ⟨by omega, h⟩, if_pos rfl]
  · rw [if_neg hi]; show _ = (if ((H - 1) * W ≤ i ∧ i < (H - 1) * W + k) ∧ hldI cs i = true then some (cstI cs i, 1) else none)
    by_cases hc : ((H - 1) * W ≤ i ∧ i < (H - 1) * W + k) ∧ hldI cs i = true
    · rw [if_pos hc, if_pos ⟨by omega, hc.2⟩]
    · rw [if_neg hc, if_neg (fun hh => hc ⟨by omega, hh.2⟩)]
theorem row_iff {W H i : Int} (hW : 0 < W) : i / W = H - 1 ↔ (H - 1) * W ≤ i ∧ i < (H - 1) * W + W := by
  have h1 := Int.emod_nonneg i (show W ≠ 0 by omega)
  have h2 := Int.emod_lt_of_pos i hW
  have h3 := Int.mul_ediv_add_emod i W
  constructor
  · intro h
    rw [h] at h3
    have : W * (H - 1) = (H - 1) * W := Int.mul_comm _ _
    omega
  · rintro ⟨g1, g2⟩
    have e : (H - 1) * W + W = (H - 1 + 1) * W := by rw [Int.add_mul]; omega
    rw [e] at g2
    have l1 := Int.le_ediv_of_mul_le hW g1
    have l2 := Int.ediv_lt_of_lt_mul hW g2
    omega
theorem d0R_end {W H : Int} {cs : List Int} (h : CO W H cs) {k : Nat} (hk : (k : Int) = W) : d0R W H cs k = d0B W H cs := by
  funext i
  rw [d0B_eq]
  unfold d0R
  have hW : 0 < W := by have := h.w; omega
  have hlen := h.len
  have e : (H - 1) * W + W = W * H := by rw [Int.sub_mul, Int.mul_comm H W]; omega
  have h0 : 0 ≤ (H - 1) * W := Int.mul_nonneg (by have := h.h; omega) (by omega)
  have hr := @row_iff W H i hW
  by_cases hc : ((H - 1) * W ≤ i ∧ i < (H - 1) * W + k) ∧ hldI cs i = true
  · have h2 : i / W = H - 1 := hr.2 ⟨hc.1.1, by omega⟩
    have : iniB W H cs i = true := by
      simp only [iniB, inR, hc.2, dd_t h2, dd_t (show 0 ≤ i ∧ i < (cs.length : Int) by omega)]; rfl
    rw [if_pos hc, this]; rfl
  · have : iniB W H cs i = false := by
      cases hh : iniB W H cs i with
      | false => rfl
      | true =>
        simp only [iniB, Bool.and_eq_true, decide_eq_true_eq] at hh
        have := hr.1 hh.2.2
        exact absurd ⟨⟨this.1, by omega⟩, hh.2.1⟩ hc
    rw [if_neg hc, this]; rfl
theorem nbR_in {W H : Int} {cs : List Int} (hW : 0 < W) (hl : (cs.length : Int) = W * H) (i k : Int) (h : k ∈ nbR W H cs i) : (0 ≤ i ∧ i < cs.length) ∧ 0 ≤ k ∧ k < cs.length := by
  unfold nbR at h
  split at h
  · rename_i hh
    simp only [Bool.and_eq_true, inR, decide_eq_true_eq] at hh
    refine ⟨hh.1, ?_⟩
    unfold nearL at h
    obtain ⟨j, _, hj⟩ := List.mem_filterMap.1 h
    have := cand_lt hW hj
    omega
  · cases h
theorem nbR_len (W H : Int) (cs : List Int) (i : Int) : (nbR W H cs i).length ≤ 9 := by
  unfold nbR
  split
  · exact near_len _ _ _ _
  · simp
def itR (W H : Int) (cs : List Int) (t : Nat) : (Int → Option Way) × Bool := iterG (cstI cs) (nbR W H cs) cs.length (d0B W H cs) t
theorem itR_end {W H : Int} {cs : List Int} (h : CO W H cs) : (itR W H cs (cs.length + 1)).2 = false := by
  obtain ⟨h1, h2⟩ := d0_sound (nb := nbR W H cs) (d0B_eq W H cs)
  exact iter_end (fun i => (cst_bd h.cost i).1) iniB_in (nbR_in (by have := h.w; omega) h.len) h1 h2
theorem itR_opt {W H : Int} {cs : List Int} (h : CO W H cs) {t : Nat} (ht : (itR W H cs t).2 = false) : OptD (cstI cs) (iniB W H cs) (nbR W H cs) (itR W H cs t).1 := by
  obtain ⟨h1, h2⟩ := d0_sound (nb := nbR W H cs) (d0B_eq W H cs)
  exact iter_fix (fun i => (cst_bd h.cost i).1) iniB_in (nbR_in (by have := h.w; omega) h.len) h1 h2 ht
theorem itR_bnd {W H : Int} {cs : List Int} (h : CO W H cs) (t : Nat) : bndD (1 + (t * (9 * cs.length) : Nat)) (itR W H cs t).1 :=
  bnd_iter (cst_bd h.cost) (nbR_len W H cs) (d0_bnd (cst_bd h.cost) (d0B_eq W H cs)) t
def wayR (W H : Int) (cs : List Int) : Int → Option Way := (itR W H cs (cs.length + 1)).1
theorem wayR_opt {W H : Int} {cs : List Int} (h : CO W H cs) : OptD (cstI cs) (iniB W H cs) (nbR W H cs) (wayR W H cs) := itR_opt h (itR_end h)
theorem wayR_bnd {W H : Int} {cs : List Int} (h : CO W H cs) : bndD 100000 (wayR W H cs) := by
  have h1 : (cs.length : Int) ≤ 100 := by
    have := Int.mul_le_mul h.w.2 h.h.2 (by have := h.h; omega) (by omega : (0:Int) ≤ 10)
    have := h.len; omega
  refine (itR_bnd h (cs.length + 1)).mono ?_
  have : (cs.length + 1) * (9 * cs.length) ≤ 101 * 900 := Nat.mul_le_mul (by omega) (by omega)
  omega
theorem itR_wayR {W H : Int} {cs : List Int} (h : CO W H cs) {t : Nat} (ht : (itR W H cs t).2 = false) : (itR W H cs t).1 = wayR W H cs := (itR_opt h ht).unique (wayR_opt h)
/-- One neighbour looked at, as the reference does it. -/
def stepR (cs : List Int) (i : Int) (st : (Int → Option Way) × Bool) (k : Int) : (Int → Option Way) × Bool := if hldI cs i then relG (cstI cs) i st k else st
theorem stepR_fold {W H : Int} {cs : List Int} {i : Int} (hi : inR cs i = true) (st : (Int → Option Way) × Bool) : (nearL W H true i).foldl (stepR cs i) st = roundG (cstI cs) (nbR W H cs) st i := by
  unfold roundG nbR
  rw [hi, Bool.true_and]
  cases h : hldI cs i with
  | true =>
    have : stepR cs i = relG (cstI cs) i := by funext st k; simp [stepR, h]
    rw [this]; rfl
  | false =>
    have : stepR cs i = fun st _ => st := by funext st k; simp [stepR, h]
    rw [this]
    generalize nearL W H true i = l
    induction l with
    | nil => rfl
    | cons x r ih => simpa using ih
theorem bnd_stepR {cs : List Int} (hc : ∀ i, 0 ≤ cstI cs i ∧ cstI cs i ≤ 100) (i : Int) : ∀ (l : List Int) {B : Int} {st : (Int → Option Way) × Bool}, bndD B st.1 → bndD (B + l.length) (l.foldl (stepR cs i) st).1
  | [], B, st, h => by simpa using h
  | k :: r, B, st, h => by
    have h1 : bndD (B + 1) (stepR cs i st k).1 := by
      unfold stepR
      split
      · exact bnd_rel hc h i k
      · exact h.mono (by omega)
    have := bnd_stepR hc i r h1
    simp only [List.foldl_cons, List.length_cons]
    exact this.mono (by omega)
theorem near_in {W H : Int} {e : Bool} {i k : Int} (hW : 0 < W) (h : k ∈ nearL W H e i) : 0 ≤ k ∧ k < W * H := by
  unfold nearL at h
  obtain ⟨j, _, hj⟩ := List.mem_filterMap.1 h
  exact cand_lt hW hj
theorem foldl_take {α : Type} (f : α → Int → α) (l : List Int) (a : α) {j : Nat} (h : j < l.length) : (l.take (j + 1)).foldl f a = f ((l.take j).foldl f a) (l.getD j 0) := by
  rw [List.take_add_one, show l[j]?.toList = [l.getD j 0] by rw [List.getElem?_eq_getElem h, List.getD_eq_getElem?_getD, List.getElem?_eq_getElem h]; rfl]
  rw [List.foldl_append]; rfl
theorem getD_mem {l : List Int} {j : Nat} (h : j < l.length) : l.getD j 0 ∈ l := by
  rw [List.getD_eq_getElem?_getD, List.getElem?_eq_getElem h]; exact List.getElem_mem h
end Go.Proofs.Ytbhpnhcdjmcaoaa

/- Boom, the reference: the best ways down to the last row. -/
namespace Go.Proofs.Ytbhpnhcdjmcaoaa
open Go.RowKit
set_option linter.unusedVariables false
set_option linter.unusedSimpArgs false
theorem CallK.intsR {P : Program} {n0 nx nac : Nat} {f : FuncId} {vs vs' : List V} {Lc L : List E} {R : Rn} {K : V → List E → Nat → Prop} {l : List Int} (spec : Spec P f vs Lc nac (fun v L' _ => intsR l v L')) (hok : callB P f = true)
    (hv : renVs R vs = some vs') (hvw : ∀ v ∈ vs, v.wf nac) (hL : roL R nac L Lc) (hLc : injB [] Lc = true)
    (hK : K (V.c (.sl nx l.length)) [⟨nx, .vec 3 1, l.map C.i⟩] (nx + 1)) : CallK P n0 f vs' L nx K := by
  refine CallK.mk' hok spec hv hvw hL hLc ?_
  rintro v L' nx' hw ⟨lab, rfl, hf⟩
  refine ⟨V.c (.sl nx l.length), [⟨nx, .vec 3 1, l.map C.i⟩], nx + 1, [(nx, some lab)], ⟨Nat.le_succ _, ?_, ?_, ⟨covE_some (renL_one _ _) (Nat.lt_succ_self nx) (wf_ints _ _) hf (ren_ints _ _), trivial⟩, rfl, ?_⟩, hK⟩
  · simp only [V.ren, A.ren, C.ren, renL_one]
  · simp only [V.chk, A.chk, C.chk]; exact inLab_one nx
  · simp only [List.all_cons, List.all_nil, Bool.and_true, inLab_one, Kd.isRo, Bool.not_false, Bool.true_and]
    exact chk_ints _ _
set_option maxRecDepth 10000 in
set_option maxHeartbeats 8000000 in
theorem ways_spec (W H : Int) (cs : List Int) (hok : CO W H cs) :
    Spec Try.prog 60 [chR W H cs.length] [⟨0, .ro 0, cs.map C.i⟩] 1 (fun v L' _ => ∃ lab, v = V.c (.sl lab cs.length) ∧ find L' lab = some ⟨lab, .vec 77 2, cellC (encL (wayR W H cs) cs.length)⟩) := by
  have hlm : (cs.map C.i).length = cs.length := by simp
  obtain ⟨hW, hH, hcl, hcost⟩ := hok
  have hok : CO W H cs := ⟨hW, hH, hcl, hcost⟩
  have hn : (cs.length : Int) ≤ 100 := by have := Int.mul_le_mul hW.2 hH.2 (by omega) (by omega : (0:Int) ≤ 10); omega
  have hcb := cst_bd hcost
  obtain ⟨w0, rfl⟩ : ∃ w0 : Nat, W = w0 := ⟨W.toNat, by omega⟩
  have hcl2 : ∀ d : Int → Option Way, (cellC (encL d cs.length)).length = 2 * cs.length := fun d => by rw [cellC_len, encL_len]
  have hHW : (H - 1) * w0 + w0 = cs.length := by rw [hcl, Int.sub_mul, Int.mul_comm H]; omega
  have hHW0 : 0 ≤ (H - 1) * w0 := Int.mul_nonneg (by omega) (by omega)
  refine Spec.of tok Try.func60 rfl rfl rfl fun n0 cx => vc_ok tok ?_
  repeat ((conv => whnf); first | (refine And.intro (by first | omega | exact Nat.le_of_ble_eq_true rfl | (dsimp only [inK]; omega) | (simp only [mulS_eq]; omega) | (simp only [mulS_eq, setL_length]; omega) | (simp only [setL_length, List.length_map]; omega) | exact ⟨by omega, by omega, by first | exact Nat.le_of_ble_eq_true rfl | (dsimp only; omega) | (simp only [setL_length]; omega) | (simp only [setL_length, List.length_map]; omega)⟩ | exact ⟨by omega, by first | rfl | omega, by omega, Nat.le_of_ble_eq_true rfl, Nat.le_of_ble_eq_true rfl⟩ | exact ⟨rfl, rfl, rfl, Nat.le_of_ble_eq_true rfl, by first | rfl | omega | exact Nat.le_of_ble_eq_true rfl | (dsimp only; omega) | (simp; done) | (simp; omega), by first | rfl | omega | exact Nat.le_of_ble_eq_true rfl | (dsimp only; omega) | (simp; done) | (simp; omega), by omega, Nat.le_of_ble_eq_true rfl⟩ | exact Eq.refl true) ?_) | (refine Exists.intro _ (And.intro rfl ?_)) | (refine And.intro (And.intro rfl (chk_rowI _ _ _ _)) ?_) | (refine br_t (by omega) ?_) | (refine br_f (by omega) ?_) | (refine bs_t (by omega) ?_) | (refine bs_f (by omega) ?_) | (refine fun (K' : K3) hK' => ?_) | (refine hK' _ _ _ ?_; clear hK' K') | (refine draw_auto tok mixed (by kernel_rfl) ?_) | (refine bs_bt (Eq.refl true) ?_) | (refine bs_bf (Eq.refl false) ?_) | (refine br_bt (Eq.refl true) ?_) | (refine br_bf (Eq.refl false) ?_) | (refine CallK.m ?_) | (refine And.intro (And.intro rfl rfl) ?_))
  refine Tri.loop (γ := Nat) (fun k => k ≤ w0) (fun k => [(1, V.c (.ptr 1 0)), (3, V.c (.sl 2 cs.length)), (18, V.i w0), (19, V.i (k : Nat))])
    (fun k => [⟨2, .vec 77 2, cellC (encL (d0R w0 H cs k) cs.length)⟩, ⟨1, .own 24, [C.i w0, C.i H, .sl 0 cs.length]⟩, ⟨0, .ro 0, cs.map C.i⟩]) 3 (fun k => w0 - k) 0 (R0 := []) ?_ ?_ ?_
  · omega
  · skip
    refine ⟨?_, ?_, rfl, rfl, by first | exact Nat.le_of_ble_eq_true rfl | exact Nat.le_refl _ | omega⟩
    · repeat (first | exact trivial | refine And.intro (covS_syn (by first | rfl) rfl (by first | exact trivial | exact Nat.le_of_ble_eq_true rfl | exact hy | exact (fun p hp => nomatch hp) | (show (_ : Nat) < _; omega))) ?_ | refine And.intro (covS_bool rfl rfl (by first | rfl)) ?_)
    · repeat (first | exact trivial | refine And.intro (covE_id (Nat.le_of_ble_eq_true rfl) (by first | exact wf_ints _ _ | exact wf_bools _ _ | first | exact wf_cells _ _ | simp [C.wf]) rfl (by first | rfl | ((rw [d0R_zero]; exact repC_cell _)))) ?_)
  · intro k hk
    refine vc_ok tok ?_
    by_cases hlt : k < w0
    · obtain ⟨i, hi⟩ : ∃ i : Nat, (i : Int) = (H - 1) * w0 + k := ⟨((H - 1) * w0 + k).toNat, by omega⟩
      have hil : i < cs.length := by omega
      have hix := rindex_spec w0 H cs.length (k : Int) (H - 1) (by omega) (by omega) (by omega)
      rw [← hi] at hix
      have hld := intL hil
      have hrc := rcost_spec w0 H cs i hil
      have hh : hldI cs (i : Int) = decide (cs.getD i 0 ≠ 0) := by simp [hldI]
      by_cases h1 : cs.getD i 0 ≠ 0
      · have hst : encL (d0R w0 H cs (k + 1)) cs.length = (encL (d0R w0 H cs k) cs.length).set i (cstI cs i, 1) := by
          rw [d0R_put (by rw [← hi, hh]; exact dd_t h1), ← hi, encL_upd]
        repeat ((conv => whnf); first | (refine And.intro (by first | omega | exact Nat.le_of_ble_eq_true rfl | (dsimp only [inK]; omega) | (simp only [mulS_eq]; omega) | (simp only [mulS_eq, setL_length]; omega) | (simp only [setL_length, List.length_map]; omega) | exact ⟨by omega, by omega, by first | exact Nat.le_of_ble_eq_true rfl | (dsimp only; omega) | (simp only [setL_length]; omega) | (simp only [setL_length, List.length_map]; omega)⟩ | exact ⟨by omega, by first | rfl | omega, by omega, Nat.le_of_ble_eq_true rfl, Nat.le_of_ble_eq_true rfl⟩ | exact ⟨rfl, rfl, rfl, Nat.le_of_ble_eq_true rfl, by first | rfl | omega | exact Nat.le_of_ble_eq_true rfl | (dsimp only; omega) | (simp; done) | (simp; omega), by first | rfl | omega | exact Nat.le_of_ble_eq_true rfl | (dsimp only; omega) | (simp; done) | (simp; omega), by omega, Nat.le_of_ble_eq_true rfl⟩ | exact Eq.refl true) ?_) | (with_reducible refine ld (hld) ?_) | (refine Exists.intro _ (And.intro rfl ?_)) | (refine And.intro (And.intro rfl (chk_rowI _ _ _ _)) ?_) | (refine br_t (by omega) ?_) | (refine br_f (by omega) ?_) | (refine bs_t (by omega) ?_) | (refine bs_f (by omega) ?_) | (refine fun (K' : K3) hK' => ?_) | (refine hK' _ _ _ ?_; clear hK' K') | (refine draw_auto tok mixed (by kernel_rfl) ?_) | (refine CallK.val (R := []) hix (by kernel_rfl) rfl (by simp [V.wf, A.wf, C.wf]) trivial rfl rfl trivial ?_) | (refine br_bt (nd_t h1) ?_) | (refine br_t h1 ?_) | (refine CallK.val (R := []) hrc (by kernel_rfl) rfl (by simp [V.wf, A.wf, C.wf]) ⟨roE_id (by omega) (wf_ints _ _) rfl (.inl rfl) rfl, trivial⟩ rfl rfl trivial ?_) | (refine And.intro (by refine ⟨by omega, by omega, ?_⟩; (try dsimp only); rw [hcl2]; omega) ?_) | (refine And.intro (by (try dsimp only); rw [hcl2, mulS_eq]; simp only [Int.toNat_natCast]; omega) ?_) | (refine bs_bt (Eq.refl true) ?_) | (refine bs_bf (Eq.refl false) ?_) | (refine br_bt (Eq.refl true) ?_) | (refine br_bf (Eq.refl false) ?_) | (refine CallK.m ?_) | (refine And.intro (And.intro rfl rfl) ?_))
        refine ⟨k + 1, [], by omega, by omega, ?_⟩
        refine ⟨?_, ?_, rfl, rfl, by first | exact Nat.le_of_ble_eq_true rfl | exact Nat.le_refl _ | omega⟩
        · repeat (first | exact trivial | refine And.intro (covS_syn (by first | rfl | (refine congrArg some (congrArg V.i ?_); omega)) rfl (by first | exact trivial | exact Nat.le_of_ble_eq_true rfl | exact hy | exact (fun p hp => nomatch hp) | (show (_ : Nat) < _; omega))) ?_ | refine And.intro (covS_bool rfl rfl (by first | rfl)) ?_)
        · repeat (first | exact trivial | refine And.intro (covE_id (Nat.le_of_ble_eq_true rfl) (by first | exact wf_ints _ _ | exact wf_bools _ _ | first | exact wf_cells _ _ | simp [C.wf]) rfl (by first | rfl | ((rw [hst]; exact setL_cellz rfl (by rw [encL_len]; exact hil))))) ?_)
      · have hst : d0R w0 H cs (k + 1) = d0R w0 H cs k := d0R_skip (by rw [← hi, hh]; exact dd_f h1)
        repeat ((conv => whnf); first | (refine And.intro (by first | omega | exact Nat.le_of_ble_eq_true rfl | (dsimp only [inK]; omega) | (simp only [mulS_eq]; omega) | (simp only [mulS_eq, setL_length]; omega) | (simp only [setL_length, List.length_map]; omega) | exact ⟨by omega, by omega, by first | exact Nat.le_of_ble_eq_true rfl | (dsimp only; omega) | (simp only [setL_length]; omega) | (simp only [setL_length, List.length_map]; omega)⟩ | exact ⟨by omega, by first | rfl | omega, by omega, Nat.le_of_ble_eq_true rfl, Nat.le_of_ble_eq_true rfl⟩ | exact ⟨rfl, rfl, rfl, Nat.le_of_ble_eq_true rfl, by first | rfl | omega | exact Nat.le_of_ble_eq_true rfl | (dsimp only; omega) | (simp; done) | (simp; omega), by first | rfl | omega | exact Nat.le_of_ble_eq_true rfl | (dsimp only; omega) | (simp; done) | (simp; omega), by omega, Nat.le_of_ble_eq_true rfl⟩ | exact Eq.refl true) ?_) | (with_reducible refine ld (hld) ?_) | (refine Exists.intro _ (And.intro rfl ?_)) | (refine And.intro (And.intro rfl (chk_rowI _ _ _ _)) ?_) | (refine br_t (by omega) ?_) | (refine br_f (by omega) ?_) | (refine bs_t (by omega) ?_) | (refine bs_f (by omega) ?_) | (refine fun (K' : K3) hK' => ?_) | (refine hK' _ _ _ ?_; clear hK' K') | (refine draw_auto tok mixed (by kernel_rfl) ?_) | (refine CallK.val (R := []) hix (by kernel_rfl) rfl (by simp [V.wf, A.wf, C.wf]) trivial rfl rfl trivial ?_) | (refine br_bf (nd_f (Classical.byContradiction h1)) ?_) | (refine br_f h1 ?_) | (refine bs_bt (Eq.refl true) ?_) | (refine bs_bf (Eq.refl false) ?_) | (refine br_bt (Eq.refl true) ?_) | (refine br_bf (Eq.refl false) ?_) | (refine CallK.m ?_) | (refine And.intro (And.intro rfl rfl) ?_))
        refine ⟨k + 1, [], by omega, by omega, ?_⟩
        refine ⟨?_, ?_, rfl, rfl, by first | exact Nat.le_of_ble_eq_true rfl | exact Nat.le_refl _ | omega⟩
        · repeat (first | exact trivial | refine And.intro (covS_syn (by first | rfl | (refine congrArg some (congrArg V.i ?_); omega)) rfl (by first | exact trivial | exact Nat.le_of_ble_eq_true rfl | exact hy | exact (fun p hp => nomatch hp) | (show (_ : Nat) < _; omega))) ?_ | refine And.intro (covS_bool rfl rfl (by first | rfl)) ?_)
        · repeat (first | exact trivial | refine And.intro (covE_id (Nat.le_of_ble_eq_true rfl) (by first | exact wf_ints _ _ | exact wf_bools _ _ | first | exact wf_cells _ _ | simp [C.wf]) rfl (by first | rfl | ((rw [hst])))) ?_)
    · have hkw : k = w0 := by omega
      subst hkw
      rw [show d0R (k : Int) H cs k = d0B k H cs from d0R_end hok rfl]
      repeat ((conv => whnf); first | (refine And.intro (by first | omega | exact Nat.le_of_ble_eq_true rfl | (dsimp only [inK]; omega) | (simp only [mulS_eq]; omega) | (simp only [mulS_eq, setL_length]; omega) | (simp only [setL_length, List.length_map]; omega) | exact ⟨by omega, by omega, by first | exact Nat.le_of_ble_eq_true rfl | (dsimp only; omega) | (simp only [setL_length]; omega) | (simp only [setL_length, List.length_map]; omega)⟩ | exact ⟨by omega, by first | rfl | omega, by omega, Nat.le_of_ble_eq_true rfl, Nat.le_of_ble_eq_true rfl⟩ | exact ⟨rfl, rfl, rfl, Nat.le_of_ble_eq_true rfl, by first | rfl | omega | exact Nat.le_of_ble_eq_true rfl | (dsimp only; omega) | (simp; done) | (simp; omega), by first | rfl | omega | exact Nat.le_of_ble_eq_true rfl | (dsimp only; omega) | (simp; done) | (simp; omega), by omega, Nat.le_of_ble_eq_true rfl⟩ | exact Eq.refl true) ?_) | (refine Exists.intro _ (And.intro rfl ?_)) | (refine And.intro (And.intro rfl (chk_rowI _ _ _ _)) ?_) | (refine br_t (by omega) ?_) | (refine br_f (by omega) ?_) | (refine bs_t (by omega) ?_) | (refine bs_f (by omega) ?_) | (refine fun (K' : K3) hK' => ?_) | (refine hK' _ _ _ ?_; clear hK' K') | (refine draw_auto tok mixed (by kernel_rfl) ?_) | (refine bs_bt (Eq.refl true) ?_) | (refine bs_bf (Eq.refl false) ?_) | (refine br_bt (Eq.refl true) ?_) | (refine br_bf (Eq.refl false) ?_) | (refine CallK.m ?_) | (refine And.intro (And.intro rfl rfl) ?_))
      refine Tri.loop (γ := Nat) (fun t => t ≤ cs.length ∨ (itR k H cs t).2 = false ∧ t ≤ cs.length + 1) (fun t => [(1, V.c (.ptr 1 0)), (3, V.c (.sl 2 cs.length)), (6, V.c (.bool (itR k H cs t).2))])
        (fun t => [⟨2, .vec 77 2, cellC (encL (itR k H cs t).1 cs.length)⟩, ⟨1, .own 24, [C.i k, C.i H, .sl 0 cs.length]⟩, ⟨0, .ro 0, cs.map C.i⟩]) 3 (fun t => cs.length + 1 - t) 0 (R0 := []) ?_ ?_ ?_
      · exact .inl (Nat.zero_le _)
      · skip
        refine ⟨?_, ?_, rfl, rfl, by first | exact Nat.le_of_ble_eq_true rfl | exact Nat.le_refl _ | omega⟩
        · repeat (first | exact trivial | refine And.intro (covS_syn (by first | rfl) rfl (by first | exact trivial | exact Nat.le_of_ble_eq_true rfl | exact hy | exact (fun p hp => nomatch hp) | (show (_ : Nat) < _; omega))) ?_ | refine And.intro (covS_bool rfl rfl (by first | rfl)) ?_)
        · repeat (first | exact trivial | refine And.intro (covE_id (Nat.le_of_ble_eq_true rfl) (by first | exact wf_ints _ _ | exact wf_bools _ _ | first | exact wf_cells _ _ | simp [C.wf]) rfl (by first | rfl)) ?_)
      · intro t ht
        refine vc_ok tok ?_
        cases hch : (itR k H cs t).2 with
        | false =>
          have hfin := itR_wayR hok hch
          repeat ((conv => whnf); first | (refine And.intro (by first | omega | exact Nat.le_of_ble_eq_true rfl | (dsimp only [inK]; omega) | (simp only [mulS_eq]; omega) | (simp only [mulS_eq, setL_length]; omega) | (simp only [setL_length, List.length_map]; omega) | exact ⟨by omega, by omega, by first | exact Nat.le_of_ble_eq_true rfl | (dsimp only; omega) | (simp only [setL_length]; omega) | (simp only [setL_length, List.length_map]; omega)⟩ | exact ⟨by omega, by first | rfl | omega, by omega, Nat.le_of_ble_eq_true rfl, Nat.le_of_ble_eq_true rfl⟩ | exact ⟨rfl, rfl, rfl, Nat.le_of_ble_eq_true rfl, by first | rfl | omega | exact Nat.le_of_ble_eq_true rfl | (dsimp only; omega) | (simp; done) | (simp; omega), by first | rfl | omega | exact Nat.le_of_ble_eq_true rfl | (dsimp only; omega) | (simp; done) | (simp; omega), by omega, Nat.le_of_ble_eq_true rfl⟩ | exact Eq.refl true) ?_) | (refine Exists.intro _ (And.intro rfl ?_)) | (refine And.intro (And.intro rfl (chk_rowI _ _ _ _)) ?_) | (refine br_t (by omega) ?_) | (refine br_f (by omega) ?_) | (refine bs_t (by omega) ?_) | (refine bs_f (by omega) ?_) | (refine fun (K' : K3) hK' => ?_) | (refine hK' _ _ _ ?_; clear hK' K') | (refine draw_auto tok mixed (by kernel_rfl) ?_) | (refine bs_bt (Eq.refl true) ?_) | (refine bs_bf (Eq.refl false) ?_) | (refine br_bt (Eq.refl true) ?_) | (refine br_bf (Eq.refl false) ?_) | (refine CallK.m ?_) | (refine And.intro (And.intro rfl rfl) ?_))
          exact congrArg (fun x => some (⟨2, .vec 77 2, cellC (encL x cs.length)⟩ : E)) hfin
        | true =>
          have ht' : t ≤ cs.length := by
            rcases ht with h | ⟨h, _⟩
            · exact h
            · rw [hch] at h; cases h
          have hbnd0 := itR_bnd hok t
          have htm : t * (9 * cs.length) ≤ 100 * 900 := Nat.mul_le_mul (by omega) (by omega)
          obtain ⟨d, hd⟩ : ∃ d, d = (itR k H cs t).1 := ⟨_, rfl⟩
          obtain ⟨ps, hps⟩ : ∃ ps : Nat → (Int → Option Way) × Bool, ps = fun j => passG (cstI cs) (nbR k H cs) d j := ⟨_, rfl⟩
          have hps0 : ps 0 = (d, false) := by rw [hps]; rfl
          have hpsn : ps cs.length = itR k H cs (t + 1) := by rw [hps, hd]; rfl
          have hpsb : ∀ j, j ≤ cs.length → bndD 92000 (ps j).1 := fun j hj => by
            rw [hps]
            refine (bnd_pass hcb (nbR_len k H cs) (hd ▸ hbnd0) j).mono ?_
            omega
          have hpss : ∀ j, ps (j + 1) = roundG (cstI cs) (nbR k H cs) (ps j) (j : Int) := fun j => by rw [hps]; exact passG_succ _ _ _ _
          rw [← hd]
          clear hps hd hbnd0 ht hch
          repeat ((conv => whnf); first | (refine And.intro (by first | omega | exact Nat.le_of_ble_eq_true rfl | (dsimp only [inK]; omega) | (simp only [mulS_eq]; omega) | (simp only [mulS_eq, setL_length]; omega) | (simp only [setL_length, List.length_map]; omega) | exact ⟨by omega, by omega, by first | exact Nat.le_of_ble_eq_true rfl | (dsimp only; omega) | (simp only [setL_length]; omega) | (simp only [setL_length, List.length_map]; omega)⟩ | exact ⟨by omega, by first | rfl | omega, by omega, Nat.le_of_ble_eq_true rfl, Nat.le_of_ble_eq_true rfl⟩ | exact ⟨rfl, rfl, rfl, Nat.le_of_ble_eq_true rfl, by first | rfl | omega | exact Nat.le_of_ble_eq_true rfl | (dsimp only; omega) | (simp; done) | (simp; omega), by first | rfl | omega | exact Nat.le_of_ble_eq_true rfl | (dsimp only; omega) | (simp; done) | (simp; omega), by omega, Nat.le_of_ble_eq_true rfl⟩ | exact Eq.refl true) ?_) | (refine Exists.intro _ (And.intro rfl ?_)) | (refine And.intro (And.intro rfl (chk_rowI _ _ _ _)) ?_) | (refine br_t (by omega) ?_) | (refine br_f (by omega) ?_) | (refine bs_t (by omega) ?_) | (refine bs_f (by omega) ?_) | (refine fun (K' : K3) hK' => ?_) | (refine hK' _ _ _ ?_; clear hK' K') | (refine draw_auto tok mixed (by kernel_rfl) ?_) | (refine bs_bt (Eq.refl true) ?_) | (refine bs_bf (Eq.refl false) ?_) | (refine br_bt (Eq.refl true) ?_) | (refine br_bf (Eq.refl false) ?_) | (refine CallK.m ?_) | (refine And.intro (And.intro rfl rfl) ?_))
          refine Tri.loop (γ := Nat) (fun j => j ≤ cs.length) (fun j => [(1, V.c (.ptr 1 0)), (3, V.c (.sl 2 cs.length)), (6, V.c (.bool (ps j).2)), (45, V.c (.sl 0 cs.length)), (46, V.i cs.length), (47, V.i (j : Nat))])
            (fun j => [⟨2, .vec 77 2, cellC (encL (ps j).1 cs.length)⟩, ⟨1, .own 24, [C.i k, C.i H, .sl 0 cs.length]⟩, ⟨0, .ro 0, cs.map C.i⟩]) 3 (fun j => cs.length - j) 0 (R0 := []) ?_ ?_ ?_
          · omega
          · skip
            refine ⟨?_, ?_, rfl, rfl, by first | exact Nat.le_of_ble_eq_true rfl | exact Nat.le_refl _ | omega⟩
            · repeat (first | exact trivial | refine And.intro (covS_syn (by first | rfl) rfl (by first | exact trivial | exact Nat.le_of_ble_eq_true rfl | exact hy | exact (fun p hp => nomatch hp) | (show (_ : Nat) < _; omega))) ?_ | refine And.intro (covS_bool rfl rfl (by first | rfl | (exact (congrArg Prod.snd hps0).symm))) ?_)
            · repeat (first | exact trivial | refine And.intro (covE_id (Nat.le_of_ble_eq_true rfl) (by first | exact wf_ints _ _ | exact wf_bools _ _ | first | exact wf_cells _ _ | simp [C.wf]) rfl (by first | rfl | (exact congrArg (fun x : (Int → Option Way) × Bool => cellC (encL x.1 cs.length)) hps0.symm))) ?_)
          · intro j hj
            refine vc_ok tok ?_
            by_cases hlt : j < cs.length
            · have hin : inR cs (j : Int) = true := dd_t (by omega)
              have hbe := beside_spec k H cs.length (j : Int) true (by omega) (by omega) (by omega)
              have hne := fun x (hx : x ∈ nearL (k : Int) H true (j : Int)) => near_in (by omega) hx
              have hlen := near_len (k : Int) H true (j : Int)
              have hhl : hldI cs (j : Int) = decide (cs.getD j 0 ≠ 0) := by simp [hldI]
              have hld := intL hlt
              have hrc := rcost_spec k H cs j hlt
              have hcn := hcb (j : Int)
              obtain ⟨cj, hcj⟩ : ∃ cj, cj = cs.getD j 0 := ⟨_, rfl⟩
              rw [← hcj] at hhl hld
              obtain ⟨nl, hnl⟩ : ∃ nl, nl = nearL (k : Int) H true (j : Int) := ⟨_, rfl⟩
              obtain ⟨fs, hfs⟩ : ∃ fs : Nat → (Int → Option Way) × Bool, fs = fun m => (nl.take m).foldl (stepR cs (j : Int)) (ps j) := ⟨_, rfl⟩
              have hfs0 : fs 0 = ps j := by rw [hfs]; rfl
              have hfsn : fs nl.length = ps (j + 1) := by rw [hfs]; simp only [List.take_length]; rw [hnl, stepR_fold hin, ← hpss]
              have hfss : ∀ m, m < nl.length → fs (m + 1) = stepR cs (j : Int) (fs m) (nl.getD m 0) := fun m hm => by rw [hfs]; exact foldl_take _ _ _ hm
              rw [← hnl] at hbe hne hlen
              have hfsb : ∀ m, bndD 93000 (fs m).1 := fun m => by
                rw [hfs]; refine (bnd_stepR hcb _ _ (hpsb j hj)).mono ?_
                have : (nl.take m).length ≤ nl.length := by rw [List.length_take]; omega
                omega
              clear hfs hpss hpsb hcj
              repeat ((conv => whnf); first | (refine And.intro (by first | omega | exact Nat.le_of_ble_eq_true rfl | (dsimp only [inK]; omega) | (simp only [mulS_eq]; omega) | (simp only [mulS_eq, setL_length]; omega) | (simp only [setL_length, List.length_map]; omega) | exact ⟨by omega, by omega, by first | exact Nat.le_of_ble_eq_true rfl | (dsimp only; omega) | (simp only [setL_length]; omega) | (simp only [setL_length, List.length_map]; omega)⟩ | exact ⟨by omega, by first | rfl | omega, by omega, Nat.le_of_ble_eq_true rfl, Nat.le_of_ble_eq_true rfl⟩ | exact ⟨rfl, rfl, rfl, Nat.le_of_ble_eq_true rfl, by first | rfl | omega | exact Nat.le_of_ble_eq_true rfl | (dsimp only; omega) | (simp; done) | (simp; omega), by first | rfl | omega | exact Nat.le_of_ble_eq_true rfl | (dsimp only; omega) | (simp; done) | (simp; omega), by omega, Nat.le_of_ble_eq_true rfl⟩ | exact Eq.refl true) ?_) | (with_reducible refine ld (hld) ?_) | (refine Exists.intro _ (And.intro rfl ?_)) | (refine And.intro (And.intro rfl (chk_rowI _ _ _ _)) ?_) | (refine br_t (by omega) ?_) | (refine br_f (by omega) ?_) | (refine bs_t (by omega) ?_) | (refine bs_f (by omega) ?_) | (refine fun (K' : K3) hK' => ?_) | (refine hK' _ _ _ ?_; clear hK' K') | (refine draw_auto tok mixed (by kernel_rfl) ?_) | (refine CallK.den (vs := [V.agg [C.i k, C.i H, C.sl 0 cs.length], V.i (j : Int), V.c (.bool true)]) (fun ρ => rfl) (by simp [V.wf, A.wf, C.wf]) (CallK.intsR (R := []) hbe (by kernel_rfl) rfl (by simp [V.wf, A.wf, C.wf]) trivial rfl ?_)) | (refine bs_bt (Eq.refl true) ?_) | (refine bs_bf (Eq.refl false) ?_) | (refine br_bt (Eq.refl true) ?_) | (refine br_bf (Eq.refl false) ?_) | (refine CallK.m ?_) | (refine And.intro (And.intro rfl rfl) ?_))
              refine Tri.loop (γ := Nat) (fun m => m ≤ nl.length) (fun m => [(1, V.c (.ptr 1 0)), (3, V.c (.sl 2 cs.length)), (6, V.c (.bool (fs m).2)), (7, V.i (j : Int)), (8, V.i cj), (45, V.c (.sl 0 cs.length)), (46, V.i cs.length), (47, V.i (j : Nat)), (54, V.c (.sl 3 nl.length)), (55, V.i nl.length), (56, V.i (m : Nat))])
                (fun m => [⟨3, .vec 3 1, nl.map C.i⟩, ⟨2, .vec 77 2, cellC (encL (fs m).1 cs.length)⟩, ⟨1, .own 24, [C.i k, C.i H, .sl 0 cs.length]⟩, ⟨0, .ro 0, cs.map C.i⟩]) 4 (fun m => nl.length - m) 0 (R0 := []) ?_ ?_ ?_
              · omega
              · skip
                refine ⟨?_, ?_, rfl, rfl, by first | exact Nat.le_of_ble_eq_true rfl | exact Nat.le_refl _ | omega⟩
                · repeat (first | exact trivial | refine And.intro (covS_syn (by first | rfl) rfl (by first | exact trivial | exact Nat.le_of_ble_eq_true rfl | exact hy | exact (fun p hp => nomatch hp) | (show (_ : Nat) < _; omega))) ?_ | refine And.intro (covS_bool rfl rfl (by first | rfl | (exact (congrArg Prod.snd hfs0).symm))) ?_)
                · repeat (first | exact trivial | refine And.intro (covE_id (Nat.le_of_ble_eq_true rfl) (by first | exact wf_ints _ _ | exact wf_bools _ _ | first | exact wf_cells _ _ | simp [C.wf]) rfl (by first | rfl | (exact congrArg (fun x : (Int → Option Way) × Bool => cellC (encL x.1 cs.length)) hfs0.symm))) ?_)
              · intro m hm
                refine vc_ok tok ?_
                by_cases hml : m < nl.length
                · have hst := hfss m hml
                  have hbd := hfsb m
                  have hldk := intL hml
                  have hkk := hne _ (getD_mem hml)
                  obtain ⟨kk, hkke⟩ : ∃ kk : Nat, (kk : Int) = nl.getD m 0 := ⟨(nl.getD m 0).toNat, by omega⟩
                  rw [← hkke] at hst hldk hkk
                  have hkl : kk < cs.length := by omega
                  obtain ⟨fb, hfb⟩ : ∃ fb, fb = fs m := ⟨_, rfl⟩
                  rw [← hfb] at hst hbd
                  rw [← hfb]
                  have hlw := cellT (l := encL fb.1 cs.length) (k := kk) rfl (by rw [encL_len]; exact hkl)
                  have hlo := cellT (l := encL fb.1 cs.length) (k := j) rfl (by rw [encL_len]; exact hlt)
                  rw [encL_get hkl] at hlw
                  rw [encL_get hlt] at hlo
                  by_cases h1 : cj = 0
                  · have hst2 : fs (m + 1) = fb := by rw [hst]; unfold stepR; rw [hhl, dd_f (fun h => h h1)]; rfl
                    repeat ((conv => whnf); first | (refine And.intro (by first | omega | exact Nat.le_of_ble_eq_true rfl | (dsimp only [inK]; omega) | (simp only [mulS_eq]; omega) | (simp only [mulS_eq, setL_length]; omega) | (simp only [setL_length, List.length_map]; omega) | exact ⟨by omega, by omega, by first | exact Nat.le_of_ble_eq_true rfl | (dsimp only; omega) | (simp only [setL_length]; omega) | (simp only [setL_length, List.length_map]; omega)⟩ | exact ⟨by omega, by first | rfl | omega, by omega, Nat.le_of_ble_eq_true rfl, Nat.le_of_ble_eq_true rfl⟩ | exact ⟨rfl, rfl, rfl, Nat.le_of_ble_eq_true rfl, by first | rfl | omega | exact Nat.le_of_ble_eq_true rfl | (dsimp only; omega) | (simp; done) | (simp; omega), by first | rfl | omega | exact Nat.le_of_ble_eq_true rfl | (dsimp only; omega) | (simp; done) | (simp; omega), by omega, Nat.le_of_ble_eq_true rfl⟩ | exact Eq.refl true) ?_) | (with_reducible refine ld (hldk) ?_) | (with_reducible refine ld (hlw) ?_) | (refine Exists.intro _ (And.intro rfl ?_)) | (refine And.intro (And.intro rfl (chk_rowI _ _ _ _)) ?_) | (refine br_t (by omega) ?_) | (refine br_f (by omega) ?_) | (refine bs_t (by omega) ?_) | (refine bs_f (by omega) ?_) | (refine fun (K' : K3) hK' => ?_) | (refine hK' _ _ _ ?_; clear hK' K') | (refine draw_auto tok mixed (by kernel_rfl) ?_) | (refine And.intro (by refine ⟨by omega, by omega, ?_⟩; (try dsimp only); rw [hcl2]; omega) ?_) | (refine bs_t h1 ?_) | (refine br_t h1 ?_) | (refine bs_bt (Eq.refl true) ?_) | (refine bs_bf (Eq.refl false) ?_) | (refine br_bt (Eq.refl true) ?_) | (refine br_bf (Eq.refl false) ?_) | (refine CallK.m ?_) | (refine And.intro (And.intro rfl rfl) ?_))
                    refine ⟨m + 1, [], by omega, by omega, ?_⟩
                    refine ⟨?_, ?_, rfl, rfl, by first | exact Nat.le_of_ble_eq_true rfl | exact Nat.le_refl _ | omega⟩
                    · repeat (first | exact trivial | refine And.intro (covS_syn (by first | rfl | (refine congrArg some (congrArg V.i ?_); omega)) rfl (by first | exact trivial | exact Nat.le_of_ble_eq_true rfl | exact hy | exact (fun p hp => nomatch hp) | (show (_ : Nat) < _; omega))) ?_ | refine And.intro (covS_bool rfl rfl (by first | rfl | (exact (congrArg Prod.snd hst2).symm))) ?_)
                    · repeat (first | exact trivial | refine And.intro (covE_id (Nat.le_of_ble_eq_true rfl) (by first | exact wf_ints _ _ | exact wf_bools _ _ | first | exact wf_cells _ _ | simp [C.wf]) rfl (by first | rfl | (exact congrArg (fun x : (Int → Option Way) × Bool => cellC (encL x.1 cs.length)) hst2.symm))) ?_)
                  · cases hdk : fb.1 (kk : Int) with
                    | none =>
                      have hst2 : fs (m + 1) = fb := by rw [hst]; unfold stepR relG; rw [hdk]; split <;> rfl
                      rw [encW_none hdk] at hlw
                      repeat ((conv => whnf); first | (refine And.intro (by first | omega | exact Nat.le_of_ble_eq_true rfl | (dsimp only [inK]; omega) | (simp only [mulS_eq]; omega) | (simp only [mulS_eq, setL_length]; omega) | (simp only [setL_length, List.length_map]; omega) | exact ⟨by omega, by omega, by first | exact Nat.le_of_ble_eq_true rfl | (dsimp only; omega) | (simp only [setL_length]; omega) | (simp only [setL_length, List.length_map]; omega)⟩ | exact ⟨by omega, by first | rfl | omega, by omega, Nat.le_of_ble_eq_true rfl, Nat.le_of_ble_eq_true rfl⟩ | exact ⟨rfl, rfl, rfl, Nat.le_of_ble_eq_true rfl, by first | rfl | omega | exact Nat.le_of_ble_eq_true rfl | (dsimp only; omega) | (simp; done) | (simp; omega), by first | rfl | omega | exact Nat.le_of_ble_eq_true rfl | (dsimp only; omega) | (simp; done) | (simp; omega), by omega, Nat.le_of_ble_eq_true rfl⟩ | exact Eq.refl true) ?_) | (with_reducible refine ld (hldk) ?_) | (with_reducible refine ld (hlw) ?_) | (refine Exists.intro _ (And.intro rfl ?_)) | (refine And.intro (And.intro rfl (chk_rowI _ _ _ _)) ?_) | (refine br_t (by omega) ?_) | (refine br_f (by omega) ?_) | (refine bs_t (by omega) ?_) | (refine bs_f (by omega) ?_) | (refine fun (K' : K3) hK' => ?_) | (refine hK' _ _ _ ?_; clear hK' K') | (refine draw_auto tok mixed (by kernel_rfl) ?_) | (refine And.intro (by refine ⟨by omega, by omega, ?_⟩; (try dsimp only); rw [hcl2]; omega) ?_) | (refine bs_f h1 ?_) | (refine br_f h1 ?_) | (refine bs_bt (Eq.refl true) ?_) | (refine bs_bf (Eq.refl false) ?_) | (refine br_bt (Eq.refl true) ?_) | (refine br_bf (Eq.refl false) ?_) | (refine CallK.m ?_) | (refine And.intro (And.intro rfl rfl) ?_))
                      refine ⟨m + 1, [], by omega, by omega, ?_⟩
                      refine ⟨?_, ?_, rfl, rfl, by first | exact Nat.le_of_ble_eq_true rfl | exact Nat.le_refl _ | omega⟩
                      · repeat (first | exact trivial | refine And.intro (covS_syn (by first | rfl | (refine congrArg some (congrArg V.i ?_); omega)) rfl (by first | exact trivial | exact Nat.le_of_ble_eq_true rfl | exact hy | exact (fun p hp => nomatch hp) | (show (_ : Nat) < _; omega))) ?_ | refine And.intro (covS_bool rfl rfl (by first | rfl | (exact (congrArg Prod.snd hst2).symm))) ?_)
                      · repeat (first | exact trivial | refine And.intro (covE_id (Nat.le_of_ble_eq_true rfl) (by first | exact wf_ints _ _ | exact wf_bools _ _ | first | exact wf_cells _ _ | simp [C.wf]) rfl (by first | rfl | (exact congrArg (fun x : (Int → Option Way) × Bool => cellC (encL x.1 cs.length)) hst2.symm))) ?_)
                    | some w =>
                      have hwb := hbd _ w hdk
                      have hw0 : ¬ w.2 = 0 := by omega
                      rw [encW_some hdk] at hlw
                      obtain ⟨cc, hcc⟩ : ∃ cc, cc = cstI cs (j : Int) := ⟨_, rfl⟩
                      rw [← hcc] at hrc hcn
                      have hstg : fs (m + 1) = relG (cstI cs) (j : Int) fb (kk : Int) := by rw [hst]; unfold stepR; rw [hhl, dd_t h1]; rfl
                      have hbt := better_spec (w.1 + cc, w.2 + 1) (encW fb.1 j)
                      have hbw : betW (w.1 + cc, w.2 + 1) (encW fb.1 j) = (match fb.1 (j : Int) with | none => true | some old => lessW (w.1 + cc, w.2 + 1) old) := by
                        cases hdj : fb.1 (j : Int) with
                        | none => rw [encW_none hdj]; unfold betW; rw [if_pos (.inr rfl)]; exact dd_t (show w.2 + 1 > 0 by omega)
                        | some old =>
                          have := hbd _ old hdj
                          rw [encW_some hdj]; unfold betW; rw [if_neg (show ¬ (w.2 + 1 = 0 ∨ old.2 = 0) by omega)]
                      have hob : ∀ old, fb.1 (j : Int) = some old → 0 ≤ old.1 ∧ old.1 ≤ 100 * old.2 ∧ 1 ≤ old.2 ∧ old.2 ≤ 93000 := fun old h => hbd _ old h
                      cases hbv : betW (w.1 + cc, w.2 + 1) (encW fb.1 j) with
                      | true =>
                        have hst2 : fs (m + 1) = (updD fb.1 (j : Int) (w.1 + cc, w.2 + 1), true) := by
                          rw [hbv] at hbw
                          rw [hstg]; unfold relG; rw [hdk]; simp only [addW, ← hcc]
                          split
                          · rfl
                          · rename_i old ho
                            rw [ho] at hbw
                            simp only at hbw
                            rw [← hbw]; rfl
                        have hcell : setL (cellC (encL fb.1 cs.length)) (mulS ((j : Nat) : Int).toNat 2) [C.i (w.1 + cc), C.i (w.2 + 1)] = cellC (encL (fs (m + 1)).1 cs.length) := by
                          rw [setL_cellz rfl (by rw [encL_len]; exact hlt), encL_upd, hst2]
                        repeat ((conv => whnf); first | (refine And.intro (by first | omega | exact Nat.le_of_ble_eq_true rfl | (dsimp only [inK]; omega) | (simp only [mulS_eq]; omega) | (simp only [mulS_eq, setL_length]; omega) | (simp only [setL_length, List.length_map]; omega) | exact ⟨by omega, by omega, by first | exact Nat.le_of_ble_eq_true rfl | (dsimp only; omega) | (simp only [setL_length]; omega) | (simp only [setL_length, List.length_map]; omega)⟩ | exact ⟨by omega, by first | rfl | omega, by omega, Nat.le_of_ble_eq_true rfl, Nat.le_of_ble_eq_true rfl⟩ | exact ⟨rfl, rfl, rfl, Nat.le_of_ble_eq_true rfl, by first | rfl | omega | exact Nat.le_of_ble_eq_true rfl | (dsimp only; omega) | (simp; done) | (simp; omega), by first | rfl | omega | exact Nat.le_of_ble_eq_true rfl | (dsimp only; omega) | (simp; done) | (simp; omega), by omega, Nat.le_of_ble_eq_true rfl⟩ | exact Eq.refl true) ?_) | (with_reducible refine ld (hldk) ?_) | (with_reducible refine ld (hlw) ?_) | (with_reducible refine ld (hlo) ?_) | (refine Exists.intro _ (And.intro rfl ?_)) | (refine And.intro (And.intro rfl (chk_rowI _ _ _ _)) ?_) | (refine br_t (by omega) ?_) | (refine br_f (by omega) ?_) | (refine bs_t (by omega) ?_) | (refine bs_f (by omega) ?_) | (refine fun (K' : K3) hK' => ?_) | (refine hK' _ _ _ ?_; clear hK' K') | (refine draw_auto tok mixed (by kernel_rfl) ?_) | (refine And.intro (by refine ⟨by omega, by omega, ?_⟩; (try dsimp only); rw [hcl2]; omega) ?_) | (refine bs_f h1 ?_) | (refine br_f h1 ?_) | (refine bs_f hw0 ?_) | (refine br_f hw0 ?_) | (refine HD_mk (fun _ h => CallK.val (R := []) hrc (by kernel_rfl) rfl (by simp [V.wf, A.wf, C.wf]) ⟨roE_id (by omega) (wf_ints _ _) rfl (.inl rfl) rfl, trivial⟩ rfl rfl trivial h) ?_) | (refine HD_mk (fun _ h => CallK.val (R := []) hbt (by kernel_rfl) rfl (by simp [V.wf, A.wf, C.wf]) trivial rfl rfl trivial h) ?_) | (refine br_bt hbv ?_) | (refine And.intro (by (try dsimp only); rw [hcl2, mulS_eq]; simp only [Int.toNat_natCast]; omega) ?_) | (refine bs_bt (Eq.refl true) ?_) | (refine bs_bf (Eq.refl false) ?_) | (refine br_bt (Eq.refl true) ?_) | (refine br_bf (Eq.refl false) ?_) | (refine CallK.m ?_) | (refine And.intro (And.intro rfl rfl) ?_))
                        refine ⟨m + 1, [], by omega, by omega, ?_⟩
                        refine ⟨?_, ?_, rfl, rfl, by first | exact Nat.le_of_ble_eq_true rfl | exact Nat.le_refl _ | omega⟩
                        · repeat (first | exact trivial | refine And.intro (covS_syn (by first | rfl | (refine congrArg some (congrArg V.i ?_); omega)) rfl (by first | exact trivial | exact Nat.le_of_ble_eq_true rfl | exact hy | exact (fun p hp => nomatch hp) | (show (_ : Nat) < _; omega))) ?_ | refine And.intro (covS_bool rfl rfl (by first | rfl | (exact (congrArg Prod.snd hst2).symm))) ?_)
                        · repeat (first | exact trivial | refine And.intro (covE_id (Nat.le_of_ble_eq_true rfl) (by first | exact wf_ints _ _ | exact wf_bools _ _ | first | exact wf_cells _ _ | simp [C.wf]) rfl (by first | rfl | (exact hcell))) ?_)
                      | false =>
                        have hst2 : fs (m + 1) = fb := by
                          rw [hbv] at hbw
                          rw [hstg]; unfold relG; rw [hdk]; simp only [addW, ← hcc]
                          split
                          · rename_i ho; rw [ho] at hbw; simp only at hbw; cases hbw
                          · rename_i old ho
                            rw [ho] at hbw
                            simp only at hbw
                            rw [← hbw]; rfl
                        repeat ((conv => whnf); first | (refine And.intro (by first | omega | exact Nat.le_of_ble_eq_true rfl | (dsimp only [inK]; omega) | (simp only [mulS_eq]; omega) | (simp only [mulS_eq, setL_length]; omega) | (simp only [setL_length, List.length_map]; omega) | exact ⟨by omega, by omega, by first | exact Nat.le_of_ble_eq_true rfl | (dsimp only; omega) | (simp only [setL_length]; omega) | (simp only [setL_length, List.length_map]; omega)⟩ | exact ⟨by omega, by first | rfl | omega, by omega, Nat.le_of_ble_eq_true rfl, Nat.le_of_ble_eq_true rfl⟩ | exact ⟨rfl, rfl, rfl, Nat.le_of_ble_eq_true rfl, by first | rfl | omega | exact Nat.le_of_ble_eq_true rfl | (dsimp only; omega) | (simp; done) | (simp; omega), by first | rfl | omega | exact Nat.le_of_ble_eq_true rfl | (dsimp only; omega) | (simp; done) | (simp; omega), by omega, Nat.le_of_ble_eq_true rfl⟩ | exact Eq.refl true) ?_) | (with_reducible refine ld (hldk) ?_) | (with_reducible refine ld (hlw) ?_) | (with_reducible refine ld (hlo) ?_) | (refine Exists.intro _ (And.intro rfl ?_)) | (refine And.intro (And.intro rfl (chk_rowI _ _ _ _)) ?_) | (refine br_t (by omega) ?_) | (refine br_f (by omega) ?_) | (refine bs_t (by omega) ?_) | (refine bs_f (by omega) ?_) | (refine fun (K' : K3) hK' => ?_) | (refine hK' _ _ _ ?_; clear hK' K') | (refine draw_auto tok mixed (by kernel_rfl) ?_) | (refine And.intro (by refine ⟨by omega, by omega, ?_⟩; (try dsimp only); rw [hcl2]; omega) ?_) | (refine bs_f h1 ?_) | (refine br_f h1 ?_) | (refine bs_f hw0 ?_) | (refine br_f hw0 ?_) | (refine HD_mk (fun _ h => CallK.val (R := []) hrc (by kernel_rfl) rfl (by simp [V.wf, A.wf, C.wf]) ⟨roE_id (by omega) (wf_ints _ _) rfl (.inl rfl) rfl, trivial⟩ rfl rfl trivial h) ?_) | (refine HD_mk (fun _ h => CallK.val (R := []) hbt (by kernel_rfl) rfl (by simp [V.wf, A.wf, C.wf]) trivial rfl rfl trivial h) ?_) | (refine br_bf hbv ?_) | (refine bs_bt (Eq.refl true) ?_) | (refine bs_bf (Eq.refl false) ?_) | (refine br_bt (Eq.refl true) ?_) | (refine br_bf (Eq.refl false) ?_) | (refine CallK.m ?_) | (refine And.intro (And.intro rfl rfl) ?_))
                        refine ⟨m + 1, [], by omega, by omega, ?_⟩
                        refine ⟨?_, ?_, rfl, rfl, by first | exact Nat.le_of_ble_eq_true rfl | exact Nat.le_refl _ | omega⟩
                        · repeat (first | exact trivial | refine And.intro (covS_syn (by first | rfl | (refine congrArg some (congrArg V.i ?_); omega)) rfl (by first | exact trivial | exact Nat.le_of_ble_eq_true rfl | exact hy | exact (fun p hp => nomatch hp) | (show (_ : Nat) < _; omega))) ?_ | refine And.intro (covS_bool rfl rfl (by first | rfl | (exact (congrArg Prod.snd hst2).symm))) ?_)
                        · repeat (first | exact trivial | refine And.intro (covE_id (Nat.le_of_ble_eq_true rfl) (by first | exact wf_ints _ _ | exact wf_bools _ _ | first | exact wf_cells _ _ | simp [C.wf]) rfl (by first | rfl | (exact congrArg (fun x : (Int → Option Way) × Bool => cellC (encL x.1 cs.length)) hst2.symm))) ?_)
                · have hme : m = nl.length := by omega
                  subst hme
                  repeat ((conv => whnf); first | (refine And.intro (by first | omega | exact Nat.le_of_ble_eq_true rfl | (dsimp only [inK]; omega) | (simp only [mulS_eq]; omega) | (simp only [mulS_eq, setL_length]; omega) | (simp only [setL_length, List.length_map]; omega) | exact ⟨by omega, by omega, by first | exact Nat.le_of_ble_eq_true rfl | (dsimp only; omega) | (simp only [setL_length]; omega) | (simp only [setL_length, List.length_map]; omega)⟩ | exact ⟨by omega, by first | rfl | omega, by omega, Nat.le_of_ble_eq_true rfl, Nat.le_of_ble_eq_true rfl⟩ | exact ⟨rfl, rfl, rfl, Nat.le_of_ble_eq_true rfl, by first | rfl | omega | exact Nat.le_of_ble_eq_true rfl | (dsimp only; omega) | (simp; done) | (simp; omega), by first | rfl | omega | exact Nat.le_of_ble_eq_true rfl | (dsimp only; omega) | (simp; done) | (simp; omega), by omega, Nat.le_of_ble_eq_true rfl⟩ | exact Eq.refl true) ?_) | (refine Exists.intro _ (And.intro rfl ?_)) | (refine And.intro (And.intro rfl (chk_rowI _ _ _ _)) ?_) | (refine br_t (by omega) ?_) | (refine br_f (by omega) ?_) | (refine bs_t (by omega) ?_) | (refine bs_f (by omega) ?_) | (refine fun (K' : K3) hK' => ?_) | (refine hK' _ _ _ ?_; clear hK' K') | (refine draw_auto tok mixed (by kernel_rfl) ?_) | (refine bs_bt (Eq.refl true) ?_) | (refine bs_bf (Eq.refl false) ?_) | (refine br_bt (Eq.refl true) ?_) | (refine br_bf (Eq.refl false) ?_) | (refine CallK.m ?_) | (refine And.intro (And.intro rfl rfl) ?_))
                  refine ⟨j + 1, [], by omega, by omega, ?_⟩
                  refine ⟨?_, ?_, rfl, rfl, by first | exact Nat.le_of_ble_eq_true rfl | exact Nat.le_refl _ | omega⟩
                  · repeat (first | exact trivial | refine And.intro (covS_syn (by first | rfl | (refine congrArg some (congrArg V.i ?_); omega)) rfl (by first | exact trivial | exact Nat.le_of_ble_eq_true rfl | exact hy | exact (fun p hp => nomatch hp) | (show (_ : Nat) < _; omega))) ?_ | refine And.intro (covS_bool rfl rfl (by first | rfl | (exact congrArg Prod.snd hfsn))) ?_)
                  · repeat (first | exact trivial | refine And.intro (covE_id (Nat.le_of_ble_eq_true rfl) (by first | exact wf_ints _ _ | exact wf_bools _ _ | first | exact wf_cells _ _ | simp [C.wf]) rfl (by first | rfl | (exact congrArg (fun x : (Int → Option Way) × Bool => cellC (encL x.1 cs.length)) hfsn))) ?_)
            · have hkn : j = cs.length := by omega
              subst hkn
              repeat ((conv => whnf); first | (refine And.intro (by first | omega | exact Nat.le_of_ble_eq_true rfl | (dsimp only [inK]; omega) | (simp only [mulS_eq]; omega) | (simp only [mulS_eq, setL_length]; omega) | (simp only [setL_length, List.length_map]; omega) | exact ⟨by omega, by omega, by first | exact Nat.le_of_ble_eq_true rfl | (dsimp only; omega) | (simp only [setL_length]; omega) | (simp only [setL_length, List.length_map]; omega)⟩ | exact ⟨by omega, by first | rfl | omega, by omega, Nat.le_of_ble_eq_true rfl, Nat.le_of_ble_eq_true rfl⟩ | exact ⟨rfl, rfl, rfl, Nat.le_of_ble_eq_true rfl, by first | rfl | omega | exact Nat.le_of_ble_eq_true rfl | (dsimp only; omega) | (simp; done) | (simp; omega), by first | rfl | omega | exact Nat.le_of_ble_eq_true rfl | (dsimp only; omega) | (simp; done) | (simp; omega), by omega, Nat.le_of_ble_eq_true rfl⟩ | exact Eq.refl true) ?_) | (refine Exists.intro _ (And.intro rfl ?_)) | (refine And.intro (And.intro rfl (chk_rowI _ _ _ _)) ?_) | (refine br_t (by omega) ?_) | (refine br_f (by omega) ?_) | (refine bs_t (by omega) ?_) | (refine bs_f (by omega) ?_) | (refine fun (K' : K3) hK' => ?_) | (refine hK' _ _ _ ?_; clear hK' K') | (refine draw_auto tok mixed (by kernel_rfl) ?_) | (refine bs_bt (Eq.refl true) ?_) | (refine bs_bf (Eq.refl false) ?_) | (refine br_bt (Eq.refl true) ?_) | (refine br_bf (Eq.refl false) ?_) | (refine CallK.m ?_) | (refine And.intro (And.intro rfl rfl) ?_))
              refine ⟨t + 1, [], ?_, by omega, ?_⟩
              · by_cases hq : t + 1 ≤ cs.length
                · exact .inl hq
                · have : t = cs.length := by omega
                  rw [this]; exact .inr ⟨itR_end hok, Nat.le_refl _⟩
              refine ⟨?_, ?_, rfl, rfl, by first | exact Nat.le_of_ble_eq_true rfl | exact Nat.le_refl _ | omega⟩
              · repeat (first | exact trivial | refine And.intro (covS_syn (by first | rfl | (refine congrArg some (congrArg V.i ?_); omega)) rfl (by first | exact trivial | exact Nat.le_of_ble_eq_true rfl | exact hy | exact (fun p hp => nomatch hp) | (show (_ : Nat) < _; omega))) ?_ | refine And.intro (covS_bool rfl rfl (by first | rfl | (exact congrArg Prod.snd hpsn))) ?_)
              · repeat (first | exact trivial | refine And.intro (covE_id (Nat.le_of_ble_eq_true rfl) (by first | exact wf_ints _ _ | exact wf_bools _ _ | first | exact wf_cells _ _ | simp [C.wf]) rfl (by first | rfl | (exact congrArg (fun x : (Int → Option Way) × Bool => cellC (encL x.1 cs.length)) hpsn))) ?_)
end Go.Proofs.Ytbhpnhcdjmcaoaa

/- Boom, the reference: ways. -/
namespace Go.Proofs.Ytbhpnhcdjmcaoaa
open Go.RowKit
set_option linter.unusedVariables false
set_option linter.unusedSimpArgs false
@[reducible] def cz : Cell := (0, 0)
/-- Cell i of a list is right: on the chart, beside the one in front of it, and no other one. -/
def stepB (W H : Int) (e : Bool) (p q : Cell) : Bool := fourB p.1 p.2 q.1 q.2 || (e && eightB p.1 p.2 q.1 q.2)
def wayOk (W H : Int) (l : List Cell) (e : Bool) (i : Nat) : Bool := onB W H (l.getD i cz).1 (l.getD i cz).2 && ((decide (i = 0) || stepB W H e (l.getD i cz) (l.getD (i - 1) cz)) && !((l.take i).any fun q => decide (l.getD i cz = q)))
def isWayK (W H : Int) (l : List Cell) (e : Bool) (k : Nat) : Bool := (List.range k).all (wayOk W H l e)
def isWayB (W H : Int) (l : List Cell) (e : Bool) : Bool := isWayK W H l e l.length && (decide ((l.length : Int) ≥ 1) && decide ((l.length : Int) ≤ 100))
theorem isWayK_succ (W H : Int) (l : List Cell) (e : Bool) (k : Nat) : isWayK W H l e (k + 1) = (isWayK W H l e k && wayOk W H l e k) := by simp [isWayK, List.range_succ, List.all_append]
theorem isWayK_get {W H : Int} {l : List Cell} {e : Bool} {k j : Nat} (h : isWayK W H l e k = true) (hj : j < k) : wayOk W H l e j = true := List.all_eq_true.1 h j (by simpa using hj)
theorem isWayB_false {W H : Int} {l : List Cell} {e : Bool} {k : Nat} (hk : k < l.length) (h : wayOk W H l e k = false) : isWayB W H l e = false := by
  have : isWayK W H l e l.length = false := by
    unfold isWayK; rw [List.all_eq_false]; exact ⟨k, by simpa using hk, by simp [h]⟩
  unfold isWayB; rw [this]; rfl
theorem wayOk_on {W H : Int} {l : List Cell} {e : Bool} {k : Nat} (h : wayOk W H l e k = true) : onB W H (l.getD k cz).1 (l.getD k cz).2 = true := by
  unfold wayOk at h; simp only [Bool.and_eq_true] at h; exact h.1
theorem any_take {l : List Cell} {p : Cell} {j i : Nat} (hj : j < i) (hi : i ≤ l.length) (h : p = l.getD j cz) : ((l.take i).any fun q => decide (p = q)) = true := by
  rw [List.any_eq_true]
  refine ⟨l.getD j cz, ?_, by simp [h]⟩
  rw [List.getD_eq_getElem?_getD, List.getElem?_eq_getElem (by omega)]
  exact List.mem_take_iff_getElem.2 ⟨j, by omega, rfl⟩
theorem any_none {l : List Cell} {p : Cell} {i : Nat} (hi : i ≤ l.length) (h : ∀ j, j < i → ¬ p = l.getD j cz) : ((l.take i).any fun q => decide (p = q)) = false := by
  rw [List.any_eq_false]
  intro q hq
  obtain ⟨j, hj, rfl⟩ := List.mem_take_iff_getElem.1 hq
  have := h j (by omega)
  rw [List.getD_eq_getElem?_getD, List.getElem?_eq_getElem (by omega)] at this
  simpa using this
set_option maxRecDepth 10000 in
set_option maxHeartbeats 8000000 in
theorem isWay_spec (W H : Int) (n : Nat) (l : List Cell) (e : Bool) (hW : 0 < W ∧ W ≤ 10) (hH : 0 < H ∧ H ≤ 10) (hl : l.length ≤ 300) :
    Spec Try.prog 86 [chR W H n, V.c (.sl 1 l.length), V.c (.bool e)] [⟨1, .ro 2, cellC l⟩] 2 (Is (V.c (.bool (isWayB W H l e)))) := by
  have hcl := cellC_len l
  refine Spec.of tok Try.func86 rfl rfl rfl fun n0 cx => vc_ok tok ?_
  repeat ((conv => whnf); first | (refine And.intro (by first | omega | exact Nat.le_of_ble_eq_true rfl | (dsimp only [inK]; omega) | (simp only [mulS_eq]; omega) | (simp only [mulS_eq, setL_length]; omega) | (simp only [setL_length, List.length_map]; omega) | exact ⟨by omega, by omega, by first | exact Nat.le_of_ble_eq_true rfl | (dsimp only; omega) | (simp only [setL_length]; omega) | (simp only [setL_length, List.length_map]; omega)⟩ | exact ⟨by omega, by first | rfl | omega, by omega, Nat.le_of_ble_eq_true rfl, Nat.le_of_ble_eq_true rfl⟩ | exact ⟨rfl, rfl, rfl, Nat.le_of_ble_eq_true rfl, by first | rfl | omega | exact Nat.le_of_ble_eq_true rfl | (dsimp only; omega) | (simp; done) | (simp; omega), by first | rfl | omega | exact Nat.le_of_ble_eq_true rfl | (dsimp only; omega) | (simp; done) | (simp; omega), by omega, Nat.le_of_ble_eq_true rfl⟩ | exact Eq.refl true) ?_) | (refine Exists.intro _ (And.intro rfl ?_)) | (refine And.intro (And.intro rfl (chk_rowI _ _ _ _)) ?_) | (refine br_t (by omega) ?_) | (refine br_f (by omega) ?_) | (refine bs_t (by omega) ?_) | (refine bs_f (by omega) ?_) | (refine fun (K' : K3) hK' => ?_) | (refine hK' _ _ _ ?_; clear hK' K') | (refine draw_auto tok mixed (by kernel_rfl) ?_) | (refine bs_bt (Eq.refl true) ?_) | (refine bs_bf (Eq.refl false) ?_) | (refine br_bt (Eq.refl true) ?_) | (refine br_bf (Eq.refl false) ?_) | (refine CallK.m ?_) | (refine And.intro (And.intro rfl rfl) ?_))
  refine Tri.loop (γ := Nat) (fun k => k ≤ l.length ∧ isWayK W H l e k = true) (fun k => [(1, V.c (.sl 1 l.length)), (2, V.c (.bool e)), (3, V.c (.ptr 2 0)), (11, V.c (.sl 1 l.length)), (12, V.i l.length), (13, V.i (k : Nat))])
    (fun k => [⟨2, .own 24, [C.i W, C.i H, .sl 0 n]⟩, ⟨1, .ro 2, cellC l⟩]) 3 (fun k => l.length - k) 0 (R0 := []) ?_ ?_ ?_
  · exact ⟨by omega, rfl⟩
  · skip
    refine ⟨?_, ?_, rfl, rfl, by first | exact Nat.le_of_ble_eq_true rfl | exact Nat.le_refl _ | omega⟩
    · repeat (first | exact trivial | refine And.intro (covS_syn (by first | rfl) rfl (by first | exact trivial | exact Nat.le_of_ble_eq_true rfl | exact hy | exact (fun p hp => nomatch hp) | (show (_ : Nat) < _; omega))) ?_ | refine And.intro (covS_bool rfl rfl (by first | rfl)) ?_)
    · repeat (first | exact trivial | refine And.intro (covE_id (Nat.le_of_ble_eq_true rfl) (by first | exact wf_ints _ _ | exact wf_bools _ _ | first | exact wf_cells _ _ | simp [C.wf]) rfl (by first | rfl)) ?_)
  · rintro k ⟨hk, hok⟩
    refine vc_ok tok ?_
    by_cases hlt : k < l.length
    · have hld := cellT (l := l) (k := k) rfl hlt
      have hno := fun h => isWayB_false (W := W) (H := H) (e := e) hlt h
      have hon := on_spec W H n (l.getD k cz).1 (l.getD k cz).2
      have hwk : wayOk W H l e k = (onB W H (l.getD k cz).1 (l.getD k cz).2 && ((decide (k = 0) || stepB W H e (l.getD k cz) (l.getD (k - 1) cz)) && !((l.take k).any fun q => decide (l.getD k cz = q)))) := rfl
      have hneq : ∀ j, j < k → l.getD k cz = l.getD j cz → ((l.take k).any fun q => decide (l.getD k cz = q)) = true := fun j hj h => any_take hj (by omega) h
      have hall : (∀ j, j < k → ¬ l.getD k cz = l.getD j cz) → ((l.take k).any fun q => decide (l.getD k cz = q)) = false := fun h => any_none (by omega) h
      obtain ⟨p, hp⟩ : ∃ p, p = l.getD k cz := ⟨_, rfl⟩
      rw [← hp] at hld hon hwk hneq hall
      -- behind the test of the cell itself
      have fin : (decide (k = 0) || stepB W H e p (l.getD (k - 1) cz)) = true → onB W H p.1 p.2 = true → wayOk W H l e k = !((l.take k).any fun q => decide (p = q)) := fun h1 h2 => by rw [hwk, h1, h2]; simp
      cases hob : onB W H p.1 p.2 with
      | false =>
        have hr := hno (by rw [hwk, hob]; rfl)
        repeat ((conv => whnf); first | (refine And.intro (by first | omega | exact Nat.le_of_ble_eq_true rfl | (dsimp only [inK]; omega) | (simp only [mulS_eq]; omega) | (simp only [mulS_eq, setL_length]; omega) | (simp only [setL_length, List.length_map]; omega) | exact ⟨by omega, by omega, by first | exact Nat.le_of_ble_eq_true rfl | (dsimp only; omega) | (simp only [setL_length]; omega) | (simp only [setL_length, List.length_map]; omega)⟩ | exact ⟨by omega, by first | rfl | omega, by omega, Nat.le_of_ble_eq_true rfl, Nat.le_of_ble_eq_true rfl⟩ | exact ⟨rfl, rfl, rfl, Nat.le_of_ble_eq_true rfl, by first | rfl | omega | exact Nat.le_of_ble_eq_true rfl | (dsimp only; omega) | (simp; done) | (simp; omega), by first | rfl | omega | exact Nat.le_of_ble_eq_true rfl | (dsimp only; omega) | (simp; done) | (simp; omega), by omega, Nat.le_of_ble_eq_true rfl⟩ | exact Eq.refl true) ?_) | (with_reducible refine ld (hld) ?_) | (refine Exists.intro _ (And.intro rfl ?_)) | (refine And.intro (And.intro rfl (chk_rowI _ _ _ _)) ?_) | (refine br_t (by omega) ?_) | (refine br_f (by omega) ?_) | (refine bs_t (by omega) ?_) | (refine bs_f (by omega) ?_) | (refine fun (K' : K3) hK' => ?_) | (refine hK' _ _ _ ?_; clear hK' K') | (refine draw_auto tok mixed (by kernel_rfl) ?_) | (refine HD_mk (fun _ h => CallK.val (R := []) hon (by kernel_rfl) rfl (by simp [V.wf, A.wf, C.wf]) trivial rfl rfl trivial h) ?_) | (refine bs_bt (congrArg Bool.not hob) ?_) | (refine br_bt (congrArg Bool.not hob) ?_) | (refine bs_bt (Eq.refl true) ?_) | (refine bs_bf (Eq.refl false) ?_) | (refine br_bt (Eq.refl true) ?_) | (refine br_bf (Eq.refl false) ?_) | (refine CallK.m ?_) | (refine And.intro (And.intro rfl rfl) ?_))
        intro ρ; rw [hr]; rfl
      | true =>
        have hpo := onB_t hob
        by_cases hk0 : (k : Int) > 0
        · have hq0 := onB_t (wayOk_on (isWayK_get hok (show k - 1 < k by omega)))
          have hfo := four_spec p.1 p.2 (l.getD (k - 1) cz).1 (l.getD (k - 1) cz).2 (by omega) (by omega) (by omega) (by omega)
          have hei := eight_spec p.1 p.2 (l.getD (k - 1) cz).1 (l.getD (k - 1) cz).2 (by omega) (by omega) (by omega) (by omega)
          have hldq := cellT (l := l) (k := k - 1) (z := (k : Int) - 1) (by omega) (by omega)
          obtain ⟨q0, hq0e⟩ : ∃ q0, q0 = l.getD (k - 1) cz := ⟨_, rfl⟩
          rw [← hq0e] at hfo hei hldq fin hwk
          have hsb : stepB W H e p q0 = (fourB p.1 p.2 q0.1 q0.2 || (e && eightB p.1 p.2 q0.1 q0.2)) := rfl
          have hkz : decide (k = 0) = false := dd_f (by omega)
          cases h4 : fourB p.1 p.2 q0.1 q0.2 with
          | true =>
            repeat ((conv => whnf); first | (refine And.intro (by first | omega | exact Nat.le_of_ble_eq_true rfl | (dsimp only [inK]; omega) | (simp only [mulS_eq]; omega) | (simp only [mulS_eq, setL_length]; omega) | (simp only [setL_length, List.length_map]; omega) | exact ⟨by omega, by omega, by first | exact Nat.le_of_ble_eq_true rfl | (dsimp only; omega) | (simp only [setL_length]; omega) | (simp only [setL_length, List.length_map]; omega)⟩ | exact ⟨by omega, by first | rfl | omega, by omega, Nat.le_of_ble_eq_true rfl, Nat.le_of_ble_eq_true rfl⟩ | exact ⟨rfl, rfl, rfl, Nat.le_of_ble_eq_true rfl, by first | rfl | omega | exact Nat.le_of_ble_eq_true rfl | (dsimp only; omega) | (simp; done) | (simp; omega), by first | rfl | omega | exact Nat.le_of_ble_eq_true rfl | (dsimp only; omega) | (simp; done) | (simp; omega), by omega, Nat.le_of_ble_eq_true rfl⟩ | exact Eq.refl true) ?_) | (with_reducible refine ld (hld) ?_) | (with_reducible refine ld (hldq) ?_) | (refine Exists.intro _ (And.intro rfl ?_)) | (refine And.intro (And.intro rfl (chk_rowI _ _ _ _)) ?_) | (refine br_t (by omega) ?_) | (refine br_f (by omega) ?_) | (refine bs_t (by omega) ?_) | (refine bs_f (by omega) ?_) | (refine fun (K' : K3) hK' => ?_) | (refine hK' _ _ _ ?_; clear hK' K') | (refine draw_auto tok mixed (by kernel_rfl) ?_) | (refine HD_mk (fun _ h => CallK.val (R := []) hon (by kernel_rfl) rfl (by simp [V.wf, A.wf, C.wf]) trivial rfl rfl trivial h) ?_) | (refine bs_bf (congrArg Bool.not hob) ?_) | (refine br_bf (congrArg Bool.not hob) ?_) | (refine bs_t hk0 ?_) | (refine br_t hk0 ?_) | (refine HD_mk (fun _ h => CallK.val (R := []) hfo (by kernel_rfl) rfl (by simp [V.wf, A.wf, C.wf]) trivial rfl rfl trivial h) ?_) | (refine bs_bf (congrArg Bool.not h4) ?_) | (refine br_bf (congrArg Bool.not h4) ?_) | (refine bs_bt (Eq.refl true) ?_) | (refine bs_bf (Eq.refl false) ?_) | (refine br_bt (Eq.refl true) ?_) | (refine br_bf (Eq.refl false) ?_) | (refine CallK.m ?_) | (refine And.intro (And.intro rfl rfl) ?_))
            refine Tri.loop (γ := Nat) (fun j => j ≤ k ∧ ∀ i, i < j → ¬ p = l.getD i cz) (fun j => [(1, V.c (.sl 1 l.length)), (2, V.c (.bool e)), (3, V.c (.ptr 2 0)), (8, V.c (.ptr 3 0)), (11, V.c (.sl 1 l.length)), (12, V.i l.length), (13, V.i (k : Nat)), (51, V.c (.sl 1 k)), (52, V.i k), (53, V.i (j : Nat))])
              (fun j => [⟨3, .own 57, [C.i p.1, C.i p.2]⟩, ⟨2, .own 24, [C.i W, C.i H, .sl 0 n]⟩, ⟨1, .ro 2, cellC l⟩]) 4 (fun j => k - j) 0 (R0 := []) ?_ ?_ ?_
            · exact ⟨by omega, by omega⟩
            · skip
              refine ⟨?_, ?_, rfl, rfl, by first | exact Nat.le_of_ble_eq_true rfl | exact Nat.le_refl _ | omega⟩
              · repeat (first | exact trivial | refine And.intro (covS_syn (by first | rfl) rfl (by first | exact trivial | exact Nat.le_of_ble_eq_true rfl | exact hy | exact (fun p hp => nomatch hp) | (show (_ : Nat) < _; omega))) ?_ | refine And.intro (covS_bool rfl rfl (by first | rfl)) ?_)
              · repeat (first | exact trivial | refine And.intro (covE_id (Nat.le_of_ble_eq_true rfl) (by first | exact wf_ints _ _ | exact wf_bools _ _ | first | exact wf_cells _ _ | simp [C.wf]) rfl (by first | rfl)) ?_)
            · rintro j ⟨hj, hjn⟩
              refine vc_ok tok ?_
              by_cases hjk : j < k
              · have hld2 := cellT (l := l) (k := j) rfl (by omega)
                have hnj := hneq j hjk
                obtain ⟨q, hq⟩ : ∃ q, q = l.getD j cz := ⟨_, rfl⟩
                rw [← hq] at hld2 hnj
                cases heq : (decide (p.1 = q.1) && (decide (p.2 = q.2) && true)) with
                | true =>
                  have hpq : p = q := by simp at heq; exact Prod.ext heq.1 heq.2
                  have hr := hno (by rw [fin (by rw [hsb, h4]; simp) hob, hnj hpq]; rfl)
                  repeat ((conv => whnf); first | (refine And.intro (by first | omega | exact Nat.le_of_ble_eq_true rfl | (dsimp only [inK]; omega) | (simp only [mulS_eq]; omega) | (simp only [mulS_eq, setL_length]; omega) | (simp only [setL_length, List.length_map]; omega) | exact ⟨by omega, by omega, by first | exact Nat.le_of_ble_eq_true rfl | (dsimp only; omega) | (simp only [setL_length]; omega) | (simp only [setL_length, List.length_map]; omega)⟩ | exact ⟨by omega, by first | rfl | omega, by omega, Nat.le_of_ble_eq_true rfl, Nat.le_of_ble_eq_true rfl⟩ | exact ⟨rfl, rfl, rfl, Nat.le_of_ble_eq_true rfl, by first | rfl | omega | exact Nat.le_of_ble_eq_true rfl | (dsimp only; omega) | (simp; done) | (simp; omega), by first | rfl | omega | exact Nat.le_of_ble_eq_true rfl | (dsimp only; omega) | (simp; done) | (simp; omega), by omega, Nat.le_of_ble_eq_true rfl⟩ | exact Eq.refl true) ?_) | (with_reducible refine ld (hld2) ?_) | (refine Exists.intro _ (And.intro rfl ?_)) | (refine And.intro (And.intro rfl (chk_rowI _ _ _ _)) ?_) | (refine br_t (by omega) ?_) | (refine br_f (by omega) ?_) | (refine bs_t (by omega) ?_) | (refine bs_f (by omega) ?_) | (refine fun (K' : K3) hK' => ?_) | (refine hK' _ _ _ ?_; clear hK' K') | (refine draw_auto tok mixed (by kernel_rfl) ?_) | (refine br_bt heq ?_) | (refine bs_bt (Eq.refl true) ?_) | (refine bs_bf (Eq.refl false) ?_) | (refine br_bt (Eq.refl true) ?_) | (refine br_bf (Eq.refl false) ?_) | (refine CallK.m ?_) | (refine And.intro (And.intro rfl rfl) ?_))
                  intro ρ; rw [hr]; rfl
                | false =>
                  have hpq : ¬ p = q := fun e => by rw [e] at heq; simp at heq
                  repeat ((conv => whnf); first | (refine And.intro (by first | omega | exact Nat.le_of_ble_eq_true rfl | (dsimp only [inK]; omega) | (simp only [mulS_eq]; omega) | (simp only [mulS_eq, setL_length]; omega) | (simp only [setL_length, List.length_map]; omega) | exact ⟨by omega, by omega, by first | exact Nat.le_of_ble_eq_true rfl | (dsimp only; omega) | (simp only [setL_length]; omega) | (simp only [setL_length, List.length_map]; omega)⟩ | exact ⟨by omega, by first | rfl | omega, by omega, Nat.le_of_ble_eq_true rfl, Nat.le_of_ble_eq_true rfl⟩ | exact ⟨rfl, rfl, rfl, Nat.le_of_ble_eq_true rfl, by first | rfl | omega | exact Nat.le_of_ble_eq_true rfl | (dsimp only; omega) | (simp; done) | (simp; omega), by first | rfl | omega | exact Nat.le_of_ble_eq_true rfl | (dsimp only; omega) | (simp; done) | (simp; omega), by omega, Nat.le_of_ble_eq_true rfl⟩ | exact Eq.refl true) ?_) | (with_reducible refine ld (hld2) ?_) | (refine Exists.intro _ (And.intro rfl ?_)) | (refine And.intro (And.intro rfl (chk_rowI _ _ _ _)) ?_) | (refine br_t (by omega) ?_) | (refine br_f (by omega) ?_) | (refine bs_t (by omega) ?_) | (refine bs_f (by omega) ?_) | (refine fun (K' : K3) hK' => ?_) | (refine hK' _ _ _ ?_; clear hK' K') | (refine draw_auto tok mixed (by kernel_rfl) ?_) | (refine br_bf heq ?_) | (refine bs_bt (Eq.refl true) ?_) | (refine bs_bf (Eq.refl false) ?_) | (refine br_bt (Eq.refl true) ?_) | (refine br_bf (Eq.refl false) ?_) | (refine CallK.m ?_) | (refine And.intro (And.intro rfl rfl) ?_))
                  refine ⟨j + 1, [], ⟨by omega, fun i hi => ?_⟩, by omega, ?_⟩
                  · by_cases hij : i = j
                    · rw [hij, ← hq]; exact hpq
                    · exact hjn i (by omega)
                  · skip
                    refine ⟨?_, ?_, rfl, rfl, by first | exact Nat.le_of_ble_eq_true rfl | exact Nat.le_refl _ | omega⟩
                    · repeat (first | exact trivial | refine And.intro (covS_syn (by first | rfl | (refine congrArg some (congrArg V.i ?_); omega)) rfl (by first | exact trivial | exact Nat.le_of_ble_eq_true rfl | exact hy | exact (fun p hp => nomatch hp) | (show (_ : Nat) < _; omega))) ?_ | refine And.intro (covS_bool rfl rfl (by first | rfl)) ?_)
                    · repeat (first | exact trivial | refine And.intro (covE_id (Nat.le_of_ble_eq_true rfl) (by first | exact wf_ints _ _ | exact wf_bools _ _ | first | exact wf_cells _ _ | simp [C.wf]) rfl (by first | rfl)) ?_)
              · have hje : j = k := by omega
                subst hje
                have hgo : isWayK W H l e (j + 1) = true := by rw [isWayK_succ, hok, fin (by rw [hsb, h4]; simp) hob, hall hjn]; rfl
                repeat ((conv => whnf); first | (refine And.intro (by first | omega | exact Nat.le_of_ble_eq_true rfl | (dsimp only [inK]; omega) | (simp only [mulS_eq]; omega) | (simp only [mulS_eq, setL_length]; omega) | (simp only [setL_length, List.length_map]; omega) | exact ⟨by omega, by omega, by first | exact Nat.le_of_ble_eq_true rfl | (dsimp only; omega) | (simp only [setL_length]; omega) | (simp only [setL_length, List.length_map]; omega)⟩ | exact ⟨by omega, by first | rfl | omega, by omega, Nat.le_of_ble_eq_true rfl, Nat.le_of_ble_eq_true rfl⟩ | exact ⟨rfl, rfl, rfl, Nat.le_of_ble_eq_true rfl, by first | rfl | omega | exact Nat.le_of_ble_eq_true rfl | (dsimp only; omega) | (simp; done) | (simp; omega), by first | rfl | omega | exact Nat.le_of_ble_eq_true rfl | (dsimp only; omega) | (simp; done) | (simp; omega), by omega, Nat.le_of_ble_eq_true rfl⟩ | exact Eq.refl true) ?_) | (refine Exists.intro _ (And.intro rfl ?_)) | (refine And.intro (And.intro rfl (chk_rowI _ _ _ _)) ?_) | (refine br_t (by omega) ?_) | (refine br_f (by omega) ?_) | (refine bs_t (by omega) ?_) | (refine bs_f (by omega) ?_) | (refine fun (K' : K3) hK' => ?_) | (refine hK' _ _ _ ?_; clear hK' K') | (refine draw_auto tok mixed (by kernel_rfl) ?_) | (refine bs_bt (Eq.refl true) ?_) | (refine bs_bf (Eq.refl false) ?_) | (refine br_bt (Eq.refl true) ?_) | (refine br_bf (Eq.refl false) ?_) | (refine CallK.m ?_) | (refine And.intro (And.intro rfl rfl) ?_))
                refine ⟨j + 1, [], ⟨by omega, hgo⟩, by omega, ?_⟩
                refine ⟨?_, ?_, rfl, rfl, by first | exact Nat.le_of_ble_eq_true rfl | exact Nat.le_refl _ | omega⟩
                · repeat (first | exact trivial | refine And.intro (covS_syn (by first | rfl | (refine congrArg some (congrArg V.i ?_); omega)) rfl (by first | exact trivial | exact Nat.le_of_ble_eq_true rfl | exact hy | exact (fun p hp => nomatch hp) | (show (_ : Nat) < _; omega))) ?_ | refine And.intro (covS_bool rfl rfl (by first | rfl)) ?_)
                · repeat (first | exact trivial | refine And.intro (covE_id (Nat.le_of_ble_eq_true rfl) (by first | exact wf_ints _ _ | exact wf_bools _ _ | first | exact wf_cells _ _ | simp [C.wf]) rfl (by first | rfl)) ?_)
          | false =>
            cases e with
            | false =>
              have hr := hno (by rw [hwk, hob, hsb, h4, hkz]; rfl)
              repeat ((conv => whnf); first | (refine And.intro (by first | omega | exact Nat.le_of_ble_eq_true rfl | (dsimp only [inK]; omega) | (simp only [mulS_eq]; omega) | (simp only [mulS_eq, setL_length]; omega) | (simp only [setL_length, List.length_map]; omega) | exact ⟨by omega, by omega, by first | exact Nat.le_of_ble_eq_true rfl | (dsimp only; omega) | (simp only [setL_length]; omega) | (simp only [setL_length, List.length_map]; omega)⟩ | exact ⟨by omega, by first | rfl | omega, by omega, Nat.le_of_ble_eq_true rfl, Nat.le_of_ble_eq_true rfl⟩ | exact ⟨rfl, rfl, rfl, Nat.le_of_ble_eq_true rfl, by first | rfl | omega | exact Nat.le_of_ble_eq_true rfl | (dsimp only; omega) | (simp; done) | (simp; omega), by first | rfl | omega | exact Nat.le_of_ble_eq_true rfl | (dsimp only; omega) | (simp; done) | (simp; omega), by omega, Nat.le_of_ble_eq_true rfl⟩ | exact Eq.refl true) ?_) | (with_reducible refine ld (hld) ?_) | (with_reducible refine ld (hldq) ?_) | (refine Exists.intro _ (And.intro rfl ?_)) | (refine And.intro (And.intro rfl (chk_rowI _ _ _ _)) ?_) | (refine br_t (by omega) ?_) | (refine br_f (by omega) ?_) | (refine bs_t (by omega) ?_) | (refine bs_f (by omega) ?_) | (refine fun (K' : K3) hK' => ?_) | (refine hK' _ _ _ ?_; clear hK' K') | (refine draw_auto tok mixed (by kernel_rfl) ?_) | (refine HD_mk (fun _ h => CallK.val (R := []) hon (by kernel_rfl) rfl (by simp [V.wf, A.wf, C.wf]) trivial rfl rfl trivial h) ?_) | (refine bs_bf (congrArg Bool.not hob) ?_) | (refine br_bf (congrArg Bool.not hob) ?_) | (refine bs_t hk0 ?_) | (refine br_t hk0 ?_) | (refine HD_mk (fun _ h => CallK.val (R := []) hfo (by kernel_rfl) rfl (by simp [V.wf, A.wf, C.wf]) trivial rfl rfl trivial h) ?_) | (refine bs_bt (congrArg Bool.not h4) ?_) | (refine br_bt (congrArg Bool.not h4) ?_) | (refine bs_bt (Eq.refl true) ?_) | (refine bs_bf (Eq.refl false) ?_) | (refine br_bt (Eq.refl true) ?_) | (refine br_bf (Eq.refl false) ?_) | (refine CallK.m ?_) | (refine And.intro (And.intro rfl rfl) ?_))
              intro ρ; rw [hr]; rfl
            | true =>
              cases h8 : eightB p.1 p.2 q0.1 q0.2 with
              | false =>
                have hr := hno (by rw [hwk, hob, hsb, h4, h8, hkz]; rfl)
                repeat ((conv => whnf); first | (refine And.intro (by first | omega | exact Nat.le_of_ble_eq_true rfl | (dsimp only [inK]; omega) | (simp only [mulS_eq]; omega) | (simp only [mulS_eq, setL_length]; omega) | (simp only [setL_length, List.length_map]; omega) | exact ⟨by omega, by omega, by first | exact Nat.le_of_ble_eq_true rfl | (dsimp only; omega) | (simp only [setL_length]; omega) | (simp only [setL_length, List.length_map]; omega)⟩ | exact ⟨by omega, by first | rfl | omega, by omega, Nat.le_of_ble_eq_true rfl, Nat.le_of_ble_eq_true rfl⟩ | exact ⟨rfl, rfl, rfl, Nat.le_of_ble_eq_true rfl, by first | rfl | omega | exact Nat.le_of_ble_eq_true rfl | (dsimp only; omega) | (simp; done) | (simp; omega), by first | rfl | omega | exact Nat.le_of_ble_eq_true rfl | (dsimp only; omega) | (simp; done) | (simp; omega), by omega, Nat.le_of_ble_eq_true rfl⟩ | exact Eq.refl true) ?_) | (with_reducible refine ld (hld) ?_) | (with_reducible refine ld (hldq) ?_) | (refine Exists.intro _ (And.intro rfl ?_)) | (refine And.intro (And.intro rfl (chk_rowI _ _ _ _)) ?_) | (refine br_t (by omega) ?_) | (refine br_f (by omega) ?_) | (refine bs_t (by omega) ?_) | (refine bs_f (by omega) ?_) | (refine fun (K' : K3) hK' => ?_) | (refine hK' _ _ _ ?_; clear hK' K') | (refine draw_auto tok mixed (by kernel_rfl) ?_) | (refine HD_mk (fun _ h => CallK.val (R := []) hon (by kernel_rfl) rfl (by simp [V.wf, A.wf, C.wf]) trivial rfl rfl trivial h) ?_) | (refine bs_bf (congrArg Bool.not hob) ?_) | (refine br_bf (congrArg Bool.not hob) ?_) | (refine bs_t hk0 ?_) | (refine br_t hk0 ?_) | (refine HD_mk (fun _ h => CallK.val (R := []) hfo (by kernel_rfl) rfl (by simp [V.wf, A.wf, C.wf]) trivial rfl rfl trivial h) ?_) | (refine bs_bt (congrArg Bool.not h4) ?_) | (refine br_bt (congrArg Bool.not h4) ?_) | (refine HD_mk (fun _ h => CallK.val (R := []) hei (by kernel_rfl) rfl (by simp [V.wf, A.wf, C.wf]) trivial rfl rfl trivial h) ?_) | (refine bs_bt (congrArg Bool.not h8) ?_) | (refine br_bt (congrArg Bool.not h8) ?_) | (refine bs_bt (Eq.refl true) ?_) | (refine bs_bf (Eq.refl false) ?_) | (refine br_bt (Eq.refl true) ?_) | (refine br_bf (Eq.refl false) ?_) | (refine CallK.m ?_) | (refine And.intro (And.intro rfl rfl) ?_))
                intro ρ; rw [hr]; rfl
              | true =>
                repeat ((conv => whnf); first | (refine And.intro (by first | omega | exact Nat.le_of_ble_eq_true rfl | (dsimp only [inK]; omega) | (simp only [mulS_eq]; omega) | (simp only [mulS_eq, setL_length]; omega) | (simp only [setL_length, List.length_map]; omega) | exact ⟨by omega, by omega, by first | exact Nat.le_of_ble_eq_true rfl | (dsimp only; omega) | (simp only [setL_length]; omega) | (simp only [setL_length, List.length_map]; omega)⟩ | exact ⟨by omega, by first | rfl | omega, by omega, Nat.le_of_ble_eq_true rfl, Nat.le_of_ble_eq_true rfl⟩ | exact ⟨rfl, rfl, rfl, Nat.le_of_ble_eq_true rfl, by first | rfl | omega | exact Nat.le_of_ble_eq_true rfl | (dsimp only; omega) | (simp; done) | (simp; omega), by first | rfl | omega | exact Nat.le_of_ble_eq_true rfl | (dsimp only; omega) | (simp; done) | (simp; omega), by omega, Nat.le_of_ble_eq_true rfl⟩ | exact Eq.refl true) ?_) | (with_reducible refine ld (hld) ?_) | (with_reducible refine ld (hldq) ?_) | (refine Exists.intro _ (And.intro rfl ?_)) | (refine And.intro (And.intro rfl (chk_rowI _ _ _ _)) ?_) | (refine br_t (by omega) ?_) | (refine br_f (by omega) ?_) | (refine bs_t (by omega) ?_) | (refine bs_f (by omega) ?_) | (refine fun (K' : K3) hK' => ?_) | (refine hK' _ _ _ ?_; clear hK' K') | (refine draw_auto tok mixed (by kernel_rfl) ?_) | (refine HD_mk (fun _ h => CallK.val (R := []) hon (by kernel_rfl) rfl (by simp [V.wf, A.wf, C.wf]) trivial rfl rfl trivial h) ?_) | (refine bs_bf (congrArg Bool.not hob) ?_) | (refine br_bf (congrArg Bool.not hob) ?_) | (refine bs_t hk0 ?_) | (refine br_t hk0 ?_) | (refine HD_mk (fun _ h => CallK.val (R := []) hfo (by kernel_rfl) rfl (by simp [V.wf, A.wf, C.wf]) trivial rfl rfl trivial h) ?_) | (refine bs_bt (congrArg Bool.not h4) ?_) | (refine br_bt (congrArg Bool.not h4) ?_) | (refine HD_mk (fun _ h => CallK.val (R := []) hei (by kernel_rfl) rfl (by simp [V.wf, A.wf, C.wf]) trivial rfl rfl trivial h) ?_) | (refine bs_bf (congrArg Bool.not h8) ?_) | (refine br_bf (congrArg Bool.not h8) ?_) | (refine bs_bt (Eq.refl true) ?_) | (refine bs_bf (Eq.refl false) ?_) | (refine br_bt (Eq.refl true) ?_) | (refine br_bf (Eq.refl false) ?_) | (refine CallK.m ?_) | (refine And.intro (And.intro rfl rfl) ?_))
                refine Tri.loop (γ := Nat) (fun j => j ≤ k ∧ ∀ i, i < j → ¬ p = l.getD i cz) (fun j => [(1, V.c (.sl 1 l.length)), (2, V.c (.bool true)), (3, V.c (.ptr 2 0)), (8, V.c (.ptr 3 0)), (11, V.c (.sl 1 l.length)), (12, V.i l.length), (13, V.i (k : Nat)), (51, V.c (.sl 1 k)), (52, V.i k), (53, V.i (j : Nat))])
                  (fun j => [⟨3, .own 57, [C.i p.1, C.i p.2]⟩, ⟨2, .own 24, [C.i W, C.i H, .sl 0 n]⟩, ⟨1, .ro 2, cellC l⟩]) 4 (fun j => k - j) 0 (R0 := []) ?_ ?_ ?_
                · exact ⟨by omega, by omega⟩
                · skip
                  refine ⟨?_, ?_, rfl, rfl, by first | exact Nat.le_of_ble_eq_true rfl | exact Nat.le_refl _ | omega⟩
                  · repeat (first | exact trivial | refine And.intro (covS_syn (by first | rfl) rfl (by first | exact trivial | exact Nat.le_of_ble_eq_true rfl | exact hy | exact (fun p hp => nomatch hp) | (show (_ : Nat) < _; omega))) ?_ | refine And.intro (covS_bool rfl rfl (by first | rfl)) ?_)
                  · repeat (first | exact trivial | refine And.intro (covE_id (Nat.le_of_ble_eq_true rfl) (by first | exact wf_ints _ _ | exact wf_bools _ _ | first | exact wf_cells _ _ | simp [C.wf]) rfl (by first | rfl)) ?_)
                · rintro j ⟨hj, hjn⟩
                  refine vc_ok tok ?_
                  by_cases hjk : j < k
                  · have hld2 := cellT (l := l) (k := j) rfl (by omega)
                    have hnj := hneq j hjk
                    obtain ⟨q, hq⟩ : ∃ q, q = l.getD j cz := ⟨_, rfl⟩
                    rw [← hq] at hld2 hnj
                    cases heq : (decide (p.1 = q.1) && (decide (p.2 = q.2) && true)) with
                    | true =>
                      have hpq : p = q := by simp at heq; exact Prod.ext heq.1 heq.2
                      have hr := hno (by rw [fin (by rw [hsb, h4, h8]; simp) hob, hnj hpq]; rfl)
                      repeat ((conv => whnf); first | (refine And.intro (by first | omega | exact Nat.le_of_ble_eq_true rfl | (dsimp only [inK]; omega) | (simp only [mulS_eq]; omega) | (simp only [mulS_eq, setL_length]; omega) | (simp only [setL_length, List.length_map]; omega) | exact ⟨by omega, by omega, by first | exact Nat.le_of_ble_eq_true rfl | (dsimp only; omega) | (simp only [setL_length]; omega) | (simp only [setL_length, List.length_map]; omega)⟩ | exact ⟨by omega, by first | rfl | omega, by omega, Nat.le_of_ble_eq_true rfl, Nat.le_of_ble_eq_true rfl⟩ | exact ⟨rfl, rfl, rfl, Nat.le_of_ble_eq_true rfl, by first | rfl | omega | exact Nat.le_of_ble_eq_true rfl | (dsimp only; omega) | (simp; done) | (simp; omega), by first | rfl | omega | exact Nat.le_of_ble_eq_true rfl | (dsimp only; omega) | (simp; done) | (simp; omega), by omega, Nat.le_of_ble_eq_true rfl⟩ | exact Eq.refl true) ?_) | (with_reducible refine ld (hld2) ?_) | (refine Exists.intro _ (And.intro rfl ?_)) | (refine And.intro (And.intro rfl (chk_rowI _ _ _ _)) ?_) | (refine br_t (by omega) ?_) | (refine br_f (by omega) ?_) | (refine bs_t (by omega) ?_) | (refine bs_f (by omega) ?_) | (refine fun (K' : K3) hK' => ?_) | (refine hK' _ _ _ ?_; clear hK' K') | (refine draw_auto tok mixed (by kernel_rfl) ?_) | (refine br_bt heq ?_) | (refine bs_bt (Eq.refl true) ?_) | (refine bs_bf (Eq.refl false) ?_) | (refine br_bt (Eq.refl true) ?_) | (refine br_bf (Eq.refl false) ?_) | (refine CallK.m ?_) | (refine And.intro (And.intro rfl rfl) ?_))
                      intro ρ; rw [hr]; rfl
                    | false =>
                      have hpq : ¬ p = q := fun e => by rw [e] at heq; simp at heq
                      repeat ((conv => whnf); first | (refine And.intro (by first | omega | exact Nat.le_of_ble_eq_true rfl | (dsimp only [inK]; omega) | (simp only [mulS_eq]; omega) | (simp only [mulS_eq, setL_length]; omega) | (simp only [setL_length, List.length_map]; omega) | exact ⟨by omega, by omega, by first | exact Nat.le_of_ble_eq_true rfl | (dsimp only; omega) | (simp only [setL_length]; omega) | (simp only [setL_length, List.length_map]; omega)⟩ | exact ⟨by omega, by first | rfl | omega, by omega, Nat.le_of_ble_eq_true rfl, Nat.le_of_ble_eq_true rfl⟩ | exact ⟨rfl, rfl, rfl, Nat.le_of_ble_eq_true rfl, by first | rfl | omega | exact Nat.le_of_ble_eq_true rfl | (dsimp only; omega) | (simp; done) | (simp; omega), by first | rfl | omega | exact Nat.le_of_ble_eq_true rfl | (dsimp only; omega) | (simp; done) | (simp; omega), by omega, Nat.le_of_ble_eq_true rfl⟩ | exact Eq.refl true) ?_) | (with_reducible refine ld (hld2) ?_) | (refine Exists.intro _ (And.intro rfl ?_)) | (refine And.intro (And.intro rfl (chk_rowI _ _ _ _)) ?_) | (refine br_t (by omega) ?_) | (refine br_f (by omega) ?_) | (refine bs_t (by omega) ?_) | (refine bs_f (by omega) ?_) | (refine fun (K' : K3) hK' => ?_) | (refine hK' _ _ _ ?_; clear hK' K') | (refine draw_auto tok mixed (by kernel_rfl) ?_) | (refine br_bf heq ?_) | (refine bs_bt (Eq.refl true) ?_) | (refine bs_bf (Eq.refl false) ?_) | (refine br_bt (Eq.refl true) ?_) | (refine br_bf (Eq.refl false) ?_) | (refine CallK.m ?_) | (refine And.intro (And.intro rfl rfl) ?_))
                      refine ⟨j + 1, [], ⟨by omega, fun i hi => ?_⟩, by omega, ?_⟩
                      · by_cases hij : i = j
                        · rw [hij, ← hq]; exact hpq
                        · exact hjn i (by omega)
                      · skip
                        refine ⟨?_, ?_, rfl, rfl, by first | exact Nat.le_of_ble_eq_true rfl | exact Nat.le_refl _ | omega⟩
                        · repeat (first | exact trivial | refine And.intro (covS_syn (by first | rfl | (refine congrArg some (congrArg V.i ?_); omega)) rfl (by first | exact trivial | exact Nat.le_of_ble_eq_true rfl | exact hy | exact (fun p hp => nomatch hp) | (show (_ : Nat) < _; omega))) ?_ | refine And.intro (covS_bool rfl rfl (by first | rfl)) ?_)
                        · repeat (first | exact trivial | refine And.intro (covE_id (Nat.le_of_ble_eq_true rfl) (by first | exact wf_ints _ _ | exact wf_bools _ _ | first | exact wf_cells _ _ | simp [C.wf]) rfl (by first | rfl)) ?_)
                  · have hje : j = k := by omega
                    subst hje
                    have hgo : isWayK W H l true (j + 1) = true := by rw [isWayK_succ, hok, fin (by rw [hsb, h4, h8]; simp) hob, hall hjn]; rfl
                    repeat ((conv => whnf); first | (refine And.intro (by first | omega | exact Nat.le_of_ble_eq_true rfl | (dsimp only [inK]; omega) | (simp only [mulS_eq]; omega) | (simp only [mulS_eq, setL_length]; omega) | (simp only [setL_length, List.length_map]; omega) | exact ⟨by omega, by omega, by first | exact Nat.le_of_ble_eq_true rfl | (dsimp only; omega) | (simp only [setL_length]; omega) | (simp only [setL_length, List.length_map]; omega)⟩ | exact ⟨by omega, by first | rfl | omega, by omega, Nat.le_of_ble_eq_true rfl, Nat.le_of_ble_eq_true rfl⟩ | exact ⟨rfl, rfl, rfl, Nat.le_of_ble_eq_true rfl, by first | rfl | omega | exact Nat.le_of_ble_eq_true rfl | (dsimp only; omega) | (simp; done) | (simp; omega), by first | rfl | omega | exact Nat.le_of_ble_eq_true rfl | (dsimp only; omega) | (simp; done) | (simp; omega), by omega, Nat.le_of_ble_eq_true rfl⟩ | exact Eq.refl true) ?_) | (refine Exists.intro _ (And.intro rfl ?_)) | (refine And.intro (And.intro rfl (chk_rowI _ _ _ _)) ?_) | (refine br_t (by omega) ?_) | (refine br_f (by omega) ?_) | (refine bs_t (by omega) ?_) | (refine bs_f (by omega) ?_) | (refine fun (K' : K3) hK' => ?_) | (refine hK' _ _ _ ?_; clear hK' K') | (refine draw_auto tok mixed (by kernel_rfl) ?_) | (refine bs_bt (Eq.refl true) ?_) | (refine bs_bf (Eq.refl false) ?_) | (refine br_bt (Eq.refl true) ?_) | (refine br_bf (Eq.refl false) ?_) | (refine CallK.m ?_) | (refine And.intro (And.intro rfl rfl) ?_))
                    refine ⟨j + 1, [], ⟨by omega, hgo⟩, by omega, ?_⟩
                    refine ⟨?_, ?_, rfl, rfl, by first | exact Nat.le_of_ble_eq_true rfl | exact Nat.le_refl _ | omega⟩
                    · repeat (first | exact trivial | refine And.intro (covS_syn (by first | rfl | (refine congrArg some (congrArg V.i ?_); omega)) rfl (by first | exact trivial | exact Nat.le_of_ble_eq_true rfl | exact hy | exact (fun p hp => nomatch hp) | (show (_ : Nat) < _; omega))) ?_ | refine And.intro (covS_bool rfl rfl (by first | rfl)) ?_)
                    · repeat (first | exact trivial | refine And.intro (covE_id (Nat.le_of_ble_eq_true rfl) (by first | exact wf_ints _ _ | exact wf_bools _ _ | first | exact wf_cells _ _ | simp [C.wf]) rfl (by first | rfl)) ?_)
        · have hk0' : k = 0 := by omega
          repeat ((conv => whnf); first | (refine And.intro (by first | omega | exact Nat.le_of_ble_eq_true rfl | (dsimp only [inK]; omega) | (simp only [mulS_eq]; omega) | (simp only [mulS_eq, setL_length]; omega) | (simp only [setL_length, List.length_map]; omega) | exact ⟨by omega, by omega, by first | exact Nat.le_of_ble_eq_true rfl | (dsimp only; omega) | (simp only [setL_length]; omega) | (simp only [setL_length, List.length_map]; omega)⟩ | exact ⟨by omega, by first | rfl | omega, by omega, Nat.le_of_ble_eq_true rfl, Nat.le_of_ble_eq_true rfl⟩ | exact ⟨rfl, rfl, rfl, Nat.le_of_ble_eq_true rfl, by first | rfl | omega | exact Nat.le_of_ble_eq_true rfl | (dsimp only; omega) | (simp; done) | (simp; omega), by first | rfl | omega | exact Nat.le_of_ble_eq_true rfl | (dsimp only; omega) | (simp; done) | (simp; omega), by omega, Nat.le_of_ble_eq_true rfl⟩ | exact Eq.refl true) ?_) | (with_reducible refine ld (hld) ?_) | (refine Exists.intro _ (And.intro rfl ?_)) | (refine And.intro (And.intro rfl (chk_rowI _ _ _ _)) ?_) | (refine br_t (by omega) ?_) | (refine br_f (by omega) ?_) | (refine bs_t (by omega) ?_) | (refine bs_f (by omega) ?_) | (refine fun (K' : K3) hK' => ?_) | (refine hK' _ _ _ ?_; clear hK' K') | (refine draw_auto tok mixed (by kernel_rfl) ?_) | (refine HD_mk (fun _ h => CallK.val (R := []) hon (by kernel_rfl) rfl (by simp [V.wf, A.wf, C.wf]) trivial rfl rfl trivial h) ?_) | (refine bs_bf (congrArg Bool.not hob) ?_) | (refine br_bf (congrArg Bool.not hob) ?_) | (refine bs_f hk0 ?_) | (refine br_f hk0 ?_) | (refine bs_bt (Eq.refl true) ?_) | (refine bs_bf (Eq.refl false) ?_) | (refine br_bt (Eq.refl true) ?_) | (refine br_bf (Eq.refl false) ?_) | (refine CallK.m ?_) | (refine And.intro (And.intro rfl rfl) ?_))
          have hfk : (decide (k = 0) || stepB W H e p (l.getD (k - 1) cz)) = true := by rw [dd_t hk0']; rfl
          clear hk0 hk0'
          refine Tri.loop (γ := Nat) (fun j => j ≤ k ∧ ∀ i, i < j → ¬ p = l.getD i cz) (fun j => [(1, V.c (.sl 1 l.length)), (2, V.c (.bool e)), (3, V.c (.ptr 2 0)), (8, V.c (.ptr 3 0)), (11, V.c (.sl 1 l.length)), (12, V.i l.length), (13, V.i (k : Nat)), (51, V.c (.sl 1 k)), (52, V.i k), (53, V.i (j : Nat))])
            (fun j => [⟨3, .own 57, [C.i p.1, C.i p.2]⟩, ⟨2, .own 24, [C.i W, C.i H, .sl 0 n]⟩, ⟨1, .ro 2, cellC l⟩]) 4 (fun j => k - j) 0 (R0 := []) ?_ ?_ ?_
          · exact ⟨by omega, by omega⟩
          · skip
            refine ⟨?_, ?_, rfl, rfl, by first | exact Nat.le_of_ble_eq_true rfl | exact Nat.le_refl _ | omega⟩
            · repeat (first | exact trivial | refine And.intro (covS_syn (by first | rfl) rfl (by first | exact trivial | exact Nat.le_of_ble_eq_true rfl | exact hy | exact (fun p hp => nomatch hp) | (show (_ : Nat) < _; omega))) ?_ | refine And.intro (covS_bool rfl rfl (by first | rfl)) ?_)
            · repeat (first | exact trivial | refine And.intro (covE_id (Nat.le_of_ble_eq_true rfl) (by first | exact wf_ints _ _ | exact wf_bools _ _ | first | exact wf_cells _ _ | simp [C.wf]) rfl (by first | rfl)) ?_)
          · rintro j ⟨hj, hjn⟩
            refine vc_ok tok ?_
            by_cases hjk : j < k
            · have hld2 := cellT (l := l) (k := j) rfl (by omega)
              have hnj := hneq j hjk
              obtain ⟨q, hq⟩ : ∃ q, q = l.getD j cz := ⟨_, rfl⟩
              rw [← hq] at hld2 hnj
              cases heq : (decide (p.1 = q.1) && (decide (p.2 = q.2) && true)) with
              | true =>
                have hpq : p = q := by simp at heq; exact Prod.ext heq.1 heq.2
                have hr := hno (by rw [fin (hfk) hob, hnj hpq]; rfl)
                repeat ((conv => whnf); first | (refine And.intro (by first | omega | exact Nat.le_of_ble_eq_true rfl | (dsimp only [inK]; omega) | (simp only [mulS_eq]; omega) | (simp only [mulS_eq, setL_length]; omega) | (simp only [setL_length, List.length_map]; omega) | exact ⟨by omega, by omega, by first | exact Nat.le_of_ble_eq_true rfl | (dsimp only; omega) | (simp only [setL_length]; omega) | (simp only [setL_length, List.length_map]; omega)⟩ | exact ⟨by omega, by first | rfl | omega, by omega, Nat.le_of_ble_eq_true rfl, Nat.le_of_ble_eq_true rfl⟩ | exact ⟨rfl, rfl, rfl, Nat.le_of_ble_eq_true rfl, by first | rfl | omega | exact Nat.le_of_ble_eq_true rfl | (dsimp only; omega) | (simp; done) | (simp; omega), by first | rfl | omega | exact Nat.le_of_ble_eq_true rfl | (dsimp only; omega) | (simp; done) | (simp; omega), by omega, Nat.le_of_ble_eq_true rfl⟩ | exact Eq.refl true) ?_) | (with_reducible refine ld (hld2) ?_) | (refine Exists.intro _ (And.intro rfl ?_)) | (refine And.intro (And.intro rfl (chk_rowI _ _ _ _)) ?_) | (refine br_t (by omega) ?_) | (refine br_f (by omega) ?_) | (refine bs_t (by omega) ?_) | (refine bs_f (by omega) ?_) | (refine fun (K' : K3) hK' => ?_) | (refine hK' _ _ _ ?_; clear hK' K') | (refine draw_auto tok mixed (by kernel_rfl) ?_) | (refine br_bt heq ?_) | (refine bs_bt (Eq.refl true) ?_) | (refine bs_bf (Eq.refl false) ?_) | (refine br_bt (Eq.refl true) ?_) | (refine br_bf (Eq.refl false) ?_) | (refine CallK.m ?_) | (refine And.intro (And.intro rfl rfl) ?_))
                intro ρ; rw [hr]; rfl
              | false =>
                have hpq : ¬ p = q := fun e => by rw [e] at heq; simp at heq
                repeat ((conv => whnf); first | (refine And.intro (by first | omega | exact Nat.le_of_ble_eq_true rfl | (dsimp only [inK]; omega) | (simp only [mulS_eq]; omega) | (simp only [mulS_eq, setL_length]; omega) | (simp only [setL_length, List.length_map]; omega) | exact ⟨by omega, by omega, by first | exact Nat.le_of_ble_eq_true rfl | (dsimp only; omega) | (simp only [setL_length]; omega) | (simp only [setL_length, List.length_map]; omega)⟩ | exact ⟨by omega, by first | rfl | omega, by omega, Nat.le_of_ble_eq_true rfl, Nat.le_of_ble_eq_true rfl⟩ | exact ⟨rfl, rfl, rfl, Nat.le_of_ble_eq_true rfl, by first | rfl | omega | exact Nat.le_of_ble_eq_true rfl | (dsimp only; omega) | (simp; done) | (simp; omega), by first | rfl | omega | exact Nat.le_of_ble_eq_true rfl | (dsimp only; omega) | (simp; done) | (simp; omega), by omega, Nat.le_of_ble_eq_true rfl⟩ | exact Eq.refl true) ?_) | (with_reducible refine ld (hld2) ?_) | (refine Exists.intro _ (And.intro rfl ?_)) | (refine And.intro (And.intro rfl (chk_rowI _ _ _ _)) ?_) | (refine br_t (by omega) ?_) | (refine br_f (by omega) ?_) | (refine bs_t (by omega) ?_) | (refine bs_f (by omega) ?_) | (refine fun (K' : K3) hK' => ?_) | (refine hK' _ _ _ ?_; clear hK' K') | (refine draw_auto tok mixed (by kernel_rfl) ?_) | (refine br_bf heq ?_) | (refine bs_bt (Eq.refl true) ?_) | (refine bs_bf (Eq.refl false) ?_) | (refine br_bt (Eq.refl true) ?_) | (refine br_bf (Eq.refl false) ?_) | (refine CallK.m ?_) | (refine And.intro (And.intro rfl rfl) ?_))
                refine ⟨j + 1, [], ⟨by omega, fun i hi => ?_⟩, by omega, ?_⟩
                · by_cases hij : i = j
                  · rw [hij, ← hq]; exact hpq
                  · exact hjn i (by omega)
                · skip
                  refine ⟨?_, ?_, rfl, rfl, by first | exact Nat.le_of_ble_eq_true rfl | exact Nat.le_refl _ | omega⟩
                  · repeat (first | exact trivial | refine And.intro (covS_syn (by first | rfl | (refine congrArg some (congrArg V.i ?_); omega)) rfl (by first | exact trivial | exact Nat.le_of_ble_eq_true rfl | exact hy | exact (fun p hp => nomatch hp) | (show (_ : Nat) < _; omega))) ?_ | refine And.intro (covS_bool rfl rfl (by first | rfl)) ?_)
                  · repeat (first | exact trivial | refine And.intro (covE_id (Nat.le_of_ble_eq_true rfl) (by first | exact wf_ints _ _ | exact wf_bools _ _ | first | exact wf_cells _ _ | simp [C.wf]) rfl (by first | rfl)) ?_)
            · have hje : j = k := by omega
              subst hje
              have hgo : isWayK W H l e (j + 1) = true := by rw [isWayK_succ, hok, fin (hfk) hob, hall hjn]; rfl
              repeat ((conv => whnf); first | (refine And.intro (by first | omega | exact Nat.le_of_ble_eq_true rfl | (dsimp only [inK]; omega) | (simp only [mulS_eq]; omega) | (simp only [mulS_eq, setL_length]; omega) | (simp only [setL_length, List.length_map]; omega) | exact ⟨by omega, by omega, by first | exact Nat.le_of_ble_eq_true rfl | (dsimp only; omega) | (simp only [setL_length]; omega) | (simp only [setL_length, List.length_map]; omega)⟩ | exact ⟨by omega, by first | rfl | omega, by omega, Nat.le_of_ble_eq_true rfl, Nat.le_of_ble_eq_true rfl⟩ | exact ⟨rfl, rfl, rfl, Nat.le_of_ble_eq_true rfl, by first | rfl | omega | exact Nat.le_of_ble_eq_true rfl | (dsimp only; omega) | (simp; done) | (simp; omega), by first | rfl | omega | exact Nat.le_of_ble_eq_true rfl | (dsimp only; omega) | (simp; done) | (simp; omega), by omega, Nat.le_of_ble_eq_true rfl⟩ | exact Eq.refl true) ?_) | (refine Exists.intro _ (And.intro rfl ?_)) | (refine And.intro (And.intro rfl (chk_rowI _ _ _ _)) ?_) | (refine br_t (by omega) ?_) | (refine br_f (by omega) ?_) | (refine bs_t (by omega) ?_) | (refine bs_f (by omega) ?_) | (refine fun (K' : K3) hK' => ?_) | (refine hK' _ _ _ ?_; clear hK' K') | (refine draw_auto tok mixed (by kernel_rfl) ?_) | (refine bs_bt (Eq.refl true) ?_) | (refine bs_bf (Eq.refl false) ?_) | (refine br_bt (Eq.refl true) ?_) | (refine br_bf (Eq.refl false) ?_) | (refine CallK.m ?_) | (refine And.intro (And.intro rfl rfl) ?_))
              refine ⟨j + 1, [], ⟨by omega, hgo⟩, by omega, ?_⟩
              refine ⟨?_, ?_, rfl, rfl, by first | exact Nat.le_of_ble_eq_true rfl | exact Nat.le_refl _ | omega⟩
              · repeat (first | exact trivial | refine And.intro (covS_syn (by first | rfl | (refine congrArg some (congrArg V.i ?_); omega)) rfl (by first | exact trivial | exact Nat.le_of_ble_eq_true rfl | exact hy | exact (fun p hp => nomatch hp) | (show (_ : Nat) < _; omega))) ?_ | refine And.intro (covS_bool rfl rfl (by first | rfl)) ?_)
              · repeat (first | exact trivial | refine And.intro (covE_id (Nat.le_of_ble_eq_true rfl) (by first | exact wf_ints _ _ | exact wf_bools _ _ | first | exact wf_cells _ _ | simp [C.wf]) rfl (by first | rfl)) ?_)
    · have hkl : k = l.length := by omega
      subst hkl
      have hr : isWayB W H l e = (decide ((l.length : Int) ≥ 1) && decide ((l.length : Int) ≤ 100)) := by unfold isWayB; rw [hok]; rfl
      by_cases g1 : (l.length : Int) ≥ 1
      · repeat ((conv => whnf); first | (refine And.intro (by first | omega | exact Nat.le_of_ble_eq_true rfl | (dsimp only [inK]; omega) | (simp only [mulS_eq]; omega) | (simp only [mulS_eq, setL_length]; omega) | (simp only [setL_length, List.length_map]; omega) | exact ⟨by omega, by omega, by first | exact Nat.le_of_ble_eq_true rfl | (dsimp only; omega) | (simp only [setL_length]; omega) | (simp only [setL_length, List.length_map]; omega)⟩ | exact ⟨by omega, by first | rfl | omega, by omega, Nat.le_of_ble_eq_true rfl, Nat.le_of_ble_eq_true rfl⟩ | exact ⟨rfl, rfl, rfl, Nat.le_of_ble_eq_true rfl, by first | rfl | omega | exact Nat.le_of_ble_eq_true rfl | (dsimp only; omega) | (simp; done) | (simp; omega), by first | rfl | omega | exact Nat.le_of_ble_eq_true rfl | (dsimp only; omega) | (simp; done) | (simp; omega), by omega, Nat.le_of_ble_eq_true rfl⟩ | exact Eq.refl true) ?_) | (refine Exists.intro _ (And.intro rfl ?_)) | (refine And.intro (And.intro rfl (chk_rowI _ _ _ _)) ?_) | (refine br_t (by omega) ?_) | (refine br_f (by omega) ?_) | (refine bs_t (by omega) ?_) | (refine bs_f (by omega) ?_) | (refine fun (K' : K3) hK' => ?_) | (refine hK' _ _ _ ?_; clear hK' K') | (refine draw_auto tok mixed (by kernel_rfl) ?_) | (refine br_t g1 ?_) | (refine bs_t g1 ?_) | (refine bs_bt (Eq.refl true) ?_) | (refine bs_bf (Eq.refl false) ?_) | (refine br_bt (Eq.refl true) ?_) | (refine br_bf (Eq.refl false) ?_) | (refine CallK.m ?_) | (refine And.intro (And.intro rfl rfl) ?_))
        intro ρ; rw [hr, dd_t g1]; rfl
      · repeat ((conv => whnf); first | (refine And.intro (by first | omega | exact Nat.le_of_ble_eq_true rfl | (dsimp only [inK]; omega) | (simp only [mulS_eq]; omega) | (simp only [mulS_eq, setL_length]; omega) | (simp only [setL_length, List.length_map]; omega) | exact ⟨by omega, by omega, by first | exact Nat.le_of_ble_eq_true rfl | (dsimp only; omega) | (simp only [setL_length]; omega) | (simp only [setL_length, List.length_map]; omega)⟩ | exact ⟨by omega, by first | rfl | omega, by omega, Nat.le_of_ble_eq_true rfl, Nat.le_of_ble_eq_true rfl⟩ | exact ⟨rfl, rfl, rfl, Nat.le_of_ble_eq_true rfl, by first | rfl | omega | exact Nat.le_of_ble_eq_true rfl | (dsimp only; omega) | (simp; done) | (simp; omega), by first | rfl | omega | exact Nat.le_of_ble_eq_true rfl | (dsimp only; omega) | (simp; done) | (simp; omega), by omega, Nat.le_of_ble_eq_true rfl⟩ | exact Eq.refl true) ?_) | (refine Exists.intro _ (And.intro rfl ?_)) | (refine And.intro (And.intro rfl (chk_rowI _ _ _ _)) ?_) | (refine br_t (by omega) ?_) | (refine br_f (by omega) ?_) | (refine bs_t (by omega) ?_) | (refine bs_f (by omega) ?_) | (refine fun (K' : K3) hK' => ?_) | (refine hK' _ _ _ ?_; clear hK' K') | (refine draw_auto tok mixed (by kernel_rfl) ?_) | (refine br_f g1 ?_) | (refine bs_f g1 ?_) | (refine bs_bt (Eq.refl true) ?_) | (refine bs_bf (Eq.refl false) ?_) | (refine br_bt (Eq.refl true) ?_) | (refine br_bf (Eq.refl false) ?_) | (refine CallK.m ?_) | (refine And.intro (And.intro rfl rfl) ?_))
        intro ρ; rw [hr, dd_f g1]; rfl
end Go.Proofs.Ytbhpnhcdjmcaoaa

