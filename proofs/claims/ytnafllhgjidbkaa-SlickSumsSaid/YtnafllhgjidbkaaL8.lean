/- The law of sums. -/
import Derived.Test.YtnafllhgjidbkaaLK
namespace Go.Proofs.Ytnafllhgjidbkaa
open Go.RowKit
set_option linter.unusedVariables false
set_option linter.unusedSimpArgs false
set_option maxRecDepth 100000 in
theorem sums_spec (B : Bay) (s t : Slk) (b0 : 0 ≤ B.Land.length) :
    Spec Try.prog 8 [V.agg [C.i B.W, C.i B.H, C.sl 0 B.Land.length, C.sl 1 B.Share.length], V.agg [C.i s.K, C.sl 2 s.Oil.length, C.i s.Away], V.agg [C.i t.K, C.sl 3 t.Oil.length, C.i t.Away]]
      [⟨0, .ro 0, B.Land.map C.bool⟩, ⟨1, .ro 0, shareC B.Share⟩, ⟨2, .ro 0, s.Oil.map C.i⟩, ⟨3, .ro 0, t.Oil.map C.i⟩] 4 (Is (V.c (.bool true))) := by
  by_cases hL : 100 < B.Land.length ∨ 100 < B.Share.length
  · have hL' : decide (100 < B.Land.length ∨ 100 < B.Share.length) = true := decide_eq_true hL
    refine Spec.of tok Try.func8 rfl rfl rfl fun n0 => vc_ok tok ?_
    repeat ((conv => whnf); first
        | (refine And.intro (by first | omega | exact Nat.le_of_ble_eq_true rfl | (dsimp only [inK]; omega) | (simp only [mulS_eq]; omega) | (simp only [mulS_eq, setL_length]; omega) | (simp only [setL_length, List.length_map]; omega) | exact ⟨by omega, by omega, by first | exact Nat.le_of_ble_eq_true rfl | (dsimp only; omega) | (simp only [setL_length]; omega) | (simp only [setL_length, List.length_map]; omega)⟩ | exact ⟨by omega, by first | rfl | omega, by omega, Nat.le_of_ble_eq_true rfl, Nat.le_of_ble_eq_true rfl⟩ | exact ⟨rfl, rfl, rfl, Nat.le_of_ble_eq_true rfl, by first | rfl | omega | exact Nat.le_of_ble_eq_true rfl | (simp; done) | (simp; omega), by first | rfl | omega | exact Nat.le_of_ble_eq_true rfl | (simp; done) | (simp; omega), by omega, Nat.le_of_ble_eq_true rfl⟩ | exact Eq.refl true) ?_)
        | (refine Exists.intro _ (And.intro rfl ?_))
        | (refine br_t (by omega) ?_)
        | (refine br_f (by omega) ?_)
        | (refine bs_t (by omega) ?_)
        | (refine bs_f (by omega) ?_)
        | (refine fun (K' : K3) hK' => ?_)
        | (refine hK' _ _ _ ?_; clear hK' K')
        | (refine draw_auto tok mixed (by kernel_rfl) ?_)
        | (refine Long_k B ?_)
        | (refine Sane_k ?_)
        | (refine bs_bt hL' ?_)
        | (refine br_bt hL' ?_)
        | (refine And.intro (And.intro rfl rfl) ?_))
    intro ρ; rfl
  have hL' : decide (100 < B.Land.length ∨ 100 < B.Share.length) = false := decide_eq_false hL
  by_cases hs : 100 < s.Oil.length
  · have hs' : decide (100 < s.Oil.length) = true := decide_eq_true hs
    refine Spec.of tok Try.func8 rfl rfl rfl fun n0 => vc_ok tok ?_
    repeat ((conv => whnf); first
        | (refine And.intro (by first | omega | exact Nat.le_of_ble_eq_true rfl | (dsimp only [inK]; omega) | (simp only [mulS_eq]; omega) | (simp only [mulS_eq, setL_length]; omega) | (simp only [setL_length, List.length_map]; omega) | exact ⟨by omega, by omega, by first | exact Nat.le_of_ble_eq_true rfl | (dsimp only; omega) | (simp only [setL_length]; omega) | (simp only [setL_length, List.length_map]; omega)⟩ | exact ⟨by omega, by first | rfl | omega, by omega, Nat.le_of_ble_eq_true rfl, Nat.le_of_ble_eq_true rfl⟩ | exact ⟨rfl, rfl, rfl, Nat.le_of_ble_eq_true rfl, by first | rfl | omega | exact Nat.le_of_ble_eq_true rfl | (simp; done) | (simp; omega), by first | rfl | omega | exact Nat.le_of_ble_eq_true rfl | (simp; done) | (simp; omega), by omega, Nat.le_of_ble_eq_true rfl⟩ | exact Eq.refl true) ?_)
        | (refine Exists.intro _ (And.intro rfl ?_))
        | (refine br_t (by omega) ?_)
        | (refine br_f (by omega) ?_)
        | (refine bs_t (by omega) ?_)
        | (refine bs_f (by omega) ?_)
        | (refine fun (K' : K3) hK' => ?_)
        | (refine hK' _ _ _ ?_; clear hK' K')
        | (refine draw_auto tok mixed (by kernel_rfl) ?_)
        | (refine Long_k B ?_)
        | (refine long_k s ?_)
        | (refine Sane_k ?_)
        | (refine bs_bf hL' ?_)
        | (refine br_bf hL' ?_)
        | (refine bs_bt hs' ?_)
        | (refine br_bt hs' ?_)
        | (refine And.intro (And.intro rfl rfl) ?_))
    intro ρ; rfl
  have hs' : decide (100 < s.Oil.length) = false := decide_eq_false hs
  by_cases ht : 100 < t.Oil.length
  · have ht' : decide (100 < t.Oil.length) = true := decide_eq_true ht
    refine Spec.of tok Try.func8 rfl rfl rfl fun n0 => vc_ok tok ?_
    repeat ((conv => whnf); first
        | (refine And.intro (by first | omega | exact Nat.le_of_ble_eq_true rfl | (dsimp only [inK]; omega) | (simp only [mulS_eq]; omega) | (simp only [mulS_eq, setL_length]; omega) | (simp only [setL_length, List.length_map]; omega) | exact ⟨by omega, by omega, by first | exact Nat.le_of_ble_eq_true rfl | (dsimp only; omega) | (simp only [setL_length]; omega) | (simp only [setL_length, List.length_map]; omega)⟩ | exact ⟨by omega, by first | rfl | omega, by omega, Nat.le_of_ble_eq_true rfl, Nat.le_of_ble_eq_true rfl⟩ | exact ⟨rfl, rfl, rfl, Nat.le_of_ble_eq_true rfl, by first | rfl | omega | exact Nat.le_of_ble_eq_true rfl | (simp; done) | (simp; omega), by first | rfl | omega | exact Nat.le_of_ble_eq_true rfl | (simp; done) | (simp; omega), by omega, Nat.le_of_ble_eq_true rfl⟩ | exact Eq.refl true) ?_)
        | (refine Exists.intro _ (And.intro rfl ?_))
        | (refine br_t (by omega) ?_)
        | (refine br_f (by omega) ?_)
        | (refine bs_t (by omega) ?_)
        | (refine bs_f (by omega) ?_)
        | (refine fun (K' : K3) hK' => ?_)
        | (refine hK' _ _ _ ?_; clear hK' K')
        | (refine draw_auto tok mixed (by kernel_rfl) ?_)
        | (refine Long_k B ?_)
        | (refine long_k s ?_)
        | (refine long_k t ?_)
        | (refine Sane_k ?_)
        | (refine bs_bf hL' ?_)
        | (refine br_bf hL' ?_)
        | (refine bs_bf hs' ?_)
        | (refine br_bf hs' ?_)
        | (refine bs_bt ht' ?_)
        | (refine br_bt ht' ?_)
        | (refine And.intro (And.intro rfl rfl) ?_))
    intro ρ; rfl
  have ht' : decide (100 < t.Oil.length) = false := decide_eq_false ht
  have hll : B.Land.length ≤ 100 := by omega
  have hsl : B.Share.length ≤ 100 := by omega
  have hS := sumS_100 (B := B) (s := s) (t := t) (by omega)
  have hsm : (samB s t == samB s t) = true := by simp
  have he : eqSlk (sumS B s t) (sumS B s t) = true := eqSlk_refl _
  refine Spec.of tok Try.func8 rfl rfl rfl fun n0 => vc_ok tok ?_
  repeat ((conv => whnf); first
      | (refine And.intro (by first | omega | exact Nat.le_of_ble_eq_true rfl | (dsimp only [inK]; omega) | (simp only [mulS_eq]; omega) | (simp only [mulS_eq, setL_length]; omega) | (simp only [setL_length, List.length_map]; omega) | exact ⟨by omega, by omega, by first | exact Nat.le_of_ble_eq_true rfl | (dsimp only; omega) | (simp only [setL_length]; omega) | (simp only [setL_length, List.length_map]; omega)⟩ | exact ⟨by omega, by first | rfl | omega, by omega, Nat.le_of_ble_eq_true rfl, Nat.le_of_ble_eq_true rfl⟩ | exact ⟨rfl, rfl, rfl, Nat.le_of_ble_eq_true rfl, by first | rfl | omega | exact Nat.le_of_ble_eq_true rfl | (simp; done) | (simp; omega), by first | rfl | omega | exact Nat.le_of_ble_eq_true rfl | (simp; done) | (simp; omega), by omega, Nat.le_of_ble_eq_true rfl⟩ | exact Eq.refl true) ?_)
      | (refine Exists.intro _ (And.intro rfl ?_))
      | (refine br_t (by omega) ?_)
      | (refine br_f (by omega) ?_)
      | (refine bs_t (by omega) ?_)
      | (refine bs_f (by omega) ?_)
      | (refine fun (K' : K3) hK' => ?_)
      | (refine hK' _ _ _ ?_; clear hK' K')
      | (refine draw_auto tok mixed (by kernel_rfl) ?_)
      | (refine Long_k B ?_)
      | (refine long_k s ?_)
      | (refine long_k t ?_)
      | (refine bs_bf hL' ?_)
      | (refine br_bf hL' ?_)
      | (refine bs_bf hs' ?_)
      | (refine br_bf hs' ?_)
      | (refine bs_bf ht' ?_)
      | (refine br_bf ht' ?_)
      | (refine Sum_k hll hsl (by omega) (by omega) rfl rfl rfl rfl ?_)
      | (refine rSum_k hll hsl (by omega) (by omega) rfl rfl rfl rfl ?_)
      | (refine HD_mk (fun _ h => equal_k (s := sumS B s t) (t := sumS B s t) (by omega) (by omega) rfl rfl h) ?_)
      | (refine HD_mk (fun _ h => Same_k (by omega) (by omega) rfl rfl h) ?_)
      | (refine HD_mk (fun _ h => rSame_k (by omega) (by omega) rfl rfl h) ?_)
      | (refine HD_mk (fun _ h => Sane_k h) ?_)
      | (refine bs_bt he ?_)
      | (refine br_bt he ?_)
      | (refine bs_bt hsm ?_)
      | (refine br_bt hsm ?_)
      | (refine And.intro (And.intro rfl rfl) ?_))
  intro ρ; rfl
theorem sums_any (B : Bay) (s t : Slk) (la sa ao bo : Option Addr) (lc sc c d : Nat) (w : World) (hl : BoolsAt w la B.Land) (hsh : FivesAt w sa B.Share) (hi : IntsAt w ao s.Oil) (hj : IntsAt w bo t.Oil) :
    Calls Try.prog 8 #[.agg #[.int .i64 B.W, .int .i64 B.H, .slice la B.Land.length lc, .slice sa B.Share.length sc], .agg #[.int .i64 s.K, .slice ao s.Oil.length c, .int .i64 s.Away], .agg #[.int .i64 t.K, .slice bo t.Oil.length d, .int .i64 t.Away]] w fun e w' => e = .returned (.bool true) ∧ Below w.heap.size w w' := by
  let ρ : Env := fun l => match l with | 0 => (la, lc) | 1 => (sa, sc) | 2 => (ao, c) | _ => (bo, d)
  have hp : Hp w.heap.size ρ w [⟨0, .ro 0, B.Land.map C.bool⟩, ⟨1, .ro 0, shareC B.Share⟩, ⟨2, .ro 0, s.Oil.map C.i⟩, ⟨3, .ro 0, t.Oil.map C.i⟩] 4 := by
    refine Hp.ros (fun e he => ?_) rfl
    simp only [List.mem_cons, List.not_mem_nil, or_false] at he
    rcases he with rfl | rfl | rfl | rfl
    · exact ⟨rfl, by simp, wf_bools _ _, by rw [den_bools]; exact hl⟩
    · exact ⟨rfl, by simp, wf_shares _ _, by rw [den_shares]; exact hsh⟩
    · exact ⟨rfl, by simp, wf_ints _ _, by rw [den_ints]; exact hi⟩
    · exact ⟨rfl, by simp, wf_ints _ _, by rw [den_ints]; exact hj⟩
  have h := sums_spec B s t (Nat.zero_le _) ρ w hp (by
    intro v hv
    simp only [List.mem_cons, List.not_mem_nil, or_false] at hv
    rcases hv with rfl | rfl | rfl <;> simp [V.wf, A.wf, C.wf, C.i])
  refine (show Calls Try.prog 8 #[.agg #[.int .i64 B.W, .int .i64 B.H, .slice la B.Land.length lc, .slice sa B.Share.length sc], .agg #[.int .i64 s.K, .slice ao s.Oil.length c, .int .i64 s.Away], .agg #[.int .i64 t.K, .slice bo t.Oil.length d, .int .i64 t.Away]] w _ from h).mono ?_
  rintro e w' ⟨v, ρ', L', nx', rfl, h1, h2, h3, h4, h5, h6⟩
  refine ⟨?_, h4⟩
  rw [h6 ρ']
  rfl
end Go.Proofs.Ytnafllhgjidbkaa
