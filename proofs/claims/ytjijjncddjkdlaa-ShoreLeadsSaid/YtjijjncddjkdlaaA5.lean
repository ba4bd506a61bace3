/- Texts of the proof, part 5: U23, O1, L3. -/
import Derived.Test.YtjijjncddjkdlaaA4
import Derived.WalkKit
import Derived.Below
import Derived.Laws.OwnMore
import Derived.Maps.AppendAt
import Derived.Laws.IdiomCopy
import Derived.Laws.CopyRow
import Derived.IntWalk
import Derived.StillTail
import Derived.Scope
import Derived.ChangeKeysEq
import Derived.Laws.Small
import Derived.OrdersIn
import Derived.TacticsIn
import Derived.OwnWalkIn
import Derived.RangeFuncNested
import Derived.RangeFuncLeaves
import Derived.RangeFuncRecord
import Derived.Test.YtjijjncddjkdlaaRows
import Derived.KernelRfl
import Derived.ProofKit
import Derived.OpenShut
import Derived.Lib.SmallJoins
import Derived.Deep.Slices
/- Shore: the reference's ratio and Lead. -/
namespace Go.Proofs.Ytjijjncddjkdlaa
open Go.RowKit
set_option linter.unusedVariables false
set_option linter.unusedSimpArgs false
theorem beach_many {j : Coast} {b : Nat} (hb : b < j.length) : (j.getD b []).length ≤ manyN j j.length := by
  have key : ∀ k, k ≤ j.length → b < k → (j.getD b []).length ≤ manyN j k := by
    intro k
    induction k with
    | zero => intro _ h; omega
    | succ k ih =>
      intro hk hbk
      rw [manyN_succ (by omega)]
      by_cases h : b = k
      · subst h; omega
      · have := ih (by omega) (by omega); omega
  exact key j.length (Nat.le_refl _) hb
theorem runRS {l : List Job} {f : Nat} (hj : JobsOk l) : ∀ n, f + n ≤ l.length → (runR l f n).1.1 = (runS l f n).1.2.1 ∧ (runR l f n).1.2.1 = (runS l f n).1.1 ∧ (runR l f n).2.1 = (runS l f n).2.2.1 ∧ (runR l f n).2.2.1 = (runS l f n).2.1 ∧ (runR l f n).2.2.2 = (runS l f n).2.2.2
  | 0, _ => by simp [runR, runS]
  | n + 1, h => by
    obtain ⟨h1, h2, h3, h4, h5⟩ := runRS (f := f) hj n (by omega)
    have hb := hj (f + n) (by omega)
    have hbd := runS_bd (f := f) hj n (by omega)
    have hpos : 0 < (runS l f n).1.1 + (l.getD (f + n) (0, 0)).1 := by omega
    simp only [runR, runS]
    rw [h1, h2, h3, h4]
    refine ⟨rfl, rfl, ?_⟩
    by_cases hn : n = 0
    · subst hn
      have hab : aboveB (runS l f 0).2 ((runS l f 0).1.1 + (l.getD (f + 0) (0, 0)).1, (runS l f 0).1.2.1 + (l.getD (f + 0) (0, 0)).2, ((f + 0 : Nat) : Int)) = false := by
        simp only [aboveB, Bool.or_eq_false_iff, decide_eq_false_iff_not]
        refine ⟨by omega, ?_⟩
        simp only [runS]; omega
      rw [if_pos (.inl (by omega)), hab]
      exact ⟨rfl, rfl, rfl⟩
    · cases hab : aboveB (runS l f n).2 ((runS l f n).1.1 + (l.getD (f + n) (0, 0)).1, (runS l f n).1.2.1 + (l.getD (f + n) (0, 0)).2, ((f + n : Nat) : Int)) with
      | true =>
        simp only [aboveB, Bool.or_eq_true, decide_eq_true_eq] at hab
        rw [if_neg (by rintro (e | e) <;> omega), if_pos rfl]
        exact ⟨h3, h4, h5⟩
      | false =>
        simp only [aboveB, Bool.or_eq_false_iff, decide_eq_false_iff_not] at hab
        rw [if_pos (.inr (by omega))]
        exact ⟨rfl, rfl, rfl⟩
theorem rleadS_spec (l : List Job) (f : Nat) (hl : l.length ≤ 12) (hf : f ≤ l.length) (hj : JobsOk l) :
    Spec Try.prog 54 [V.c (.sl 0 l.length), V.i f] [⟨0, .ro 2, jobC l⟩] 1 (Is (V.agg [C.i (leadS l f).2.1, C.i (leadS l f).1, C.i (leadS l f).2.2])) := by
  have h := rlead_spec l f hl hf hj
  obtain ⟨_, _, h3, h4, h5⟩ := runRS (f := f) hj (l.length - f) (by omega)
  rw [h3, h4, h5] at h
  exact h
theorem ratio_spec (n d : Nat) (hn : n ≤ 20000) (hd1 : 1 ≤ d) (hd : d ≤ 20000) : Spec Try.prog 55 [V.i n, V.i d] [] 0 (Is (V.agg [C.i ((n : Int) / (Nat.gcd n d : Nat)), C.i ((d : Int) / (Nat.gcd n d : Nat))])) := by
  refine Spec.of tok Try.func55 rfl rfl rfl fun n0 cx => vc_ok tok ?_
  repeat ((conv => whnf); first
      | (refine And.intro (by first | omega | exact Nat.le_of_ble_eq_true rfl | (dsimp only [inK]; omega) | (simp only [mulS_eq]; omega) | (simp only [mulS_eq, setL_length]; omega) | (simp only [setL_length, List.length_map]; omega) | exact ⟨by omega, by omega, by first | exact Nat.le_of_ble_eq_true rfl | (dsimp only; omega) | (simp only [setL_length]; omega) | (simp only [setL_length, List.length_map]; omega)⟩ | exact ⟨by omega, by first | rfl | omega, by omega, Nat.le_of_ble_eq_true rfl, Nat.le_of_ble_eq_true rfl⟩ | exact ⟨rfl, rfl, rfl, Nat.le_of_ble_eq_true rfl, by first | rfl | omega | exact Nat.le_of_ble_eq_true rfl | (simp; done) | (simp; omega), by first | rfl | omega | exact Nat.le_of_ble_eq_true rfl | (simp; done) | (simp; omega), by omega, Nat.le_of_ble_eq_true rfl⟩ | exact Eq.refl true) ?_)
      | (refine Exists.intro _ (And.intro rfl ?_))
      | (refine And.intro (And.intro rfl (chk_rowI _ _ _ _)) ?_)
      | (refine br_t (by omega) ?_)
      | (refine br_f (by omega) ?_)
      | (refine bs_t (by omega) ?_)
      | (refine bs_f (by omega) ?_)
      | (refine fun (K' : K3) hK' => ?_)
      | (refine hK' _ _ _ ?_; clear hK' K')
      | (refine draw_auto tok mixed (by kernel_rfl) ?_)
      | (refine CallK.m ?_)
      | (refine And.intro (And.intro rfl rfl) ?_))
  refine Tri.loop (γ := Nat × Nat × Nat × Nat) (fun g => g.1 * g.2.2.2 = n ∧ g.2.1 * g.2.2.2 = d ∧ 1 ≤ g.2.1 ∧ 1 ≤ g.2.2.2 ∧ 2 ≤ g.2.2.1 ∧ g.2.2.1 ≤ d + 1 + 1 ∧ ∀ q, 2 ≤ q → q < g.2.2.1 → ¬ (q ∣ g.1 ∧ q ∣ g.2.1))
    (fun g => [(0, V.i (g.1 : Nat)), (1, V.i (g.2.1 : Nat)), (4, V.c (.ptr 0 0)), (5, V.i (g.2.2.1 : Nat))]) (fun g => [⟨0, .own 26, [C.i 0, C.i 0]⟩]) 1 (fun g => d + 2 - g.2.2.1) (n, d, 2, 1) (R0 := []) ?_ ?_ ?_
  · exact ⟨by simp, by simp, hd1, by simp, by simp, by simp only; omega, fun q h1 h2 => by simp only at h2; omega⟩
  · skip
    refine ⟨?_, ?_, rfl, rfl, by first | exact Nat.le_of_ble_eq_true rfl | exact Nat.le_refl _ | omega⟩
    · repeat (first | exact trivial | refine And.intro (covS_syn (by first | rfl) rfl (by first | exact trivial | exact Nat.le_of_ble_eq_true rfl | exact hy | exact (fun p hp => nomatch hp) | (show (_ : Nat) < _; omega))) ?_ | refine And.intro (covS_bool rfl rfl (by first | rfl)) ?_)
    · repeat (first | exact trivial | refine And.intro (covE_id (Nat.le_of_ble_eq_true rfl) (by first | exact wf_ints _ _ | exact wf_bools _ _ | first | exact wf_sls _ _ _ (by omega) | exact wf_jobs _ _ | simp [C.wf]) rfl (by first | rfl)) ?_)
  · rintro ⟨x, y, k, e⟩ ⟨h1, h2, h3, h4, h5, h6, h7⟩
    refine vc_ok tok ?_
    simp only at h1 h2 h3 h4 h5 h6 h7
    have hx : x ≤ n := by rw [← h1]; exact Nat.le_mul_of_pos_right _ h4
    have hy : y ≤ d := by rw [← h2]; exact Nat.le_mul_of_pos_right _ h4
    by_cases hk : (k : Int) ≤ y
    · repeat ((conv => whnf); first
          | (refine And.intro (by first | omega | exact Nat.le_of_ble_eq_true rfl | (dsimp only [inK]; omega) | (simp only [mulS_eq]; omega) | (simp only [mulS_eq, setL_length]; omega) | (simp only [setL_length, List.length_map]; omega) | exact ⟨by omega, by omega, by first | exact Nat.le_of_ble_eq_true rfl | (dsimp only; omega) | (simp only [setL_length]; omega) | (simp only [setL_length, List.length_map]; omega)⟩ | exact ⟨by omega, by first | rfl | omega, by omega, Nat.le_of_ble_eq_true rfl, Nat.le_of_ble_eq_true rfl⟩ | exact ⟨rfl, rfl, rfl, Nat.le_of_ble_eq_true rfl, by first | rfl | omega | exact Nat.le_of_ble_eq_true rfl | (simp; done) | (simp; omega), by first | rfl | omega | exact Nat.le_of_ble_eq_true rfl | (simp; done) | (simp; omega), by omega, Nat.le_of_ble_eq_true rfl⟩ | exact Eq.refl true) ?_)
          | (refine Exists.intro _ (And.intro rfl ?_))
          | (refine And.intro (And.intro rfl (chk_rowI _ _ _ _)) ?_)
          | (refine br_t (by omega) ?_)
          | (refine br_f (by omega) ?_)
          | (refine bs_t (by omega) ?_)
          | (refine bs_f (by omega) ?_)
          | (refine fun (K' : K3) hK' => ?_)
          | (refine hK' _ _ _ ?_; clear hK' K')
          | (refine draw_auto tok mixed (by kernel_rfl) ?_)
          | (refine CallK.m ?_)
          | (refine And.intro (And.intro rfl rfl) ?_))
      refine Tri.loop (γ := Nat × Nat × Nat) (fun g => g.1 * g.2.2 = n ∧ g.2.1 * g.2.2 = d ∧ 1 ≤ g.2.1 ∧ 1 ≤ g.2.2 ∧ g.2.1 ≤ y ∧ ∀ q, 2 ≤ q → q < k → ¬ (q ∣ g.1 ∧ q ∣ g.2.1))
        (fun g => [(0, V.i (g.1 : Nat)), (1, V.i (g.2.1 : Nat)), (4, V.c (.ptr 0 0)), (5, V.i (k : Nat))]) (fun g => [⟨0, .own 26, [C.i 0, C.i 0]⟩]) 1 (fun g => g.2.1) (x, y, e) (R0 := []) ?_ ?_ ?_
      · exact ⟨h1, h2, h3, h4, Nat.le_refl _, h7⟩
      · skip
        refine ⟨?_, ?_, rfl, rfl, by first | exact Nat.le_of_ble_eq_true rfl | exact Nat.le_refl _ | omega⟩
        · repeat (first | exact trivial | refine And.intro (covS_syn (by first | rfl) rfl (by first | exact trivial | exact Nat.le_of_ble_eq_true rfl | exact hy | exact (fun p hp => nomatch hp) | (show (_ : Nat) < _; omega))) ?_ | refine And.intro (covS_bool rfl rfl (by first | rfl)) ?_)
        · repeat (first | exact trivial | refine And.intro (covE_id (Nat.le_of_ble_eq_true rfl) (by first | exact wf_ints _ _ | exact wf_bools _ _ | first | exact wf_sls _ _ _ (by omega) | exact wf_jobs _ _ | simp [C.wf]) rfl (by first | rfl)) ?_)
      · rintro ⟨x, y, e⟩ ⟨h1, h2, h3, h4, hyy, h7⟩
        refine vc_ok tok ?_
        simp only at h1 h2 h3 h4 h7 hyy
        have hx : x ≤ n := by rw [← h1]; exact Nat.le_mul_of_pos_right _ h4
        have q1 : 0 ≤ (x : Int) / k ∧ (x : Int) / k ≤ x := ⟨Int.ediv_nonneg (by omega) (by omega), Int.ediv_le_self _ (by omega)⟩
        have q2 : 0 ≤ (y : Int) / k ∧ (y : Int) / k ≤ y := ⟨Int.ediv_nonneg (by omega) (by omega), Int.ediv_le_self _ (by omega)⟩
        by_cases hxk : (x : Int) % k = 0
        · by_cases hyk : (y : Int) % k = 0
          · repeat ((conv => whnf); first
                | (refine And.intro (by first | omega | exact Nat.le_of_ble_eq_true rfl | (dsimp only [inK]; omega) | (simp only [mulS_eq]; omega) | (simp only [mulS_eq, setL_length]; omega) | (simp only [setL_length, List.length_map]; omega) | exact ⟨by omega, by omega, by first | exact Nat.le_of_ble_eq_true rfl | (dsimp only; omega) | (simp only [setL_length]; omega) | (simp only [setL_length, List.length_map]; omega)⟩ | exact ⟨by omega, by first | rfl | omega, by omega, Nat.le_of_ble_eq_true rfl, Nat.le_of_ble_eq_true rfl⟩ | exact ⟨rfl, rfl, rfl, Nat.le_of_ble_eq_true rfl, by first | rfl | omega | exact Nat.le_of_ble_eq_true rfl | (simp; done) | (simp; omega), by first | rfl | omega | exact Nat.le_of_ble_eq_true rfl | (simp; done) | (simp; omega), by omega, Nat.le_of_ble_eq_true rfl⟩ | exact Eq.refl true) ?_)
                | (refine Exists.intro _ (And.intro rfl ?_))
                | (refine And.intro (And.intro rfl (chk_rowI _ _ _ _)) ?_)
                | (refine br_t (by omega) ?_)
                | (refine br_f (by omega) ?_)
                | (refine bs_t (by omega) ?_)
                | (refine bs_f (by omega) ?_)
                | (refine fun (K' : K3) hK' => ?_)
                | (refine hK' _ _ _ ?_; clear hK' K')
                | (refine draw_auto tok mixed (by kernel_rfl) ?_)
                | (refine bs_t hxk ?_)
                | (refine br_t hyk ?_)
                | (refine CallK.m ?_)
                | (refine And.intro (And.intro rfl rfl) ?_))
            have dx : k ∣ x := Nat.dvd_of_mod_eq_zero (by omega)
            have dy : k ∣ y := Nat.dvd_of_mod_eq_zero (by omega)
            have ex : x / k * k = x := Nat.div_mul_cancel dx
            have ey : y / k * k = y := Nat.div_mul_cancel dy
            refine ⟨(x / k, y / k, k * e), [], ⟨?_, ?_, ?_, ?_, ?_, ?_⟩, ?_, ?_⟩
            · simp only; rw [← Nat.mul_assoc, ex]; exact h1
            · simp only; rw [← Nat.mul_assoc, ey]; exact h2
            · rcases Nat.eq_zero_or_pos (y / k) with hz | hz
              · rw [hz] at ey; omega
              · exact hz
            · exact Nat.mul_pos (by omega) h4
            · exact Nat.le_trans (Nat.div_le_self _ _) hyy
            · intro q hq1 hq2 hq3
              refine h7 q hq1 hq2 ⟨?_, ?_⟩
              · rw [← ex]; exact Nat.dvd_mul_right_of_dvd hq3.1 _
              · rw [← ey]; exact Nat.dvd_mul_right_of_dvd hq3.2 _
            · exact Nat.div_lt_self (by omega) (by omega)
            refine ⟨?_, ?_, rfl, rfl, by first | exact Nat.le_of_ble_eq_true rfl | exact Nat.le_refl _ | omega⟩
            · repeat (first | exact trivial | refine And.intro (covS_syn (by first | rfl | (refine congrArg some (congrArg V.i ?_); exact (Int.natCast_ediv _ _).symm)) rfl (by first | exact trivial | exact Nat.le_of_ble_eq_true rfl | exact hy | exact (fun p hp => nomatch hp) | (show (_ : Nat) < _; omega))) ?_ | refine And.intro (covS_bool rfl rfl (by first | rfl)) ?_)
            · repeat (first | exact trivial | refine And.intro (covE_id (Nat.le_of_ble_eq_true rfl) (by first | exact wf_ints _ _ | exact wf_bools _ _ | first | exact wf_sls _ _ _ (by omega) | exact wf_jobs _ _ | simp [C.wf]) rfl (by first | rfl)) ?_)
          · repeat ((conv => whnf); first
                | (refine And.intro (by first | omega | exact Nat.le_of_ble_eq_true rfl | (dsimp only [inK]; omega) | (simp only [mulS_eq]; omega) | (simp only [mulS_eq, setL_length]; omega) | (simp only [setL_length, List.length_map]; omega) | exact ⟨by omega, by omega, by first | exact Nat.le_of_ble_eq_true rfl | (dsimp only; omega) | (simp only [setL_length]; omega) | (simp only [setL_length, List.length_map]; omega)⟩ | exact ⟨by omega, by first | rfl | omega, by omega, Nat.le_of_ble_eq_true rfl, Nat.le_of_ble_eq_true rfl⟩ | exact ⟨rfl, rfl, rfl, Nat.le_of_ble_eq_true rfl, by first | rfl | omega | exact Nat.le_of_ble_eq_true rfl | (simp; done) | (simp; omega), by first | rfl | omega | exact Nat.le_of_ble_eq_true rfl | (simp; done) | (simp; omega), by omega, Nat.le_of_ble_eq_true rfl⟩ | exact Eq.refl true) ?_)
                | (refine Exists.intro _ (And.intro rfl ?_))
                | (refine And.intro (And.intro rfl (chk_rowI _ _ _ _)) ?_)
                | (refine br_t (by omega) ?_)
                | (refine br_f (by omega) ?_)
                | (refine bs_t (by omega) ?_)
                | (refine bs_f (by omega) ?_)
                | (refine fun (K' : K3) hK' => ?_)
                | (refine hK' _ _ _ ?_; clear hK' K')
                | (refine draw_auto tok mixed (by kernel_rfl) ?_)
                | (refine bs_t hxk ?_)
                | (refine br_f hyk ?_)
                | (refine CallK.m ?_)
                | (refine And.intro (And.intro rfl rfl) ?_))
            refine ⟨(x, y, k + 1, e), [], ⟨h1, h2, h3, h4, by simp only; omega, by simp only; omega, ?_⟩, by simp only; omega, ?_⟩
            · intro q hq1 hq2
              simp only at hq2
              by_cases hqk : q = k
              · subst hqk
                rintro ⟨_, e2⟩
                exact hyk (by rw [← Int.natCast_emod, Nat.mod_eq_zero_of_dvd e2]; rfl)
              · exact h7 q hq1 (by omega)
            refine ⟨?_, ?_, rfl, rfl, by first | exact Nat.le_of_ble_eq_true rfl | exact Nat.le_refl _ | omega⟩
            · repeat (first | exact trivial | refine And.intro (covS_syn (by first | rfl | (refine congrArg some (congrArg V.i ?_); omega)) rfl (by first | exact trivial | exact Nat.le_of_ble_eq_true rfl | exact hy | exact (fun p hp => nomatch hp) | (show (_ : Nat) < _; omega))) ?_ | refine And.intro (covS_bool rfl rfl (by first | rfl)) ?_)
            · repeat (first | exact trivial | refine And.intro (covE_id (Nat.le_of_ble_eq_true rfl) (by first | exact wf_ints _ _ | exact wf_bools _ _ | first | exact wf_sls _ _ _ (by omega) | exact wf_jobs _ _ | simp [C.wf]) rfl (by first | rfl)) ?_)
        · repeat ((conv => whnf); first
              | (refine And.intro (by first | omega | exact Nat.le_of_ble_eq_true rfl | (dsimp only [inK]; omega) | (simp only [mulS_eq]; omega) | (simp only [mulS_eq, setL_length]; omega) | (simp only [setL_length, List.length_map]; omega) | exact ⟨by omega, by omega, by first | exact Nat.le_of_ble_eq_true rfl | (dsimp only; omega) | (simp only [setL_length]; omega) | (simp only [setL_length, List.length_map]; omega)⟩ | exact ⟨by omega, by first | rfl | omega, by omega, Nat.le_of_ble_eq_true rfl, Nat.le_of_ble_eq_true rfl⟩ | exact ⟨rfl, rfl, rfl, Nat.le_of_ble_eq_true rfl, by first | rfl | omega | exact Nat.le_of_ble_eq_true rfl | (simp; done) | (simp; omega), by first | rfl | omega | exact Nat.le_of_ble_eq_true rfl | (simp; done) | (simp; omega), by omega, Nat.le_of_ble_eq_true rfl⟩ | exact Eq.refl true) ?_)
              | (refine Exists.intro _ (And.intro rfl ?_))
              | (refine And.intro (And.intro rfl (chk_rowI _ _ _ _)) ?_)
              | (refine br_t (by omega) ?_)
              | (refine br_f (by omega) ?_)
              | (refine bs_t (by omega) ?_)
              | (refine bs_f (by omega) ?_)
              | (refine fun (K' : K3) hK' => ?_)
              | (refine hK' _ _ _ ?_; clear hK' K')
              | (refine draw_auto tok mixed (by kernel_rfl) ?_)
              | (refine bs_f hxk ?_)
              | (refine br_f hxk ?_)
              | (refine CallK.m ?_)
              | (refine And.intro (And.intro rfl rfl) ?_))
          refine ⟨(x, y, k + 1, e), [], ⟨h1, h2, h3, h4, by simp only; omega, by simp only; omega, ?_⟩, by simp only; omega, ?_⟩
          · intro q hq1 hq2
            simp only at hq2
            by_cases hqk : q = k
            · subst hqk
              rintro ⟨e1, _⟩
              exact hxk (by rw [← Int.natCast_emod, Nat.mod_eq_zero_of_dvd e1]; rfl)
            · exact h7 q hq1 (by omega)
          refine ⟨?_, ?_, rfl, rfl, by first | exact Nat.le_of_ble_eq_true rfl | exact Nat.le_refl _ | omega⟩
          · repeat (first | exact trivial | refine And.intro (covS_syn (by first | rfl | (refine congrArg some (congrArg V.i ?_); omega)) rfl (by first | exact trivial | exact Nat.le_of_ble_eq_true rfl | exact hy | exact (fun p hp => nomatch hp) | (show (_ : Nat) < _; omega))) ?_ | refine And.intro (covS_bool rfl rfl (by first | rfl)) ?_)
          · repeat (first | exact trivial | refine And.intro (covE_id (Nat.le_of_ble_eq_true rfl) (by first | exact wf_ints _ _ | exact wf_bools _ _ | first | exact wf_sls _ _ _ (by omega) | exact wf_jobs _ _ | simp [C.wf]) rfl (by first | rfl)) ?_)
    · have hg : Nat.gcd x y = 1 := by
        have hgp : 0 < Nat.gcd x y := Nat.gcd_pos_of_pos_right _ (by omega)
        have hgl : Nat.gcd x y ≤ y := Nat.le_of_dvd (by omega) (Nat.gcd_dvd_right _ _)
        rcases Nat.lt_or_ge (Nat.gcd x y) 2 with h | h
        · omega
        · exact absurd ⟨Nat.gcd_dvd_left _ _, Nat.gcd_dvd_right _ _⟩ (h7 _ h (by omega))
      have hG : Nat.gcd n d = e := by rw [← h1, ← h2, Nat.gcd_mul_right, hg, Nat.one_mul]
      have e1 : (n : Int) / (Nat.gcd n d : Nat) = x := by
        rw [hG, ← h1]; rw [Int.natCast_mul, Int.mul_ediv_cancel _ (by omega)]
      have e2 : (d : Int) / (Nat.gcd n d : Nat) = y := by
        rw [hG, ← h2]; rw [Int.natCast_mul, Int.mul_ediv_cancel _ (by omega)]
      rw [e1, e2]
      repeat ((conv => whnf); first
          | (refine And.intro (by first | omega | exact Nat.le_of_ble_eq_true rfl | (dsimp only [inK]; omega) | (simp only [mulS_eq]; omega) | (simp only [mulS_eq, setL_length]; omega) | (simp only [setL_length, List.length_map]; omega) | exact ⟨by omega, by omega, by first | exact Nat.le_of_ble_eq_true rfl | (dsimp only; omega) | (simp only [setL_length]; omega) | (simp only [setL_length, List.length_map]; omega)⟩ | exact ⟨by omega, by first | rfl | omega, by omega, Nat.le_of_ble_eq_true rfl, Nat.le_of_ble_eq_true rfl⟩ | exact ⟨rfl, rfl, rfl, Nat.le_of_ble_eq_true rfl, by first | rfl | omega | exact Nat.le_of_ble_eq_true rfl | (simp; done) | (simp; omega), by first | rfl | omega | exact Nat.le_of_ble_eq_true rfl | (simp; done) | (simp; omega), by omega, Nat.le_of_ble_eq_true rfl⟩ | exact Eq.refl true) ?_)
          | (refine Exists.intro _ (And.intro rfl ?_))
          | (refine And.intro (And.intro rfl (chk_rowI _ _ _ _)) ?_)
          | (refine br_t (by omega) ?_)
          | (refine br_f (by omega) ?_)
          | (refine bs_t (by omega) ?_)
          | (refine bs_f (by omega) ?_)
          | (refine fun (K' : K3) hK' => ?_)
          | (refine hK' _ _ _ ?_; clear hK' K')
          | (refine draw_auto tok mixed (by kernel_rfl) ?_)
          | (refine CallK.m ?_)
          | (refine And.intro (And.intro rfl rfl) ?_))
      intro ρ; rfl
set_option maxRecDepth 100000 in
theorem rLead_spec (j : Coast) (hj : Sized j) (b f : Int) (hbb : -9223372036854775808 ≤ b ∧ b ≤ 9223372036854775807) (hff : -9223372036854775808 ≤ f ∧ f ≤ 9223372036854775807) :
    Spec Try.prog 17 [V.c (.sl 0 j.length), V.i b, V.i f] (⟨0, .ro 1, slsC 1 j⟩ :: entC 1 j) 32 (Is (leadV j b f)) := by
  have hj20 := hj.len
  have hlen := slsC_len (b := 1) (j := j)
  cases hv : validL j with
  | false =>
    simp only [leadV, hv, Bool.false_eq_true, if_false]
    refine Spec.of tok Try.func17 rfl rfl rfl fun n0 cx => vc_ok tok ?_
    repeat ((conv => whnf); first
        | (refine And.intro (by first | omega | exact Nat.le_of_ble_eq_true rfl | (dsimp only [inK]; omega) | (simp only [mulS_eq]; omega) | (simp only [mulS_eq, setL_length]; omega) | (simp only [setL_length, List.length_map]; omega) | exact ⟨by omega, by omega, by first | exact Nat.le_of_ble_eq_true rfl | (dsimp only; omega) | (simp only [setL_length]; omega) | (simp only [setL_length, List.length_map]; omega)⟩ | exact ⟨by omega, by first | rfl | omega, by omega, Nat.le_of_ble_eq_true rfl, Nat.le_of_ble_eq_true rfl⟩ | exact ⟨rfl, rfl, rfl, Nat.le_of_ble_eq_true rfl, by first | rfl | omega | exact Nat.le_of_ble_eq_true rfl | (simp; done) | (simp; omega), by first | rfl | omega | exact Nat.le_of_ble_eq_true rfl | (simp; done) | (simp; omega), by omega, Nat.le_of_ble_eq_true rfl⟩ | exact Eq.refl true) ?_)
        | (refine Exists.intro _ (And.intro rfl ?_))
        | (refine And.intro (And.intro rfl (chk_rowI _ _ _ _)) ?_)
        | (refine br_t (by omega) ?_)
        | (refine br_f (by omega) ?_)
        | (refine bs_t (by omega) ?_)
        | (refine bs_f (by omega) ?_)
        | (refine fun (K' : K3) hK' => ?_)
        | (refine hK' _ _ _ ?_; clear hK' K')
        | (refine draw_auto tok mixed (by kernel_rfl) ?_)
        | (refine CallK.val (R := []) (rvalid_spec j hj) (by kernel_rfl) rfl (by simp [V.wf, A.wf, C.wf]) (HasC.ro ⟨rfl, fun k hk => by (repeat rw [find_skip (by omega)]); exact entC_find hk⟩ hj) (injC hj) rfl trivial ?_)
        | (refine br_bt (by rw [hv]; rfl) ?_)
        | (with_reducible refine updK_ent (by omega) ?_)
        | (refine CallK.m ?_)
        | (refine And.intro (And.intro rfl rfl) ?_))
    intro ρ; rfl
  | true =>
    have hc := validL_coast hj hv
    have hm12 := validL_many hv
    simp only [leadV, hv, if_true]
    by_cases hb0 : b < 0
    · rw [if_neg (by omega)]
      refine Spec.of tok Try.func17 rfl rfl rfl fun n0 cx => vc_ok tok ?_
      repeat ((conv => whnf); first
          | (refine And.intro (by first | omega | exact Nat.le_of_ble_eq_true rfl | (dsimp only [inK]; omega) | (simp only [mulS_eq]; omega) | (simp only [mulS_eq, setL_length]; omega) | (simp only [setL_length, List.length_map]; omega) | exact ⟨by omega, by omega, by first | exact Nat.le_of_ble_eq_true rfl | (dsimp only; omega) | (simp only [setL_length]; omega) | (simp only [setL_length, List.length_map]; omega)⟩ | exact ⟨by omega, by first | rfl | omega, by omega, Nat.le_of_ble_eq_true rfl, Nat.le_of_ble_eq_true rfl⟩ | exact ⟨rfl, rfl, rfl, Nat.le_of_ble_eq_true rfl, by first | rfl | omega | exact Nat.le_of_ble_eq_true rfl | (simp; done) | (simp; omega), by first | rfl | omega | exact Nat.le_of_ble_eq_true rfl | (simp; done) | (simp; omega), by omega, Nat.le_of_ble_eq_true rfl⟩ | exact Eq.refl true) ?_)
          | (refine Exists.intro _ (And.intro rfl ?_))
          | (refine And.intro (And.intro rfl (chk_rowI _ _ _ _)) ?_)
          | (refine br_t (by omega) ?_)
          | (refine br_f (by omega) ?_)
          | (refine bs_t (by omega) ?_)
          | (refine bs_f (by omega) ?_)
          | (refine fun (K' : K3) hK' => ?_)
          | (refine hK' _ _ _ ?_; clear hK' K')
          | (refine draw_auto tok mixed (by kernel_rfl) ?_)
          | (refine CallK.val (R := []) (rvalid_spec j hj) (by kernel_rfl) rfl (by simp [V.wf, A.wf, C.wf]) (HasC.ro ⟨rfl, fun k hk => by (repeat rw [find_skip (by omega)]); exact entC_find hk⟩ hj) (injC hj) rfl trivial ?_)
          | (refine br_bf (by rw [hv]; rfl) ?_)
          | (with_reducible refine updK_ent (by omega) ?_)
          | (refine CallK.m ?_)
          | (refine And.intro (And.intro rfl rfl) ?_))
      intro ρ; rfl
    by_cases hb1 : b ≥ (j.length : Int)
    · rw [if_neg (by omega)]
      refine Spec.of tok Try.func17 rfl rfl rfl fun n0 cx => vc_ok tok ?_
      repeat ((conv => whnf); first
          | (refine And.intro (by first | omega | exact Nat.le_of_ble_eq_true rfl | (dsimp only [inK]; omega) | (simp only [mulS_eq]; omega) | (simp only [mulS_eq, setL_length]; omega) | (simp only [setL_length, List.length_map]; omega) | exact ⟨by omega, by omega, by first | exact Nat.le_of_ble_eq_true rfl | (dsimp only; omega) | (simp only [setL_length]; omega) | (simp only [setL_length, List.length_map]; omega)⟩ | exact ⟨by omega, by first | rfl | omega, by omega, Nat.le_of_ble_eq_true rfl, Nat.le_of_ble_eq_true rfl⟩ | exact ⟨rfl, rfl, rfl, Nat.le_of_ble_eq_true rfl, by first | rfl | omega | exact Nat.le_of_ble_eq_true rfl | (simp; done) | (simp; omega), by first | rfl | omega | exact Nat.le_of_ble_eq_true rfl | (simp; done) | (simp; omega), by omega, Nat.le_of_ble_eq_true rfl⟩ | exact Eq.refl true) ?_)
          | (refine Exists.intro _ (And.intro rfl ?_))
          | (refine And.intro (And.intro rfl (chk_rowI _ _ _ _)) ?_)
          | (refine br_t (by omega) ?_)
          | (refine br_f (by omega) ?_)
          | (refine bs_t (by omega) ?_)
          | (refine bs_f (by omega) ?_)
          | (refine fun (K' : K3) hK' => ?_)
          | (refine hK' _ _ _ ?_; clear hK' K')
          | (refine draw_auto tok mixed (by kernel_rfl) ?_)
          | (refine CallK.val (R := []) (rvalid_spec j hj) (by kernel_rfl) rfl (by simp [V.wf, A.wf, C.wf]) (HasC.ro ⟨rfl, fun k hk => by (repeat rw [find_skip (by omega)]); exact entC_find hk⟩ hj) (injC hj) rfl trivial ?_)
          | (refine br_bf (by rw [hv]; rfl) ?_)
          | (with_reducible refine updK_ent (by omega) ?_)
          | (refine CallK.m ?_)
          | (refine And.intro (And.intro rfl rfl) ?_))
      intro ρ; rfl
    obtain ⟨bN, rfl⟩ : ∃ n : Nat, b = n := ⟨b.toNat, by omega⟩
    have hbl : bN < j.length := by omega
    have hjb := hc.jobs bN hbl
    rw [Int.toNat_natCast]
    by_cases hf0 : f < 0
    · rw [if_neg (by omega)]
      refine Spec.of tok Try.func17 rfl rfl rfl fun n0 cx => vc_ok tok ?_
      repeat ((conv => whnf); first
          | (refine And.intro (by first | omega | exact Nat.le_of_ble_eq_true rfl | (dsimp only [inK]; omega) | (simp only [mulS_eq]; omega) | (simp only [mulS_eq, setL_length]; omega) | (simp only [setL_length, List.length_map]; omega) | exact ⟨by omega, by omega, by first | exact Nat.le_of_ble_eq_true rfl | (dsimp only; omega) | (simp only [setL_length]; omega) | (simp only [setL_length, List.length_map]; omega)⟩ | exact ⟨by omega, by first | rfl | omega, by omega, Nat.le_of_ble_eq_true rfl, Nat.le_of_ble_eq_true rfl⟩ | exact ⟨rfl, rfl, rfl, Nat.le_of_ble_eq_true rfl, by first | rfl | omega | exact Nat.le_of_ble_eq_true rfl | (simp; done) | (simp; omega), by first | rfl | omega | exact Nat.le_of_ble_eq_true rfl | (simp; done) | (simp; omega), by omega, Nat.le_of_ble_eq_true rfl⟩ | exact Eq.refl true) ?_)
          | (refine Exists.intro _ (And.intro rfl ?_))
          | (refine And.intro (And.intro rfl (chk_rowI _ _ _ _)) ?_)
          | (refine br_t (by omega) ?_)
          | (refine br_f (by omega) ?_)
          | (refine bs_t (by omega) ?_)
          | (refine bs_f (by omega) ?_)
          | (refine fun (K' : K3) hK' => ?_)
          | (refine hK' _ _ _ ?_; clear hK' K')
          | (refine draw_auto tok mixed (by kernel_rfl) ?_)
          | (refine CallK.val (R := []) (rvalid_spec j hj) (by kernel_rfl) rfl (by simp [V.wf, A.wf, C.wf]) (HasC.ro ⟨rfl, fun k hk => by (repeat rw [find_skip (by omega)]); exact entC_find hk⟩ hj) (injC hj) rfl trivial ?_)
          | (refine br_bf (by rw [hv]; rfl) ?_)
          | (with_reducible refine updK_ent (by omega) ?_)
          | (refine CallK.m ?_)
          | (refine And.intro (And.intro rfl rfl) ?_))
      intro ρ; rfl
    by_cases hf1 : f ≥ ((j.getD bN []).length : Int)
    · rw [if_neg (by omega)]
      refine Spec.of tok Try.func17 rfl rfl rfl fun n0 cx => vc_ok tok ?_
      repeat ((conv => whnf); first
          | (refine And.intro (by first | omega | exact Nat.le_of_ble_eq_true rfl | (dsimp only [inK]; omega) | (simp only [mulS_eq]; omega) | (simp only [mulS_eq, setL_length]; omega) | (simp only [setL_length, List.length_map]; omega) | exact ⟨by omega, by omega, by first | exact Nat.le_of_ble_eq_true rfl | (dsimp only; omega) | (simp only [setL_length]; omega) | (simp only [setL_length, List.length_map]; omega)⟩ | exact ⟨by omega, by first | rfl | omega, by omega, Nat.le_of_ble_eq_true rfl, Nat.le_of_ble_eq_true rfl⟩ | exact ⟨rfl, rfl, rfl, Nat.le_of_ble_eq_true rfl, by first | rfl | omega | exact Nat.le_of_ble_eq_true rfl | (simp; done) | (simp; omega), by first | rfl | omega | exact Nat.le_of_ble_eq_true rfl | (simp; done) | (simp; omega), by omega, Nat.le_of_ble_eq_true rfl⟩ | exact Eq.refl true) ?_)
          | (with_reducible refine ld (slL hbl) ?_)
          | (refine Exists.intro _ (And.intro rfl ?_))
          | (refine And.intro (And.intro rfl (chk_rowI _ _ _ _)) ?_)
          | (refine br_t (by omega) ?_)
          | (refine br_f (by omega) ?_)
          | (refine bs_t (by omega) ?_)
          | (refine bs_f (by omega) ?_)
          | (refine fun (K' : K3) hK' => ?_)
          | (refine hK' _ _ _ ?_; clear hK' K')
          | (refine draw_auto tok mixed (by kernel_rfl) ?_)
          | (refine CallK.val (R := []) (rvalid_spec j hj) (by kernel_rfl) rfl (by simp [V.wf, A.wf, C.wf]) (HasC.ro ⟨rfl, fun k hk => by (repeat rw [find_skip (by omega)]); exact entC_find hk⟩ hj) (injC hj) rfl trivial ?_)
          | (refine br_bf (by rw [hv]; rfl) ?_)
          | (with_reducible refine updK_ent (by omega) ?_)
          | (refine CallK.m ?_)
          | (refine And.intro (And.intro rfl rfl) ?_))
      intro ρ; rfl
    obtain ⟨fN, rfl⟩ : ∃ n : Nat, f = n := ⟨f.toNat, by omega⟩
    have hfl : fN < (j.getD bN []).length := by omega
    rw [if_pos (by omega), Int.toNat_natCast]
    have hp := leadS_pos hjb.1 hfl
    have hbd := leadS_bd hjb.1 (Nat.le_of_lt hfl) hjb.2
    have hls := rleadS_spec (j.getD bN []) fN (by have := beach_many hbl; omega) (Nat.le_of_lt hfl) hjb.1
    generalize leadS (j.getD bN []) fN = p at *
    obtain ⟨hh, ww, la⟩ := p
    simp only at hp hbd hls
    obtain ⟨hN, rfl⟩ : ∃ n : Nat, hh = n := ⟨hh.toNat, by omega⟩
    obtain ⟨wN, rfl⟩ : ∃ n : Nat, ww = n := ⟨ww.toNat, by omega⟩
    have hg : leadG ((hN : Int), (wN : Int), la) = (Nat.gcd wN hN : Nat) := by simp [leadG, Nat.gcd_comm]
    rw [hg]
    refine Spec.of tok Try.func17 rfl rfl rfl fun n0 cx => vc_ok tok ?_
    repeat ((conv => whnf); first
        | (refine And.intro (by first | omega | exact Nat.le_of_ble_eq_true rfl | (dsimp only [inK]; omega) | (simp only [mulS_eq]; omega) | (simp only [mulS_eq, setL_length]; omega) | (simp only [setL_length, List.length_map]; omega) | exact ⟨by omega, by omega, by first | exact Nat.le_of_ble_eq_true rfl | (dsimp only; omega) | (simp only [setL_length]; omega) | (simp only [setL_length, List.length_map]; omega)⟩ | exact ⟨by omega, by first | rfl | omega, by omega, Nat.le_of_ble_eq_true rfl, Nat.le_of_ble_eq_true rfl⟩ | exact ⟨rfl, rfl, rfl, Nat.le_of_ble_eq_true rfl, by first | rfl | omega | exact Nat.le_of_ble_eq_true rfl | (simp; done) | (simp; omega), by first | rfl | omega | exact Nat.le_of_ble_eq_true rfl | (simp; done) | (simp; omega), by omega, Nat.le_of_ble_eq_true rfl⟩ | exact Eq.refl true) ?_)
        | (with_reducible refine ld (slL hbl) ?_)
        | (refine Exists.intro _ (And.intro rfl ?_))
        | (refine And.intro (And.intro rfl (chk_rowI _ _ _ _)) ?_)
        | (refine br_t (by omega) ?_)
        | (refine br_f (by omega) ?_)
        | (refine bs_t (by omega) ?_)
        | (refine bs_f (by omega) ?_)
        | (refine fun (K' : K3) hK' => ?_)
        | (refine hK' _ _ _ ?_; clear hK' K')
        | (refine draw_auto tok mixed (by kernel_rfl) ?_)
        | (refine CallK.val (R := []) (rvalid_spec j hj) (by kernel_rfl) rfl (by simp [V.wf, A.wf, C.wf]) (HasC.ro ⟨rfl, fun k hk => by (repeat rw [find_skip (by omega)]); exact entC_find hk⟩ hj) (injC hj) rfl trivial ?_)
        | (refine br_bf (by rw [hv]; rfl) ?_)
        | (with_reducible refine updK_ent (by omega) ?_)
        | (refine CallK.val (R := [(0, some (1 + bN))]) hls (by kernel_rfl) rfl (by simp [V.wf, A.wf, C.wf, V.i]) (roE_beach (by omega) (by ((try (conv => lhs; arg 1; whnf)); (repeat rw [find_skip (by omega)]); exact entC_find hbl)) (.inr rfl)) rfl rfl (by simp [V.wf, A.wf, C.wf]) ?_)
        | (refine HD_mk (fun _ h => CallK.val (R := []) (ratio_spec wN hN (by omega) (by omega) (by omega)) (by kernel_rfl) rfl (by simp [V.wf, A.wf, C.wf, V.i]) trivial rfl rfl (by simp [V.wf, A.wf, C.wf]) h) ?_)
        | (refine CallK.m ?_)
        | (refine And.intro (And.intro rfl rfl) ?_))
    intro ρ; rfl
end Go.Proofs.Ytjijjncddjkdlaa

/- How beaches and orders that came in read. -/
namespace Go.Proofs.Ytjijjncddjkdlaa
open Go.RowKit
set_option linter.unusedVariables false
set_option linter.unusedSimpArgs false
open Go.ChangeShapes Go.WideShapes Go.ChangeAt Go.RowKit Go.Deep Go.Joins
theorem i64_bd {n : Int} (h : (Lit.int .i64 n).wf = true) : -9223372036854775808 ≤ n ∧ n ≤ 9223372036854775807 := by
  simp [Lit.wf, IntKind.min, IntKind.max, IntKind.signed, IntKind.bits] at h; omega
theorem u8_bd {n : Int} (h : (Lit.int .u8 n).wf = true) : 0 ≤ n ∧ n ≤ 255 := by
  simp [Lit.wf, IntKind.min, IntKind.max, IntKind.signed, IntKind.bits] at h; omega
theorem ro_at {w : World} {a : Addr} {cs : List Value} (h : ∀ i, i < cs.length → w.cell? (a.add i) = some (cs.getD i undef)) : RoAt w (some a) cs := by
  intro hne
  have hp : 0 < cs.length := List.length_pos_iff.2 hne
  obtain ⟨b, off, spot⟩ := a
  have hspot : spot = none := by simpa [Addr.add] using World.cell?_spot (h 0 hp)
  subst hspot
  refine ⟨b, off, rfl, ?_, fun j hj => by rw [← Go.WideShapes.add_plain]; exact h j hj⟩
  have := World.block_lt_of_cell? _ _ (h 0 hp)
  simpa [Addr.add] using this
theorem add_add (a : Addr) (i j : Nat) : (a.add i).add j = a.add (i + j) := by
  unfold Addr.add
  by_cases hi : i = 0
  · subst hi; simp
  · by_cases hj : j = 0
    · subst hj; simp [hi]
    · simp [hi, hj, Nat.add_assoc]
def jobV (l : List Job) : List Value := l.flatMap fun x => [.int .i64 x.1, .int .i64 x.2]
theorem jobV_len (l : List Job) : (jobV l).length = 2 * l.length := by
  induction l with
  | nil => rfl
  | cons x l ih => simp only [jobV, List.flatMap_cons, List.length_append] at *; simp [ih]; omega
theorem jobV_get : ∀ {l : List Job} {k : Nat}, k < l.length → (jobV l).getD (k * 2) undef = .int .i64 (l.getD k (0, 0)).1 ∧ (jobV l).getD (k * 2 + 1) undef = .int .i64 (l.getD k (0, 0)).2
  | x :: l, 0, _ => ⟨rfl, rfl⟩
  | x :: l, k + 1, h => by
    have := jobV_get (l := l) (k := k) (by simpa using h)
    simp only [jobV, List.flatMap_cons] at *
    rw [show (k + 1) * 2 + 1 = k * 2 + 1 + 1 + 1 by omega, show (k + 1) * 2 = k * 2 + 1 + 1 by omega]
    simpa using this
theorem den_jobs (ρ : Env) (l : List Job) : (jobC l).map (C.den ρ) = jobV l := by
  induction l with
  | nil => rfl
  | cons x l ih => simp only [jobC, jobV, List.flatMap_cons, List.map_append] at *; rw [ih]; rfl
section
variable {H : Type} {enc : TypeId × Value → H} {W : World} {sp : Nat → Bool}
set_option maxRecDepth 10000 in
theorem open_jobs {n : Nat} {v : Value} {x : DataW H × List MemPlace} (h : DataW.trod enc Try.prog W 0 sp true n 31 [v] = some x) :
    ∃ (ao : Option Addr) (c : Nat) (l : List Job), v = .slice ao l.length c ∧ RoAt W ao (jobV l) ∧ l.length ≤ c ∧ l.length < 9223372036854775808 := by
  rcases open_slice Try.underlying31 h with ⟨hcs, _⟩ | ⟨a, len, cap, m, f, D, Pl, hcs, _, hl, hmax, hm, _, hx⟩
  · cases hcs
    exact ⟨none, 0, [], rfl, fun hne => absurd rfl hne, by simp, by simp⟩
  · cases hcs
    have hc2 : Try.prog.cellsOf 47 = 2 := by kernel_rfl
    have hc1 : Try.prog.cellsOf 3 = 1 := by kernel_rfl
    have hlm : len ≤ m := by rw [hm]; split <;> omega
    have hlen : len < 9223372036854775808 := by unfold maxLen at hmax; omega
    rw [hc2] at hx
    obtain ⟨b, hb⟩ := choose_lt (α := Job) (n := len) (p := fun i y => W.cell? (a.add (i * 2)) = some (.int .i64 y.1) ∧ W.cell? (a.add (i * 2 + 1)) = some (.int .i64 y.2)) (fun i hi => by
      obtain ⟨cs', h1, h2⟩ := hx i (by omega)
      obtain ⟨_, hlen, hcell⟩ := World.cells?_some h1
      obtain ⟨y0, y1, k, _, hl2, h3, h4⟩ := trod_struct2 Try.underlying47 h2
      match cs', hlen with
      | [c0, c1], _ =>
        simp [hc1] at h3 h4
        obtain ⟨z0, e0, _, _⟩ := DataW.trod_int Try.underlying3 h3
        obtain ⟨z1, e1, _, _⟩ := DataW.trod_int Try.underlying3 h4
        cases e0
        cases e1
        have g0 := hcell 0 (by omega)
        have g1 := hcell 1 (by omega)
        rw [add_add] at g0 g1
        exact ⟨(z0, z1), by simpa using g0, by simpa using g1⟩)
    refine ⟨some a, cap, (List.range len).map b, by simp, ro_at (fun i hi => ?_), by simpa using hl, by simpa using hlen⟩
    rw [jobV_len] at hi
    simp only [List.length_map, List.length_range] at hi
    have hq : i / 2 < len := by omega
    obtain ⟨g0, g1⟩ := hb (i / 2) hq
    obtain ⟨k0, k1⟩ := jobV_get (l := (List.range len).map b) (k := i / 2) (by simpa using hq)
    have hgd : ((List.range len).map b).getD (i / 2) (0, 0) = b (i / 2) := by simp [List.getD_eq_getElem?_getD, hq]
    rw [hgd] at k0 k1
    rcases Nat.mod_two_eq_zero_or_one i with hi2 | hi2
    · rw [show i / 2 * 2 = i by omega] at g0 k0
      rw [g0, k0]
    · rw [show i / 2 * 2 + 1 = i by omega] at g1 k1
      rw [g1, k1]
theorem open_ints35 {n : Nat} {v : Value} {x : DataW H × List MemPlace} (h : DataW.trod enc Try.prog W 0 sp true n 35 [v] = some x) :
    ∃ (ao : Option Addr) (c : Nat) (l : List Int), v = .slice ao l.length c ∧ RoAt W ao (l.map (Value.int .i64)) ∧ l.length < 9223372036854775808 := by
  rcases open_slice1 Try.underlying35 (by kernel_rfl) h with ⟨hcs, _⟩ | ⟨a, len, cap, m, f, V, D, Pl, hcs, _, hl, hmax, hm, _, hx⟩
  · cases hcs
    exact ⟨none, 0, [], rfl, fun hne => absurd rfl hne, by simp⟩
  · cases hcs
    have hlm : len ≤ m := by rw [hm]; split <;> omega
    have hlen : len < 9223372036854775808 := by unfold maxLen at hmax; omega
    obtain ⟨b, hb⟩ := choose_lt (α := Int) (n := len) (p := fun i b => V i = .int .i64 b) (fun i hi => by
      obtain ⟨b, hb, _, hw⟩ := DataW.trod_int Try.underlying3 (hx i (by omega)).2
      exact ⟨b, by simpa using hb⟩)
    refine ⟨some a, cap, (List.range len).map b, by simp, ro_at (fun i hi => ?_), by simpa using hlen⟩
    have hi' : i < len := by simpa using hi
    rw [(hx i (by omega)).1, hb i hi']
    simp [List.getD_eq_getElem?_getD, hi']
/-- A coast in memory: its beaches lie where bs says. -/
structure CoastAt (W : World) (ao : Option Addr) (c : Nat) (j : Coast) (bs : Nat → Option Addr × Nat) : Prop where
  lt : j.length < 9223372036854775808
  cap : j.length ≤ c
  row : RoAt W ao ((List.range j.length).map fun k => .slice (bs k).1 (j.getD k []).length (bs k).2)
  be : ∀ k, k < j.length → RoAt W (bs k).1 (jobV (j.getD k [])) ∧ (j.getD k []).length ≤ (bs k).2
theorem open_coast {n : Nat} {v : Value} {x : DataW H × List MemPlace} (h : DataW.trod enc Try.prog W 0 sp true n 22 [v] = some x) :
    ∃ (ao : Option Addr) (c : Nat) (j : Coast) (bs : Nat → Option Addr × Nat), v = .slice ao j.length c ∧ CoastAt W ao c j bs := by
  rcases open_slice1 Try.underlying22 (by kernel_rfl) h with ⟨hcs, _⟩ | ⟨a, len, cap, m, f, V, D, Pl, hcs, _, hl, hmax, hm, _, hx⟩
  · cases hcs
    exact ⟨none, 0, [], fun _ => (none, 0), rfl, by simp, by simp, fun hne => absurd rfl hne, fun k hk => by simp at hk⟩
  · cases hcs
    have hlm : len ≤ m := by rw [hm]; split <;> omega
    have hlen : len < 9223372036854775808 := by unfold maxLen at hmax; omega
    obtain ⟨b, hb⟩ := choose_lt (α := (Option Addr × Nat) × List Job) (n := len) (p := fun i b => V i = .slice b.1.1 b.2.length b.1.2 ∧ RoAt W b.1.1 (jobV b.2) ∧ b.2.length ≤ b.1.2) (fun i hi => by
      obtain ⟨ao, c, l, e, h1, h2, _⟩ := open_jobs (hx i (by omega)).2
      exact ⟨((ao, c), l), e, h1, h2⟩)
    have hgd : ∀ k, k < len → ((List.range len).map fun i => (b i).2).getD k [] = (b k).2 := fun k hk => by simp [List.getD_eq_getElem?_getD, hk]
    refine ⟨some a, cap, (List.range len).map fun i => (b i).2, fun i => (b i).1, by simp, by simpa using hlen, by simpa using hl, ro_at (fun i hi => ?_), fun k hk => ?_⟩
    · have hi' : i < len := by simpa using hi
      rw [(hx i (by omega)).1, (hb i hi').1]
      simp [List.getD_eq_getElem?_getD, hi']
    · have hk' : k < len := by simpa using hk
      rw [hgd k hk']
      exact (hb k hk').2
set_option maxRecDepth 100000 in
theorem open_coastv {v : Value} {d : DataW H} {p : List MemPlace} {r : Reach} {b0 : Nat} (hv : Value.okWide Try.prog W r b0 22 v) (h : DataW.Trod enc Try.prog W 0 sp true 22 v d p) :
    ∃ (ao : Option Addr) (c : Nat) (j : Coast) (bs : Nat → Option Addr × Nat), v = .slice ao j.length c ∧ CoastAt W ao c j bs := by
  obtain ⟨fuel, hf⟩ := h
  obtain ⟨ao, n, cp, rfl⟩ := okWide_slice Try.underlying22 hv
  simp only [Value.cells] at hf
  exact open_coast hf
set_option maxRecDepth 100000 in
theorem open_intsv {v : Value} {d : DataW H} {p : List MemPlace} {r : Reach} {b0 : Nat} (hv : Value.okWide Try.prog W r b0 35 v) (h : DataW.Trod enc Try.prog W 0 sp true 35 v d p) :
    ∃ (po : Option Addr) (pc : Nat) (l : List Int), v = .slice po l.length pc ∧ RoAt W po (l.map (Value.int .i64)) ∧ l.length < 9223372036854775808 := by
  obtain ⟨fuel, hf⟩ := h
  obtain ⟨ao, n, cp, rfl⟩ := okWide_slice Try.underlying35 hv
  simp only [Value.cells] at hf
  exact open_ints35 hf
end
/-- Memory that comes in, with the room behind it. -/
theorem Hp.rosz {ρ : Env} {w : World} {L : List E} {nx : Nat} (h : ∀ e ∈ L, (∃ z, e.kd = .ro z ∧ (z = 0 ∨ e.cs.length ≤ (ρ e.lab).2 * z)) ∧ e.lab < nx ∧ (∀ c ∈ e.cs, c.wf nx) ∧ RoAt w (ρ e.lab).1 (e.cs.map (C.den ρ))) (hd : injB [] L = true) : Hp w.heap.size ρ w L nx := by
  refine ⟨Nat.le_refl _, fun e he => ?_, fun e he => ⟨(h e he).2.1, (h e he).2.2.1⟩, fun e he e' he' hl => injB_spec hd e he e' he' (.inl hl), fun e he e' he' hro => ?_⟩
  · obtain ⟨⟨z, h1, h2⟩, h3, h4, h5⟩ := h e he
    obtain ⟨lab, kd, cs⟩ := e
    simp only at h1 h2
    subst h1
    exact ⟨h5, h2⟩
  · obtain ⟨⟨z, h1, _⟩, _⟩ := h e he
    rw [h1] at hro; cases hro
theorem den_sls (ρ : Env) : ∀ (b : Nat) (j : Coast), (slsC b j).map (C.den ρ) = (List.range j.length).map fun k => Value.slice (ρ (b + k)).1 (j.getD k []).length (ρ (b + k)).2
  | b, [] => rfl
  | b, x :: r => by
    rw [List.length_cons, List.range_succ_eq_map, List.map_cons, List.map_map]
    simp only [slsC, List.map_cons]
    rw [den_sls ρ (b + 1) r]
    congr 1
    apply List.map_congr_left
    intro k _
    simp only [Function.comp]
    rw [show b + 1 + k = b + (k + 1) by omega]
    rfl
/-- Where the labels lie: the coast at 0, its beaches behind it, an order at o. -/
def coastE (o : Nat) (ao : Option Addr) (c : Nat) (bs : Nat → Option Addr × Nat) (po : Option Addr) (pc : Nat) : Env := fun l => if l = 0 then (ao, c) else if l = o then (po, pc) else bs (l - 1)
theorem coastE_be {o : Nat} {ao : Option Addr} {c : Nat} {bs : Nat → Option Addr × Nat} {po : Option Addr} {pc : Nat} {k : Nat} (h : 1 + k ≠ o) : coastE o ao c bs po pc (1 + k) = bs k := by
  unfold coastE; rw [if_neg (by omega), if_neg h, Nat.add_sub_cancel_left]
theorem coast_row {W : World} {ao : Option Addr} {c : Nat} {j : Coast} {bs : Nat → Option Addr × Nat} (h : CoastAt W ao c j bs) {o : Nat} {po : Option Addr} {pc : Nat} (ho : j.length < o) : RoAt W ao ((slsC 1 j).map (C.den (coastE o ao c bs po pc))) := by
  rw [den_sls]
  have e : ((List.range j.length).map fun k => Value.slice (coastE o ao c bs po pc (1 + k)).1 (j.getD k []).length (coastE o ao c bs po pc (1 + k)).2) = (List.range j.length).map fun k => .slice (bs k).1 (j.getD k []).length (bs k).2 := by
    apply List.map_congr_left
    intro k hk
    rw [coastE_be (by have := List.mem_range.1 hk; omega)]
  rw [e]; exact h.row
theorem hp_long {W : World} {ao : Option Addr} {c : Nat} {j : Coast} {bs : Nat → Option Addr × Nat} (h : CoastAt W ao c j bs) (po : Option Addr) (pc : Nat) : Hp W.heap.size (coastE (j.length + 31) ao c bs po pc) W [⟨0, .ro 1, slsC 1 j⟩] (j.length + 32) := by
  refine Hp.rosz (fun e he => ?_) rfl
  simp only [List.mem_cons, List.not_mem_nil, or_false] at he
  subst he
  refine ⟨⟨1, rfl, .inr ?_⟩, by simp only; omega, wf_sls _ _ _ (by omega), coast_row h (by omega)⟩
  have := h.cap
  simp only [slsC_len, coastE, if_true]; omega
theorem hp_ent {W : World} {ao : Option Addr} {c : Nat} {j : Coast} {bs : Nat → Option Addr × Nat} (h : CoastAt W ao c j bs) (hj : j.length ≤ 20) (po : Option Addr) (pc : Nat) : ∀ e ∈ (⟨0, .ro 1, slsC 1 j⟩ :: entC 1 j : List E), (∃ z, e.kd = .ro z ∧ (z = 0 ∨ e.cs.length ≤ (coastE 21 ao c bs po pc e.lab).2 * z)) ∧ e.lab < 32 ∧ (∀ c ∈ e.cs, c.wf 32) ∧ RoAt W (coastE 21 ao c bs po pc e.lab).1 (e.cs.map (C.den (coastE 21 ao c bs po pc))) := by
  intro e he
  rcases List.mem_cons.1 he with rfl | he
  · refine ⟨⟨1, rfl, .inr ?_⟩, by simp only; omega, wf_sls _ _ _ (by omega), coast_row h (by omega)⟩
    have := h.cap
    simp only [slsC_len, coastE, if_true]; omega
  · obtain ⟨k, hk, rfl⟩ := entC_mem he
    obtain ⟨h1, h2⟩ := h.be k hk
    refine ⟨⟨2, rfl, .inr ?_⟩, by simp only; omega, wf_jobs _ _, ?_⟩
    · simp only [jobC_len, coastE_be (show 1 + k ≠ 21 by omega)]; omega
    · simp only [coastE_be (show 1 + k ≠ 21 by omega)]
      rw [den_jobs]; exact h1
theorem hp_coast {W : World} {ao : Option Addr} {c : Nat} {j : Coast} {bs : Nat → Option Addr × Nat} (h : CoastAt W ao c j bs) (hj : Sized j) : Hp W.heap.size (coastE 21 ao c bs none 0) W (⟨0, .ro 1, slsC 1 j⟩ :: entC 1 j) 32 :=
  Hp.rosz (hp_ent h hj.len none 0) (injC hj)
theorem hp_order {W : World} {ao : Option Addr} {c : Nat} {j : Coast} {bs : Nat → Option Addr × Nat} (h : CoastAt W ao c j bs) (hj : Sized j) {o : List Int} {po : Option Addr} {pc : Nat} (ho : RoAt W po (o.map (Value.int .i64))) : Hp W.heap.size (coastE 21 ao c bs po pc) W (⟨0, .ro 1, slsC 1 j⟩ :: ⟨21, .ro 0, o.map C.i⟩ :: entC 1 j) 32 := by
  refine Hp.rosz (fun e he => ?_) (injO hj)
  rcases List.mem_cons.1 he with rfl | he
  · exact hp_ent h hj.len po pc _ (by simp)
  rcases List.mem_cons.1 he with rfl | he
  · refine ⟨⟨0, rfl, .inl rfl⟩, by simp only; omega, wf_ints _ _, ?_⟩
    rw [List.map_map]
    exact ho
  · exact hp_ent h hj.len po pc _ (by simp [he])
end Go.Proofs.Ytjijjncddjkdlaa

/- The law of the leads. -/
namespace Go.Proofs.Ytjijjncddjkdlaa
open Go.RowKit
set_option linter.unusedVariables false
set_option linter.unusedSimpArgs false
section
variable {n0 nx : Nat} {L : List E} {K : V → List E → Nat → Prop} {j : Coast}
theorem long_k (hj : j.length < 9223372036854775808) (hs : find L 0 = some ⟨0, .ro 1, slsC 1 j⟩) (hK : K (V.c (.bool (longB j))) [] nx) : CallK Try.prog n0 14 [V.c (.sl 0 j.length)] L nx K :=
  CallK.val (R := []) (long_any j hj) (by kernel_rfl) rfl (by simp [V.wf, A.wf, C.wf]) ⟨roE_id (Nat.succ_pos _) (wf_sls _ _ _ (by omega)) hs (.inr rfl) rfl, trivial⟩ rfl rfl trivial hK
theorem sane_k (hK : K (V.c (.bool true)) [] nx) : CallK Try.prog n0 15 [] L nx K :=
  CallK.val (R := []) sane_spec (by kernel_rfl) rfl (by simp) trivial rfl rfl trivial hK
end
theorem isTrue_any {f : FuncId} {vs : List V} {L : List E} {na : Nat} {ρ : Env} {w : World} {args : Array Value} (spec : Spec Try.prog f vs L na (Is (V.c (.bool true)))) (hp : Hp w.heap.size ρ w L na) (hv : ∀ v ∈ vs, v.wf na) (ha : (vs.map (V.den ρ)).toArray = args) :
    Calls Try.prog f args w fun e w' => e = .returned (.bool true) ∧ Below w.heap.size w w' := by
  subst ha
  refine (spec ρ w hp hv).mono ?_
  rintro e w' ⟨v, ρ', L', nx', rfl, h1, h2, h3, h4, h5, h6⟩
  exact ⟨by rw [h6 ρ']; rfl, h4⟩
theorem leadV_tup (j : Coast) (b f : Int) : ∃ p q r e, leadV j b f = .tup [.c (.i p), .agg [.i q, .i r], .c (.i e)] := by
  unfold leadV
  split
  · split
    · exact ⟨_, _, _, _, rfl⟩
    · exact ⟨_, _, _, _, rfl⟩
  · exact ⟨_, _, _, _, rfl⟩
theorem leads_long (j : Coast) (b f : Int) (hj : j.length < 9223372036854775808) (hl : longB j = true) :
    Spec Try.prog 3 [V.c (.sl 0 j.length), V.i b, V.i f] [⟨0, .ro 1, slsC 1 j⟩] (j.length + 32) (Is (V.c (.bool true))) := by
  refine Spec.of tok Try.func3 rfl rfl rfl fun n0 cx => vc_ok tok ?_
  repeat ((conv => whnf); first
      | (refine And.intro (by first | omega | exact Nat.le_of_ble_eq_true rfl | (dsimp only [inK]; omega) | (simp only [mulS_eq]; omega) | (simp only [mulS_eq, setL_length]; omega) | (simp only [setL_length, List.length_map]; omega) | exact ⟨by omega, by omega, by first | exact Nat.le_of_ble_eq_true rfl | (dsimp only; omega) | (simp only [setL_length]; omega) | (simp only [setL_length, List.length_map]; omega)⟩ | exact ⟨by omega, by first | rfl | omega, by omega, Nat.le_of_ble_eq_true rfl, Nat.le_of_ble_eq_true rfl⟩ | exact ⟨rfl, rfl, rfl, Nat.le_of_ble_eq_true rfl, by first | rfl | omega | exact Nat.le_of_ble_eq_true rfl | (simp; done) | (simp; omega), by first | rfl | omega | exact Nat.le_of_ble_eq_true rfl | (simp; done) | (simp; omega), by omega, Nat.le_of_ble_eq_true rfl⟩ | exact Eq.refl true) ?_)
      | (refine Exists.intro _ (And.intro rfl ?_))
      | (refine And.intro (And.intro rfl (chk_rowI _ _ _ _)) ?_)
      | (refine br_t (by omega) ?_)
      | (refine br_f (by omega) ?_)
      | (refine bs_t (by omega) ?_)
      | (refine bs_f (by omega) ?_)
      | (refine fun (K' : K3) hK' => ?_)
      | (refine hK' _ _ _ ?_; clear hK' K')
      | (refine draw_auto tok mixed (by kernel_rfl) ?_)
      | (refine long_k hj rfl ?_)
      | (refine br_bt hl ?_)
      | (refine sane_k ?_)
      | (refine CallK.m ?_)
      | (refine And.intro (And.intro rfl rfl) ?_))
  intro ρ; rfl
set_option maxRecDepth 10000 in
theorem leads_spec (j : Coast) (b f : Int) (hj : Sized j) (hl : longB j = false) (hbb : -9223372036854775808 ≤ b ∧ b ≤ 9223372036854775807) (hff : -9223372036854775808 ≤ f ∧ f ≤ 9223372036854775807) :
    Spec Try.prog 3 [V.c (.sl 0 j.length), V.i b, V.i f] (⟨0, .ro 1, slsC 1 j⟩ :: entC 1 j) 32 (Is (V.c (.bool true))) := by
  have hj20 := hj.len
  obtain ⟨p, q, r, e, hV⟩ := leadV_tup j b f
  have h1 := Lead_spec j hj b f hbb hff
  have h2 := rLead_spec j hj b f hbb hff
  rw [hV] at h1 h2
  refine Spec.of tok Try.func3 rfl rfl rfl fun n0 cx => vc_ok tok ?_
  repeat ((conv => whnf); first
      | (refine And.intro (by first | omega | exact Nat.le_of_ble_eq_true rfl | (dsimp only [inK]; omega) | (simp only [mulS_eq]; omega) | (simp only [mulS_eq, setL_length]; omega) | (simp only [setL_length, List.length_map]; omega) | exact ⟨by omega, by omega, by first | exact Nat.le_of_ble_eq_true rfl | (dsimp only; omega) | (simp only [setL_length]; omega) | (simp only [setL_length, List.length_map]; omega)⟩ | exact ⟨by omega, by first | rfl | omega, by omega, Nat.le_of_ble_eq_true rfl, Nat.le_of_ble_eq_true rfl⟩ | exact ⟨rfl, rfl, rfl, Nat.le_of_ble_eq_true rfl, by first | rfl | omega | exact Nat.le_of_ble_eq_true rfl | (simp; done) | (simp; omega), by first | rfl | omega | exact Nat.le_of_ble_eq_true rfl | (simp; done) | (simp; omega), by omega, Nat.le_of_ble_eq_true rfl⟩ | exact Eq.refl true) ?_)
      | (refine Exists.intro _ (And.intro rfl ?_))
      | (refine And.intro (And.intro rfl (chk_rowI _ _ _ _)) ?_)
      | (refine br_t (by omega) ?_)
      | (refine br_f (by omega) ?_)
      | (refine bs_t (by omega) ?_)
      | (refine bs_f (by omega) ?_)
      | (refine fun (K' : K3) hK' => ?_)
      | (refine hK' _ _ _ ?_; clear hK' K')
      | (refine draw_auto tok mixed (by kernel_rfl) ?_)
      | (refine long_k (by omega) rfl ?_)
      | (refine br_bf hl ?_)
      | (refine CallK.val (R := []) h1 (by kernel_rfl) rfl (by simp [V.wf, A.wf, C.wf, V.i]) (HasC.ro ⟨rfl, fun k hk => by (repeat rw [find_skip (by omega)]); exact entC_find hk⟩ hj) (injC hj) rfl (by simp [V.wf, A.wf, C.wf]) ?_)
      | (refine CallK.val (R := []) h2 (by kernel_rfl) rfl (by simp [V.wf, A.wf, C.wf, V.i]) (HasC.ro ⟨rfl, fun k hk => by (repeat rw [find_skip (by omega)]); exact entC_find hk⟩ hj) (injC hj) rfl (by simp [V.wf, A.wf, C.wf]) ?_)
      | (with_reducible refine updK_ent (by omega) ?_)
      | (refine bs_bt (by simp) ?_)
      | (refine br_bt (by simp) ?_)
      | (refine sane_k ?_)
      | (refine CallK.m ?_)
      | (refine And.intro (And.intro rfl rfl) ?_))
  intro ρ; rfl
theorem leads_any (j : Coast) (b f : Int) (ao : Option Addr) (c : Nat) (bs : Nat → Option Addr × Nat) (w : World) (h : CoastAt w ao c j bs) (hbb : -9223372036854775808 ≤ b ∧ b ≤ 9223372036854775807) (hff : -9223372036854775808 ≤ f ∧ f ≤ 9223372036854775807) :
    Calls Try.prog 3 #[.slice ao j.length c, .int .i64 b, .int .i64 f] w fun e w' => e = .returned (.bool true) ∧ Below w.heap.size w w' := by
  rcases bool_or (longB j) with hl | hl
  · exact isTrue_any (vs := [V.c (.sl 0 j.length), V.i b, V.i f]) (leads_spec j b f (longB_sized hl) hl hbb hff) (hp_coast h (longB_sized hl)) (by simp [V.wf, A.wf, C.wf, V.i]) rfl
  · exact isTrue_any (vs := [V.c (.sl 0 j.length), V.i b, V.i f]) (leads_long j b f h.lt hl) (hp_long h none 0) (by simp [V.wf, A.wf, C.wf, V.i]) rfl
end Go.Proofs.Ytjijjncddjkdlaa

