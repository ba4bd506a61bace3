/- Texts of the proof, part 5: G4, V6, N6, G5, G6, G7, L3, L8. -/
import Derived.Test.YtjijjncddjkdlaaJ4
import Derived.WalkKit
import Derived.Below
import Derived.Laws.OwnMore
import Derived.Maps.AppendAt
import Derived.Laws.IdiomCopy
import Derived.Laws.CopyRow
import Derived.IntWalk
import Derived.StillTail
import Derived.Scope
import Derived.ChangeKeysEq
import Derived.Laws.Small
import Derived.OrdersIn
import Derived.TacticsIn
import Derived.OwnWalkIn
import Derived.RangeFuncNested
import Derived.RangeFuncLeaves
import Derived.RangeFuncRecord
import Derived.Maps.Keyed
import Derived.Maps.RangeRun
import Derived.DeepKeys4
import Derived.Test.YtjijjncddjkdlaaRows
import Derived.KernelRfl
import Derived.ProofKit
import Derived.OpenShut
import Derived.Lib.SmallJoins
import Derived.Deep.Slices
import Derived.PlainAid
import Derived.StillTailTactics
import Derived.WalkSpells
import Derived.OwnWalk
import Derived.Lib.AppendZerosOnto
import Derived.Lib.AppendZeros
import Derived.Deep.AppendSrc
import Derived.Lib.SliceRun
import Derived.Lib.Walk
/- Shore: Free. -/
namespace Go.Proofs.Ytjijjncddjkdlaa
open Go.RowKit
set_option linter.unusedVariables false
set_option linter.unusedSimpArgs false
theorem valJ_spec (lc n nx : Nat) (L : List E) : SpecM Try.prog 73 [V.c (.sl lc n)] L nx (fun v L' nx' => v = V.c (.fn 82 [(nx, 0)]) ∧ L' = ⟨nx, .own 31, [.sl lc n]⟩ :: L ∧ nx' = nx + 1) := by
  refine SpecM.of tok Try.func73 rfl rfl rfl fun n0 cx => vc_ok tok ?_
  repeat ((conv => whnf); first | (refine And.intro (by first | omega | exact Nat.le_of_ble_eq_true rfl | (dsimp only [inK]; omega) | (simp only [mulS_eq]; omega) | (simp only [mulS_eq, setL_length]; omega) | (simp only [setL_length]; omega) | (simp only [setL_length, List.length_map]; omega) | (exact ⟨by omega, by omega, by first | exact Nat.le_of_ble_eq_true rfl | (dsimp only; omega) | (simp only [setL_length]; omega) | (simp only [setL_length, List.length_map]; omega)⟩) | (exact ⟨by omega, by first | rfl | omega, by omega, Nat.le_of_ble_eq_true rfl, Nat.le_of_ble_eq_true rfl⟩) | (exact ⟨rfl, rfl, rfl, Nat.le_of_ble_eq_true rfl, by first | rfl | omega | exact Nat.le_of_ble_eq_true rfl | (dsimp only; omega) | (simp; done) | (simp; omega), by first | rfl | omega | exact Nat.le_of_ble_eq_true rfl | (dsimp only; omega) | (simp; done) | (simp; omega), by omega, Nat.le_of_ble_eq_true rfl⟩) | exact Eq.refl true) ?_) | refine Exists.intro _ (And.intro rfl ?_) | refine And.intro (And.intro rfl (chk_rowI _ _ _ _)) ?_ | refine br_t (by omega) ?_ | refine br_f (by omega) ?_ | refine bs_t (by omega) ?_ | refine bs_f (by omega) ?_ | refine fun (K' : K3) hK' => ?_ | (refine hK' _ _ _ ?_; clear hK' K') | refine draw_auto tok mixed (by kernel_rfl) ?_ | refine bs_bt (Eq.refl true) ?_ | refine bs_bf (Eq.refl false) ?_ | refine br_bt (Eq.refl true) ?_ | refine br_bf (Eq.refl false) ?_ | refine CallK.m ?_ | refine Two.l ?_ | refine And.intro (And.intro rfl rfl) ?_)
  exact ⟨rfl, rfl, rfl⟩
theorem jobTk {l : List Job} {m : Nat} (h : m < l.length) : l.take (m + 1) = l.take m ++ [l.getD m (0, 0)] := take_succ_getD h
theorem CallK.rowJ1 {P : Program} {n0 nx nac : Nat} {f : FuncId} {vs vs' : List V} {Lc L : List E} {R : Rn} {K : V → List E → Nat → Prop} {l : List Job} (spec : Spec P f vs Lc nac (fun v L' _ => ∃ lab, v = V.c (.sl lab l.length) ∧ find L' lab = some ⟨lab, .vec 47 2, jobC l⟩)) (hok : callB P f = true)
    (hv : renVs R vs = some vs') (hvw : ∀ v ∈ vs, v.wf nac) (hL : roL R nac L Lc) (hLc : injB [] Lc = true)
    (hK : K (V.c (.sl nx l.length)) [⟨nx, .vec 47 2, jobC l⟩] (nx + 1)) : CallK P n0 f vs' L nx K := by
  refine CallK.mk' hok spec hv hvw hL hLc ?_
  rintro v L' nx' hw ⟨lab, rfl, hf⟩
  refine ⟨V.c (.sl nx l.length), [⟨nx, .vec 47 2, jobC l⟩], nx + 1, [(nx, some lab)], ⟨Nat.le_succ _, ?_, ?_, ⟨covE_some (renL_one _ _) (Nat.lt_succ_self nx) (wf_jobs _ _) hf (ren_jobs _ _), trivial⟩, rfl, ?_⟩, hK⟩
  · simp only [V.ren, A.ren, C.ren, renL_one]
  · simp only [V.chk, A.chk, C.chk]; exact inLab_one nx
  · simp only [List.all_cons, List.all_nil, Bool.and_true, inLab_one, Kd.isRo, Bool.not_false, Bool.true_and]
    exact chk_jobs _ _
set_option maxHeartbeats 4000000 in
set_option maxRecDepth 100000 in
theorem Free_spec (j : Coast) (hj : Sized j) : Spec Try.prog 40 [V.c (.sl 0 j.length)] (⟨0, .ro 1, slsC 1 j⟩ :: entC 1 j) 32 (fun v L' _ => rowsR 31 rowJ jobC List.length [] (freeR j) (freeE j) v L') := by
  have hj20 := hj.len
  have hlen := slsC_len (b := 1) (j := j)
  have hC := hasC0 hj
  cases hv : validL j with
  | false =>
    have e : freeE j = 60 := by simp [freeE, hv]
    simp only [freeR, e]
    refine Spec.of tok Try.func40 rfl rfl rfl fun n0 cx => vc_ok tok ?_
    repeat ((conv => whnf); first | (refine And.intro (by first | omega | exact Nat.le_of_ble_eq_true rfl | (dsimp only [inK]; omega) | (simp only [mulS_eq]; omega) | (simp only [mulS_eq, setL_length]; omega) | (simp only [setL_length]; omega) | (simp only [setL_length, List.length_map]; omega) | (exact ⟨by omega, by omega, by first | exact Nat.le_of_ble_eq_true rfl | (dsimp only; omega) | (simp only [setL_length]; omega) | (simp only [setL_length, List.length_map]; omega)⟩) | (exact ⟨by omega, by first | rfl | omega, by omega, Nat.le_of_ble_eq_true rfl, Nat.le_of_ble_eq_true rfl⟩) | (exact ⟨rfl, rfl, rfl, Nat.le_of_ble_eq_true rfl, by first | rfl | omega | exact Nat.le_of_ble_eq_true rfl | (dsimp only; omega) | (simp; done) | (simp; omega), by first | rfl | omega | exact Nat.le_of_ble_eq_true rfl | (dsimp only; omega) | (simp; done) | (simp; omega), by omega, Nat.le_of_ble_eq_true rfl⟩) | exact Eq.refl true) ?_) | refine Exists.intro _ (And.intro rfl ?_) | refine And.intro (And.intro rfl (chk_rowI _ _ _ _)) ?_ | refine br_t (by omega) ?_ | refine br_f (by omega) ?_ | refine bs_t (by omega) ?_ | refine bs_f (by omega) ?_ | refine fun (K' : K3) hK' => ?_ | (refine hK' _ _ _ ?_; clear hK' K') | refine CallM.eq (by kernel_rfl) (open_spec j hj _ _ hC) ?_ | refine draw_auto tok mixed (by kernel_rfl) ?_ | rw [hv] | refine bs_bt (Eq.refl true) ?_ | refine bs_bf (Eq.refl false) ?_ | refine br_bt (Eq.refl true) ?_ | refine br_bf (Eq.refl false) ?_ | refine CallK.m ?_ | refine Two.l ?_ | refine And.intro (And.intro rfl rfl) ?_)
    exact .inl ⟨rfl, rfl⟩
  | true =>
    have hc := validL_coast hj hv
    have h12 := validL_many hv
    have hfl : (flatJ j).length = manyN j j.length := flatP_len (Nat.le_refl _)
    have hcs := concat_spec j hj (fun b hb => (hc.jobs b hb).2) (by omega)
    by_cases hr : (1 : Int) ≤ (manyN j j.length : Nat) ∧ ((manyN j j.length : Nat) : Int) ≤ 6
    case neg =>
      have e5 : freeE j = 5 := by unfold freeE; rw [hv, if_pos rfl, if_neg (by omega)]
      simp only [freeR, e5]
      refine Spec.of tok Try.func40 rfl rfl rfl fun n0 cx => vc_ok tok ?_
      repeat ((conv => whnf); first | (refine And.intro (by first | omega | exact Nat.le_of_ble_eq_true rfl | (dsimp only [inK]; omega) | (simp only [mulS_eq]; omega) | (simp only [mulS_eq, setL_length]; omega) | (simp only [setL_length]; omega) | (simp only [setL_length, List.length_map]; omega) | (exact ⟨by omega, by omega, by first | exact Nat.le_of_ble_eq_true rfl | (dsimp only; omega) | (simp only [setL_length]; omega) | (simp only [setL_length, List.length_map]; omega)⟩) | (exact ⟨by omega, by first | rfl | omega, by omega, Nat.le_of_ble_eq_true rfl, Nat.le_of_ble_eq_true rfl⟩) | (exact ⟨rfl, rfl, rfl, Nat.le_of_ble_eq_true rfl, by first | rfl | omega | exact Nat.le_of_ble_eq_true rfl | (dsimp only; omega) | (simp; done) | (simp; omega), by first | rfl | omega | exact Nat.le_of_ble_eq_true rfl | (dsimp only; omega) | (simp; done) | (simp; omega), by omega, Nat.le_of_ble_eq_true rfl⟩) | exact Eq.refl true) ?_) | refine Exists.intro _ (And.intro rfl ?_) | refine And.intro (And.intro rfl (chk_rowI _ _ _ _)) ?_ | refine br_t (by omega) ?_ | refine br_f (by omega) ?_ | refine bs_t (by omega) ?_ | refine bs_f (by omega) ?_ | refine fun (K' : K3) hK' => ?_ | (refine hK' _ _ _ ?_; clear hK' K') | refine CallM.eq (by kernel_rfl) (open_spec j hj _ _ hC) ?_ | refine draw_auto tok mixed (by kernel_rfl) ?_ | rw [hv] | refine CallK.val (R := []) (many_spec j hj.len hj.be) (by kernel_rfl) rfl (by simp [V.wf, A.wf, C.wf]) ⟨roE_id (by omega) (wf_sls _ _ _ (by omega)) rfl (.inr rfl) rfl, trivial⟩ rfl rfl trivial ?_ | refine CallK.val (R := []) (between_spec _ _ _) (by kernel_rfl) rfl (by simp [V.wf, A.wf, C.wf, V.i]) trivial rfl rfl trivial ?_ | (refine bs_bt (by rw [decide_eq_false hr]; rfl) ?_) | (refine br_bt (by rw [decide_eq_false hr]; rfl) ?_) | refine bs_bt (Eq.refl true) ?_ | refine bs_bf (Eq.refl false) ?_ | refine br_bt (Eq.refl true) ?_ | refine br_bf (Eq.refl false) ?_ | refine CallK.m ?_ | refine Two.l ?_ | refine And.intro (And.intro rfl rfl) ?_)
      exact .inl ⟨rfl, rfl⟩
    have e0 : freeE j = 0 := by unfold freeE; rw [hv, if_pos rfl, if_pos (by omega)]
    simp only [freeR, e0, if_true]
    obtain ⟨fl, hfe⟩ : ∃ fl, fl = flatJ j := ⟨_, rfl⟩
    rw [← hfe] at hfl hcs ⊢
    obtain ⟨n, hn⟩ : ∃ n, n = fl.length := ⟨_, rfl⟩
    have hjf := jobC_len fl
    refine Spec.of tok Try.func40 rfl rfl rfl fun n0 cx => vc_ok tok ?_
    repeat ((conv => whnf); first | (refine And.intro (by first | omega | exact Nat.le_of_ble_eq_true rfl | (dsimp only [inK]; omega) | (simp only [mulS_eq]; omega) | (simp only [mulS_eq, setL_length]; omega) | (simp only [setL_length]; omega) | (simp only [setL_length, List.length_map]; omega) | (exact ⟨by omega, by omega, by first | exact Nat.le_of_ble_eq_true rfl | (dsimp only; omega) | (simp only [setL_length]; omega) | (simp only [setL_length, List.length_map]; omega)⟩) | (exact ⟨by omega, by first | rfl | omega, by omega, Nat.le_of_ble_eq_true rfl, Nat.le_of_ble_eq_true rfl⟩) | (exact ⟨rfl, rfl, rfl, Nat.le_of_ble_eq_true rfl, by first | rfl | omega | exact Nat.le_of_ble_eq_true rfl | (dsimp only; omega) | (simp; done) | (simp; omega), by first | rfl | omega | exact Nat.le_of_ble_eq_true rfl | (dsimp only; omega) | (simp; done) | (simp; omega), by omega, Nat.le_of_ble_eq_true rfl⟩) | exact Eq.refl true) ?_) | refine Exists.intro _ (And.intro rfl ?_) | refine And.intro (And.intro rfl (chk_rowI _ _ _ _)) ?_ | refine br_t (by omega) ?_ | refine br_f (by omega) ?_ | refine bs_t (by omega) ?_ | refine bs_f (by omega) ?_ | refine fun (K' : K3) hK' => ?_ | (refine hK' _ _ _ ?_; clear hK' K') | refine CallM.eq (by kernel_rfl) (open_spec j hj _ _ hC) ?_ | refine CallM.eq (by kernel_rfl) (valJ_spec _ _ _ _) ?_ | refine draw_auto tok mixed (by kernel_rfl) ?_ | rw [hv] | refine CallK.val (R := []) (many_spec j hj.len hj.be) (by kernel_rfl) rfl (by simp [V.wf, A.wf, C.wf]) ⟨roE_id (by omega) (wf_sls _ _ _ (by omega)) rfl (.inr rfl) rfl, trivial⟩ rfl rfl trivial ?_ | refine CallK.val (R := []) (between_spec _ _ _) (by kernel_rfl) rfl (by simp [V.wf, A.wf, C.wf, V.i]) trivial rfl rfl trivial ?_ | (refine bs_bf (by rw [decide_eq_true hr]; rfl) ?_) | (refine br_bf (by rw [decide_eq_true hr]; rfl) ?_) | refine CallK.rowJ1 (R := []) hcs (by kernel_rfl) rfl (by simp [V.wf, A.wf, C.wf]) (HasC.ro ⟨rfl, fun k hk => by (repeat (first | rw [find_skip (by omega)] | rw [find_hi (by omega) (by rfl)])); exact entC_find hk⟩ hj) (injC hj) ?_ | refine bs_bt (Eq.refl true) ?_ | refine bs_bf (Eq.refl false) ?_ | refine br_bt (Eq.refl true) ?_ | refine br_bf (Eq.refl false) ?_ | refine CallK.m ?_ | refine Two.l ?_ | refine And.intro (And.intro rfl rfl) ?_)
    refine Tri.rangeFunc tok (by exact rfl) (by kernel_rfl) (by exact rfl) (by exact rfl) (by exact rfl) (by exact rfl) (by exact rfl) (by exact rfl) ?_
    intro y cxi oo ob od hy hY
    refine vc_ok tok ?_
    repeat ((conv => whnf); first | (refine And.intro (by first | omega | exact Nat.le_of_ble_eq_true rfl | (dsimp only [inK]; omega) | (simp only [mulS_eq]; omega) | (simp only [mulS_eq, setL_length]; omega) | (simp only [setL_length]; omega) | (simp only [setL_length, List.length_map]; omega) | (exact ⟨by omega, by omega, by first | exact Nat.le_of_ble_eq_true rfl | (dsimp only; omega) | (simp only [setL_length]; omega) | (simp only [setL_length, List.length_map]; omega)⟩) | (exact ⟨by omega, by first | rfl | omega, by omega, Nat.le_of_ble_eq_true rfl, Nat.le_of_ble_eq_true rfl⟩) | (exact ⟨rfl, rfl, rfl, Nat.le_of_ble_eq_true rfl, by first | rfl | omega | exact Nat.le_of_ble_eq_true rfl | (dsimp only; omega) | (simp; done) | (simp; omega), by first | rfl | omega | exact Nat.le_of_ble_eq_true rfl | (dsimp only; omega) | (simp; done) | (simp; omega), by omega, Nat.le_of_ble_eq_true rfl⟩) | exact Eq.refl true) ?_) | refine Exists.intro _ (And.intro rfl ?_) | refine And.intro (And.intro rfl (chk_rowI _ _ _ _)) ?_ | refine br_t (by omega) ?_ | refine br_f (by omega) ?_ | refine bs_t (by omega) ?_ | refine bs_f (by omega) ?_ | refine fun (K' : K3) hK' => ?_ | (refine hK' _ _ _ ?_; clear hK' K') | refine draw_auto tok mixed (by kernel_rfl) ?_ | refine bs_bt (Eq.refl true) ?_ | refine bs_bf (Eq.refl false) ?_ | refine br_bt (Eq.refl true) ?_ | refine br_bf (Eq.refl false) ?_ | refine CallK.m ?_ | refine Two.l ?_ | refine And.intro (And.intro rfl rfl) ?_)
    rw [← hn]
    refine Tri.loop (γ := Nat) (fun m => m ≤ n) (fun m => [(0, V.c (.v y)), (5, V.c (.sl 33 n)), (6, V.i n), (7, V.i (m : Nat))])
      (fun m => ⟨39, .vec 31 1, famS List.length 40 (sglL (fl.take m))⟩ :: ⟨35, .obj oo, []⟩ :: ⟨34, .own 31, [.sl 33 n]⟩ :: ⟨33, .vec 47 2, jobC fl⟩ :: ⟨32, .own 22, [.sl 39 m]⟩ :: ⟨0, .ro 1, slsC 1 j⟩ :: (famE rowJ jobC 40 (sglL (fl.take m)) ++ entC 1 j)) 60 (fun m => n - m) 0 (R0 := [(39, none)]) ?_ ?_ ?_
    · exact Nat.zero_le _
    · have hR : ∀ l, l < 39 → renL [(39, none)] l = some l := fun l hl => renL_ne (by omega)
      have hT := tail_fam (kd := rowJ) (cs := jobC) (l := sglL []) (j := j) (by simp [sglL]) hj20
      rw [List.take_zero]
      refine ⟨?_, ?_, inj_null (p := [_, _, _, _, _, _]) hT rfl (by simp), rfl, by first | exact Nat.le_of_ble_eq_true rfl | omega⟩
      · repeat (first | exact trivial | (refine And.intro (covS_syn (by first | rfl | exact (rsl (hR _ (Nat.le_of_ble_eq_true rfl))).symm | exact (rptr (hR _ (Nat.le_of_ble_eq_true rfl))).symm) rfl (by first | exact trivial | exact Nat.le_of_ble_eq_true rfl | exact hy)) ?_))
      · repeat (first | exact cov_ent (fun k hk => hR _ (by omega)) (by omega) (fun k hk => by ((try (conv => lhs; arg 1; whnf)); (repeat (first | rw [find_skip (by omega)] | rw [find_hi (by omega) (by rfl)])); exact entC_find hk)) | refine And.intro (covE_nil rfl (Nat.le_of_ble_eq_true rfl) rfl rfl) ?_ | refine And.intro (covE_some (hR _ (Nat.le_of_ble_eq_true rfl)) (Nat.le_of_ble_eq_true rfl) (wf_jobs _ _) rfl (ren_jobs _ _)) ?_ | (refine And.intro (covE_some (hR _ (Nat.le_of_ble_eq_true rfl)) (Nat.le_of_ble_eq_true rfl) (by first | exact wf_ints _ _ | exact wf_bools _ _ | first | exact wf_sls _ _ _ (by omega) | exact wf_jobs _ _ | exact wf_famS _ _ _ (by omega) | simp [C.wf]) rfl (by first | exact ren_ints _ _ | exact ren_sls_of (fun l hl => hR l (by omega)) (by omega) | exact ren_sl1 (hR _ (Nat.le_of_ble_eq_true rfl)) | rfl | rfl)) ?_))
    · intro m hm
      refine vc_ok tok ?_
      have hT := tail_fam (kd := rowJ) (cs := jobC) (l := sglL (fl.take m)) (j := j) (by rw [sglL_len, List.length_take]; omega) hj20
      by_cases hlt : m < n
      · have hlf : m < fl.length := by omega
        repeat ((conv => whnf); first | (refine And.intro (by first | omega | exact Nat.le_of_ble_eq_true rfl | (dsimp only [inK]; omega) | (simp only [mulS_eq]; omega) | (simp only [mulS_eq, setL_length]; omega) | (simp only [setL_length]; omega) | (simp only [setL_length, List.length_map]; omega) | (exact ⟨by omega, by omega, by first | exact Nat.le_of_ble_eq_true rfl | (dsimp only; omega) | (simp only [setL_length]; omega) | (simp only [setL_length, List.length_map]; omega)⟩) | (exact ⟨by omega, by first | rfl | omega, by omega, Nat.le_of_ble_eq_true rfl, Nat.le_of_ble_eq_true rfl⟩) | (exact ⟨rfl, rfl, rfl, Nat.le_of_ble_eq_true rfl, by first | rfl | omega | exact Nat.le_of_ble_eq_true rfl | (dsimp only; omega) | (simp; done) | (simp; omega), by first | rfl | omega | exact Nat.le_of_ble_eq_true rfl | (dsimp only; omega) | (simp; done) | (simp; omega), by omega, Nat.le_of_ble_eq_true rfl⟩) | exact Eq.refl true) ?_) | with_reducible refine ld (jobT rfl hlf) ?_ | refine Exists.intro _ (And.intro rfl ?_) | refine And.intro (And.intro rfl (chk_rowI _ _ _ _)) ?_ | refine br_t (by omega) ?_ | refine br_f (by omega) ?_ | refine bs_t (by omega) ?_ | refine bs_f (by omega) ?_ | refine fun (K' : K3) hK' => ?_ | (refine hK' _ _ _ ?_; clear hK' K') | refine draw_auto tok mixed (by kernel_rfl) ?_ | with_reducible refine updK_tail hT rfl ?_ | with_reducible refine rmK_tail hT rfl ?_ | with_reducible refine visC_tail hT rfl ?_ | with_reducible refine relC_tail hT rfl ?_ | with_reducible refine updO_tail hT rfl ?_ | refine bs_bt (Eq.refl true) ?_ | refine bs_bf (Eq.refl false) ?_ | refine br_bt (Eq.refl true) ?_ | refine br_bf (Eq.refl false) ?_ | refine CallK.m ?_ | refine Two.l ?_ | refine And.intro (And.intro rfl rfl) ?_)
        refine hY _ _ _ _ (Nat.le_of_ble_eq_true rfl) rfl ⟨rfl, trivial⟩ ?_
        intro cxb hcx
        refine vc_ok tok ?_
        repeat ((conv => whnf); first | (refine And.intro (by first | omega | exact Nat.le_of_ble_eq_true rfl | (dsimp only [inK]; omega) | (simp only [mulS_eq]; omega) | (simp only [mulS_eq, setL_length]; omega) | (simp only [setL_length]; omega) | (simp only [setL_length, List.length_map]; omega) | (exact ⟨by omega, by omega, by first | exact Nat.le_of_ble_eq_true rfl | (dsimp only; omega) | (simp only [setL_length]; omega) | (simp only [setL_length, List.length_map]; omega)⟩) | (exact ⟨by omega, by first | rfl | omega, by omega, Nat.le_of_ble_eq_true rfl, Nat.le_of_ble_eq_true rfl⟩) | (exact ⟨rfl, rfl, rfl, Nat.le_of_ble_eq_true rfl, by first | rfl | omega | exact Nat.le_of_ble_eq_true rfl | (dsimp only; omega) | (simp; done) | (simp; omega), by first | rfl | omega | exact Nat.le_of_ble_eq_true rfl | (dsimp only; omega) | (simp; done) | (simp; omega), by omega, Nat.le_of_ble_eq_true rfl⟩) | exact Eq.refl true) ?_) | refine Exists.intro _ (And.intro rfl ?_) | refine And.intro (And.intro rfl (chk_rowI _ _ _ _)) ?_ | refine br_t (by omega) ?_ | refine br_f (by omega) ?_ | refine bs_t (by omega) ?_ | refine bs_f (by omega) ?_ | refine fun (K' : K3) hK' => ?_ | (refine hK' _ _ _ ?_; clear hK' K') | refine draw_auto tok mixed (by kernel_rfl) ?_ | with_reducible refine updK_tail hT rfl ?_ | with_reducible refine rmK_tail hT rfl ?_ | with_reducible refine visC_tail hT rfl ?_ | with_reducible refine relC_tail hT rfl ?_ | with_reducible refine updO_tail hT rfl ?_ | refine And.intro (Eq.refl oo) ?_ | refine bs_bt (Eq.refl true) ?_ | refine bs_bf (Eq.refl false) ?_ | refine br_bt (Eq.refl true) ?_ | refine br_bf (Eq.refl false) ?_ | refine CallK.m ?_ | refine Two.l ?_ | refine And.intro (And.intro rfl rfl) ?_)
        refine vc_ok tok ?_
        have hfam : (famS List.length 40 (sglL (fl.take m))).length = m := by rw [famS_len, sglL_len, List.length_take]; omega
        repeat ((conv => whnf); first | (refine And.intro (by first | omega | exact Nat.le_of_ble_eq_true rfl | (dsimp only [inK]; omega) | (simp only [mulS_eq]; omega) | (simp only [mulS_eq, setL_length]; omega) | (simp only [setL_length]; omega) | (simp only [setL_length, List.length_map]; omega) | (exact ⟨by omega, by omega, by first | exact Nat.le_of_ble_eq_true rfl | (dsimp only; omega) | (simp only [setL_length]; omega) | (simp only [setL_length, List.length_map]; omega)⟩) | (exact ⟨by omega, by first | rfl | omega, by omega, Nat.le_of_ble_eq_true rfl, Nat.le_of_ble_eq_true rfl⟩) | (exact ⟨rfl, rfl, rfl, Nat.le_of_ble_eq_true rfl, by first | rfl | omega | exact Nat.le_of_ble_eq_true rfl | (dsimp only; omega) | (simp; done) | (simp; omega), by first | rfl | omega | exact Nat.le_of_ble_eq_true rfl | (dsimp only; omega) | (simp; done) | (simp; omega), by omega, Nat.le_of_ble_eq_true rfl⟩) | exact Eq.refl true) ?_) | refine Exists.intro _ (And.intro rfl ?_) | refine And.intro (And.intro rfl (chk_rowI _ _ _ _)) ?_ | refine br_t (by omega) ?_ | refine br_f (by omega) ?_ | refine bs_t (by omega) ?_ | refine bs_f (by omega) ?_ | refine fun (K' : K3) hK' => ?_ | (refine hK' _ _ _ ?_; clear hK' K') | refine draw_auto tok mixed (by kernel_rfl) ?_ | with_reducible refine updK_tail hT rfl ?_ | with_reducible refine rmK_tail hT rfl ?_ | with_reducible refine visC_tail hT rfl ?_ | with_reducible refine relC_tail hT rfl ?_ | with_reducible refine updO_tail hT rfl ?_ | refine And.intro (Eq.refl ob) ?_ | refine bs_bt (Eq.refl true) ?_ | refine bs_bf (Eq.refl false) ?_ | refine br_bt (Eq.refl true) ?_ | refine br_bf (Eq.refl false) ?_ | refine CallK.m ?_ | refine Two.l ?_ | refine And.intro (And.intro rfl rfl) ?_)
        have htk := jobTk hlf
        have hsn := sglL_snoc (fl.take m) (fl.getD m (0, 0))
        rw [← htk] at hsn
        have hsl := sglL_len (fl.take m)
        have htl : (fl.take m).length = m := by rw [List.length_take]; omega
        have hT3 := tail_fam (kd := rowJ) (cs := jobC) (l := sglL (fl.take (m + 1))) (j := j) (by rw [sglL_len, List.length_take]; omega) hj20
        have hR : ∀ l, l < 39 → renL [(39, some 64), ((sglL (fl.take m)).length + 40, some 62)] l = some l := fun l hl => renL_two (by omega) (by omega)
        have hR2 : ∀ k, k < (sglL (fl.take m)).length → renL [(39, some 64), ((sglL (fl.take m)).length + 40, some 62)] (k + 40) = some (k + 40) := fun k hk => renL_two (by omega) (by omega)
        have hR3 : renL [(39, some 64), ((sglL (fl.take m)).length + 40, some 62)] ((sglL (fl.take m)).length + 40) = some 62 := renL_two2 (by omega)
        have hfs := famS_snoc (ln := List.length) (y := 62) (x := [fl.getD m (0, 0)]) hR2 hR3
        rw [← hsn] at hfs
        refine ⟨m + 1, [(39, some 64), ((sglL (fl.take m)).length + 40, some 62)], by omega, by omega, ?_⟩
        refine ⟨?_, ?_, inj_two (p := [_, _, _, _, _, _]) hT3 rfl (by simp) rfl rfl (by omega) (by simp) (by simp), rfl, by first | exact Nat.le_of_ble_eq_true rfl | omega⟩
        · repeat (first | exact trivial | (refine And.intro (covS_syn (by first | rfl | exact (rsl (hR _ (Nat.le_of_ble_eq_true rfl))).symm | exact (rptr (hR _ (Nat.le_of_ble_eq_true rfl))).symm | (refine congrArg some (congrArg V.i ?_); omega)) rfl (by first | exact trivial | exact Nat.le_of_ble_eq_true rfl | exact hy)) ?_))
        · repeat (first | ((rw [hsn]; exact covL_app (cov_snoc (d := []) plain_jobs (by omega) hR2 hR3 rfl (fun i' hi' => by (repeat rw [find_skip (by omega)]); exact tail_row hi')) (cov_ent (fun k hk => hR _ (by omega)) (by omega) (fun k hk => by (repeat rw [find_skip (by omega)]); exact tail_be hk hj20)))) | (refine And.intro (covE_some (l := 64) rfl (Nat.le_of_ble_eq_true rfl) (wf_famS _ _ _ (by rw [sglL_len, List.length_take]; omega)) rfl hfs) ?_) | refine And.intro (covE_some (hR _ (Nat.le_of_ble_eq_true rfl)) (Nat.le_of_ble_eq_true rfl) (wf_jobs _ _) rfl (ren_jobs _ _)) ?_ | (refine And.intro (covE_some (hR _ (Nat.le_of_ble_eq_true rfl)) (Nat.le_of_ble_eq_true rfl) (by first | exact wf_ints _ _ | exact wf_bools _ _ | first | exact wf_sls _ _ _ (by omega) | exact wf_jobs _ _ | exact wf_famS _ _ _ (by omega) | simp [C.wf]) rfl (by first | exact ren_ints _ _ | exact ren_sls_of (fun l hl => hR l (by omega)) (by omega) | exact ren_sl1 (hR _ (Nat.le_of_ble_eq_true rfl)) | rfl | rfl)) ?_))
      · obtain rfl : m = n := by omega
        have htk : fl.take m = fl := List.take_of_length_le (by omega)
        rw [htk] at hT ⊢
        repeat ((conv => whnf); first | (refine And.intro (by first | omega | exact Nat.le_of_ble_eq_true rfl | (dsimp only [inK]; omega) | (simp only [mulS_eq]; omega) | (simp only [mulS_eq, setL_length]; omega) | (simp only [setL_length]; omega) | (simp only [setL_length, List.length_map]; omega) | (exact ⟨by omega, by omega, by first | exact Nat.le_of_ble_eq_true rfl | (dsimp only; omega) | (simp only [setL_length]; omega) | (simp only [setL_length, List.length_map]; omega)⟩) | (exact ⟨by omega, by first | rfl | omega, by omega, Nat.le_of_ble_eq_true rfl, Nat.le_of_ble_eq_true rfl⟩) | (exact ⟨rfl, rfl, rfl, Nat.le_of_ble_eq_true rfl, by first | rfl | omega | exact Nat.le_of_ble_eq_true rfl | (dsimp only; omega) | (simp; done) | (simp; omega), by first | rfl | omega | exact Nat.le_of_ble_eq_true rfl | (dsimp only; omega) | (simp; done) | (simp; omega), by omega, Nat.le_of_ble_eq_true rfl⟩) | exact Eq.refl true) ?_) | refine Exists.intro _ (And.intro rfl ?_) | refine And.intro (And.intro rfl (chk_rowI _ _ _ _)) ?_ | refine br_t (by omega) ?_ | refine br_f (by omega) ?_ | refine bs_t (by omega) ?_ | refine bs_f (by omega) ?_ | refine fun (K' : K3) hK' => ?_ | (refine hK' _ _ _ ?_; clear hK' K') | refine draw_auto tok mixed (by kernel_rfl) ?_ | refine bs_bt (Eq.refl true) ?_ | refine bs_bf (Eq.refl false) ?_ | refine br_bt (Eq.refl true) ?_ | refine br_bf (Eq.refl false) ?_ | refine CallK.m ?_ | refine Two.l ?_ | refine And.intro (And.intro rfl rfl) ?_)
        refine Or.inl ?_
        repeat ((conv => whnf); first | (refine And.intro (by first | omega | exact Nat.le_of_ble_eq_true rfl | (dsimp only [inK]; omega) | (simp only [mulS_eq]; omega) | (simp only [mulS_eq, setL_length]; omega) | (simp only [setL_length]; omega) | (simp only [setL_length, List.length_map]; omega) | (exact ⟨by omega, by omega, by first | exact Nat.le_of_ble_eq_true rfl | (dsimp only; omega) | (simp only [setL_length]; omega) | (simp only [setL_length, List.length_map]; omega)⟩) | (exact ⟨by omega, by first | rfl | omega, by omega, Nat.le_of_ble_eq_true rfl, Nat.le_of_ble_eq_true rfl⟩) | (exact ⟨rfl, rfl, rfl, Nat.le_of_ble_eq_true rfl, by first | rfl | omega | exact Nat.le_of_ble_eq_true rfl | (dsimp only; omega) | (simp; done) | (simp; omega), by first | rfl | omega | exact Nat.le_of_ble_eq_true rfl | (dsimp only; omega) | (simp; done) | (simp; omega), by omega, Nat.le_of_ble_eq_true rfl⟩) | exact Eq.refl true) ?_) | refine Exists.intro _ (And.intro rfl ?_) | refine And.intro (And.intro rfl (chk_rowI _ _ _ _)) ?_ | refine br_t (by omega) ?_ | refine br_f (by omega) ?_ | refine bs_t (by omega) ?_ | refine bs_f (by omega) ?_ | refine fun (K' : K3) hK' => ?_ | (refine hK' _ _ _ ?_; clear hK' K') | refine draw_auto tok mixed (by kernel_rfl) ?_ | refine And.intro (Eq.refl oo) ?_ | with_reducible refine updK_tail hT rfl ?_ | with_reducible refine rmK_tail hT rfl ?_ | with_reducible refine visC_tail hT rfl ?_ | with_reducible refine relC_tail hT rfl ?_ | with_reducible refine updO_tail hT rfl ?_ | refine bs_bt (Eq.refl true) ?_ | refine bs_bf (Eq.refl false) ?_ | refine br_bt (Eq.refl true) ?_ | refine br_bf (Eq.refl false) ?_ | refine CallK.m ?_ | refine Two.l ?_ | refine And.intro (And.intro rfl rfl) ?_)
        exact .inr ⟨39, congrArg (C.sl 39) (hn.trans (sglL_len fl).symm), rfl, fun k hk => by (repeat rw [find_skip (by omega)]); exact tail_row hk⟩
end Go.Proofs.Ytjijjncddjkdlaa

/- The pairs' bound is below the harm of each order; jobs turned round have the same harm backwards. Plain law. -/
namespace Go.Proofs.Ytjijjncddjkdlaa
open Go.RowKit
set_option linter.unusedVariables false
set_option linter.unusedSimpArgs false
def minJ (x y : Job) : Int := if y.1 * x.2 < x.1 * y.2 then y.1 * x.2 else x.1 * y.2
def P1 (x : Job) (m : List Job) : Int := (m.map (minJ x)).sum
def PP (l m : List Job) : Int := (l.map fun x => P1 x m).sum
/-- The bound of what is left. -/
def BR (j : Coast) (f : Nat → Nat) : Int := sumZ j.length fun b => costS 0 (remC j f b) + sumZ b fun c => PP (remC j f b) (remC j f c)
theorem CoastOk.pos {j : Coast} (hj : CoastOk j) : ∀ c, c < j.length → ∀ x ∈ j.getD c [], 0 ≤ x.1 ∧ 0 ≤ x.2 := fun c hc x hx => by
  have := (hj.jobs c hc).1.mem hx; omega
/-- Turned round. -/
theorem turnJ_len {j : Coast} : (turnJ j).length = j.length := turnL_len
theorem tpart_full (l : List Job) : tpart l l.length = l.reverse.map swapJ := by
  unfold tpart
  rw [List.take_of_length_le (by simp)]
theorem turnJ_get {j : Coast} {b : Nat} (hb : b < j.length) : (turnJ j).getD b [] = (j.getD b []).reverse.map swapJ := by
  unfold turnJ; rw [turnL_get hb, if_pos hb, tpart_full]
theorem turn_sized {j : Coast} (hj : Sized j) : Sized (turnJ j) :=
  ⟨by rw [turnJ_len]; exact hj.len, fun k hk => by rw [turnJ_len] at hk; rw [turnJ_get hk, List.length_map, List.length_reverse]; exact hj.be k hk⟩
end Go.Proofs.Ytjijjncddjkdlaa

/- Shore: lists backwards; calls on beaches turned round. -/
namespace Go.Proofs.Ytjijjncddjkdlaa
open Go.RowKit
set_option linter.unusedVariables false
set_option linter.unusedSimpArgs false
/-- Names of beaches that lie as rows of one's own. -/
def turR (lab oa n B : Nat) : Rn := (0, some lab) :: (21, some oa) :: shiftR 1 B n
theorem turR_be {lab oa n B i : Nat} (hi : i < n) (hn : n ≤ 20) : renL (turR lab oa n B) (1 + i) = some (i + B) := by
  simp only [turR, renL, beq_ne (show 0 ≠ 1 + i by omega), beq_ne (show 21 ≠ 1 + i by omega), cond_false]
  rw [renL_shift, if_pos (by omega)]
  congr 1; omega
theorem turR_sls {lab oa n B : Nat} (hn : n ≤ 20) : ∀ {m : Nat} {t : Coast}, m + t.length ≤ n → seqO ((slsC (1 + m) t).map (C.ren (turR lab oa n B))) = some (famS List.length (m + B) t)
  | m, [], _ => rfl
  | m, x :: r, h => by
    simp only [List.length_cons] at h
    have ih := turR_sls (lab := lab) (oa := oa) (B := B) hn (m := m + 1) (t := r) (by omega)
    simp only [slsC, List.map_cons, C.ren, turR_be (show m < n by omega) hn, seqO, famS]
    rw [show 1 + m + 1 = 1 + (m + 1) by omega, ih, show m + 1 + B = m + B + 1 by omega]
structure HasT (L : List E) (lab B : Nat) (t : Coast) : Prop where
  sl : find L lab = some ⟨lab, .vec 31 1, famS List.length B t⟩
  be : ∀ i, i < t.length → find L (i + B) = some ⟨i + B, rowJ, jobC (t.getD i [])⟩
theorem HasT.ro {L : List E} {lab B oa : Nat} {t : Coast} {o : List Int} {ko : Kd} (h : HasT L lab B t) (ht : Sized t) (ho : find L oa = some ⟨oa, ko, o.map C.i⟩) : roL (turR lab oa t.length B) 32 L (⟨0, .ro 1, slsC 1 t⟩ :: ⟨21, .ro 0, o.map C.i⟩ :: entC 1 t) := by
  have := ht.len
  have hs := turR_sls (lab := lab) (oa := oa) (B := B) ht.len (m := 0) (t := t) (by omega)
  rw [Nat.zero_add] at hs
  refine ⟨⟨Nat.le_of_ble_eq_true rfl, wf_sls _ _ _ (by omega), .vec 31 1, _, h.sl, .inr rfl, hs⟩, ⟨Nat.le_of_ble_eq_true rfl, wf_ints _ _, ko, _, ho, .inl rfl, ren_ints _ _⟩, roL_all fun e he => ?_⟩
  obtain ⟨i, hi, rfl⟩ := entC_mem he
  unfold roE
  simp only [turR_be hi ht.len]
  exact ⟨by omega, wf_jobs _ _, rowJ, _, h.be i hi, .inr rfl, ren_jobs _ _⟩
end Go.Proofs.Ytjijjncddjkdlaa

/- Shore: the reference's Same, where both lists are the same. -/
namespace Go.Proofs.Ytjijjncddjkdlaa
open Go.RowKit
set_option linter.unusedVariables false
set_option linter.unusedSimpArgs false
theorem two_1 {j : Coast} {k : Nat} (hk : k < j.length) : find (entC 1 j ++ entC 22 j) (1 + k) = some ⟨1 + k, .ro 2, jobC (j.getD k [])⟩ := find_app_some (entC_find hk)
theorem two_2 {j : Coast} {k : Nat} (hk : k < j.length) (hj : j.length ≤ 20) : find (entC 1 j ++ entC 22 j) (22 + k) = some ⟨22 + k, .ro 2, jobC (j.getD k [])⟩ := by
  rw [find_app (fun e he => ?_)]
  · exact entC_find hk
  · obtain ⟨i, hi, rfl⟩ := entC_mem he
    simp only; omega
theorem slLb {b : Nat} {j : Coast} {k : Nat} {z : Int} (hz : z = k) (h : k < j.length) : (slsC b j)[mulS z.toNat 1]? = some (C.sl (b + k) (j.getD k []).length) := by
  subst hz; rw [mulS_eq]; simpa using slsC_get h
theorem inj_same {j : Coast} (hj : j.length ≤ 20) : injB [] (⟨0, .ro 1, slsC 1 j⟩ :: ⟨21, .ro 1, slsC 22 j⟩ :: (entC 1 j ++ entC 22 j)) = true := by
  refine injB_gen (by simp) ?_ (by simp)
  simp only [List.map_cons, List.map_append, entC_labs, List.nodup_cons, List.mem_cons, List.mem_append, List.mem_range'_1]
  refine ⟨by omega, by omega, List.nodup_append.2 ⟨range_nd _ _, range_nd _ _, fun a ha b hb => ?_⟩⟩
  have := List.mem_range'_1.1 ha
  have := List.mem_range'_1.1 hb
  omega
theorem cov_same {j : Coast} {x y : E} (hj : j.length ≤ 20) (hx : x.lab = 0) (hy : y.lab = 21) : covL [] 43 (x :: y :: (entC 1 j ++ entC 22 j)) (entC 1 j ++ entC 22 j) := by
  obtain ⟨lx, kx, cx⟩ := x
  obtain ⟨ly, ky, cy⟩ := y
  simp only at hx hy
  subst hx hy
  refine covL_app (cov_ent (fun k hk => rfl) (by omega) fun k hk => ?_) (cov_ent (fun k hk => rfl) (by omega) fun k hk => ?_)
  · rw [find_skip (by omega), find_skip (by omega)]; exact two_1 hk
  · rw [find_skip (by omega), find_skip (by omega)]; exact two_2 hk hj
set_option maxHeartbeats 2000000 in
set_option maxRecDepth 100000 in
theorem same_spec (j : Coast) (hj : Sized j) (hl : ∀ b, b < j.length → (j.getD b []).length ≤ 100) : Spec Try.prog 44 [V.c (.sl 0 j.length), V.c (.sl 21 j.length)] (⟨0, .ro 1, slsC 1 j⟩ :: ⟨21, .ro 1, slsC 22 j⟩ :: (entC 1 j ++ entC 22 j)) 43 (Is (V.c (.bool true))) := by
  have hj20 := hj.len
  have hs1 := slsC_len (b := 1) (j := j)
  have hs2 := slsC_len (b := 22) (j := j)
  have hne : ¬ ((j.length : Nat) : Int) ≠ (j.length : Nat) := fun h => h rfl
  refine Spec.of tok Try.func44 rfl rfl rfl fun n0 cx => vc_ok tok ?_
  repeat ((conv => whnf); first | (refine And.intro (by first | omega | exact Nat.le_of_ble_eq_true rfl | (dsimp only [inK]; omega) | (simp only [mulS_eq]; omega) | (simp only [mulS_eq, setL_length]; omega) | (simp only [setL_length]; omega) | (simp only [setL_length, List.length_map]; omega) | (exact ⟨by omega, by omega, by first | exact Nat.le_of_ble_eq_true rfl | (dsimp only; omega) | (simp only [setL_length]; omega) | (simp only [setL_length, List.length_map]; omega)⟩) | (exact ⟨by omega, by first | rfl | omega, by omega, Nat.le_of_ble_eq_true rfl, Nat.le_of_ble_eq_true rfl⟩) | (exact ⟨rfl, rfl, rfl, Nat.le_of_ble_eq_true rfl, by first | rfl | omega | exact Nat.le_of_ble_eq_true rfl | (dsimp only; omega) | (simp; done) | (simp; omega), by first | rfl | omega | exact Nat.le_of_ble_eq_true rfl | (dsimp only; omega) | (simp; done) | (simp; omega), by omega, Nat.le_of_ble_eq_true rfl⟩) | exact Eq.refl true) ?_) | refine Exists.intro _ (And.intro rfl ?_) | refine And.intro (And.intro rfl (chk_rowI _ _ _ _)) ?_ | refine br_t (by omega) ?_ | refine br_f (by omega) ?_ | refine bs_t (by omega) ?_ | refine bs_f (by omega) ?_ | refine fun (K' : K3) hK' => ?_ | (refine hK' _ _ _ ?_; clear hK' K') | refine draw_auto tok mixed (by kernel_rfl) ?_ | refine bs_f hne ?_ | refine br_f hne ?_ | refine bs_bt (Eq.refl true) ?_ | refine bs_bf (Eq.refl false) ?_ | refine br_bt (Eq.refl true) ?_ | refine br_bf (Eq.refl false) ?_ | refine CallK.m ?_ | refine Two.l ?_ | refine And.intro (And.intro rfl rfl) ?_)
  refine Tri.loop (γ := Nat) (fun b => b ≤ j.length) (fun b => [(0, V.c (.sl 0 j.length)), (1, V.c (.sl 21 j.length)), (5, V.i (b : Nat))])
    (fun b => ⟨0, .ro 1, slsC 1 j⟩ :: ⟨21, .ro 1, slsC 22 j⟩ :: (entC 1 j ++ entC 22 j)) 43 (fun b => j.length - b) 0 (R0 := []) ?_ ?_ ?_
  · omega
  · have hI : injB [] (⟨0, .ro 1, slsC 1 j⟩ :: ⟨21, .ro 1, slsC 22 j⟩ :: (entC 1 j ++ entC 22 j)) = true := inj_same hj20
    have hcv := cov_same (j := j) (x := ⟨0, .ro 1, slsC 1 j⟩) (y := ⟨21, .ro 1, slsC 22 j⟩) hj20 rfl rfl
    refine ⟨?_, ?_, hI, rfl, by first | exact Nat.le_of_ble_eq_true rfl | omega⟩
    · repeat (first | exact trivial | (refine And.intro (covS_syn (by first | rfl | exact (rsl (hR _ (Nat.le_of_ble_eq_true rfl))).symm | exact (rptr (hR _ (Nat.le_of_ble_eq_true rfl))).symm) rfl (by first | exact trivial | exact Nat.le_of_ble_eq_true rfl | exact hy)) ?_))
    · repeat (first | exact hcv | refine And.intro (covE_some (l := 21) rfl (Nat.le_of_ble_eq_true rfl) (wf_sls _ _ _ (by omega)) rfl seqO_id) ?_ | refine And.intro (covE_some (l := 0) rfl (Nat.le_of_ble_eq_true rfl) (wf_sls _ _ _ (by omega)) rfl seqO_id) ?_ | (refine And.intro (covE_some (hR _ (Nat.le_of_ble_eq_true rfl)) (Nat.le_of_ble_eq_true rfl) (by first | exact wf_ints _ _ | exact wf_bools _ _ | first | exact wf_sls _ _ _ (by omega) | exact wf_jobs _ _ | exact wf_famS _ _ _ (by omega) | simp [C.wf]) rfl (by first | exact ren_ints _ _ | exact ren_sls_of (fun l hl => hR l (by omega)) (by omega) | exact ren_sl1 (hR _ (Nat.le_of_ble_eq_true rfl)) | fail | rfl)) ?_))
  · intro b hb
    refine vc_ok tok ?_
    by_cases hlt : b < j.length
    · have hjl := jobC_len (j.getD b [])
      have hbl := hl b hlt
      have hne2 : ¬ (((j.getD b []).length : Nat) : Int) ≠ ((j.getD b []).length : Nat) := fun h => h rfl
      have hf1 := two_1 (j := j) hlt
      have hf2 := two_2 (j := j) hlt hj20
      repeat ((conv => whnf); first | (refine And.intro (by first | omega | exact Nat.le_of_ble_eq_true rfl | (dsimp only [inK]; omega) | (simp only [mulS_eq]; omega) | (simp only [mulS_eq, setL_length]; omega) | (simp only [setL_length]; omega) | (simp only [setL_length, List.length_map]; omega) | (exact ⟨by omega, by omega, by first | exact Nat.le_of_ble_eq_true rfl | (dsimp only; omega) | (simp only [setL_length]; omega) | (simp only [setL_length, List.length_map]; omega)⟩) | (exact ⟨by omega, by first | rfl | omega, by omega, Nat.le_of_ble_eq_true rfl, Nat.le_of_ble_eq_true rfl⟩) | (exact ⟨rfl, rfl, rfl, Nat.le_of_ble_eq_true rfl, by first | rfl | omega | exact Nat.le_of_ble_eq_true rfl | (dsimp only; omega) | (simp; done) | (simp; omega), by first | rfl | omega | exact Nat.le_of_ble_eq_true rfl | (dsimp only; omega) | (simp; done) | (simp; omega), by omega, Nat.le_of_ble_eq_true rfl⟩) | exact Eq.refl true) ?_) | with_reducible refine ld (slLb rfl hlt) ?_ | refine Exists.intro _ (And.intro rfl ?_) | refine And.intro (And.intro rfl (chk_rowI _ _ _ _)) ?_ | refine br_t (by omega) ?_ | refine br_f (by omega) ?_ | refine bs_t (by omega) ?_ | refine bs_f (by omega) ?_ | refine fun (K' : K3) hK' => ?_ | (refine hK' _ _ _ ?_; clear hK' K') | refine draw_auto tok mixed (by kernel_rfl) ?_ | refine bs_f hne2 ?_ | refine br_f hne2 ?_ | refine bs_bt (Eq.refl true) ?_ | refine bs_bf (Eq.refl false) ?_ | refine br_bt (Eq.refl true) ?_ | refine br_bf (Eq.refl false) ?_ | refine CallK.m ?_ | refine Two.l ?_ | refine And.intro (And.intro rfl rfl) ?_)
      refine Tri.loop (γ := Nat) (fun i => i ≤ (j.getD b []).length) (fun i => [(0, V.c (.sl 0 j.length)), (1, V.c (.sl 21 j.length)), (5, V.i (b : Nat)), (6, V.i (i : Nat))])
        (fun i => ⟨0, .ro 1, slsC 1 j⟩ :: ⟨21, .ro 1, slsC 22 j⟩ :: (entC 1 j ++ entC 22 j)) 43 (fun i => (j.getD b []).length - i) 0 (R0 := []) ?_ ?_ ?_
      · omega
      · have hI : injB [] (⟨0, .ro 1, slsC 1 j⟩ :: ⟨21, .ro 1, slsC 22 j⟩ :: (entC 1 j ++ entC 22 j)) = true := inj_same hj20
        have hcv := cov_same (j := j) (x := ⟨0, .ro 1, slsC 1 j⟩) (y := ⟨21, .ro 1, slsC 22 j⟩) hj20 rfl rfl
        refine ⟨?_, ?_, hI, rfl, by first | exact Nat.le_of_ble_eq_true rfl | omega⟩
        · repeat (first | exact trivial | (refine And.intro (covS_syn (by first | rfl | exact (rsl (hR _ (Nat.le_of_ble_eq_true rfl))).symm | exact (rptr (hR _ (Nat.le_of_ble_eq_true rfl))).symm) rfl (by first | exact trivial | exact Nat.le_of_ble_eq_true rfl | exact hy)) ?_))
        · repeat (first | exact hcv | refine And.intro (covE_some (l := 21) rfl (Nat.le_of_ble_eq_true rfl) (wf_sls _ _ _ (by omega)) rfl seqO_id) ?_ | refine And.intro (covE_some (l := 0) rfl (Nat.le_of_ble_eq_true rfl) (wf_sls _ _ _ (by omega)) rfl seqO_id) ?_ | (refine And.intro (covE_some (hR _ (Nat.le_of_ble_eq_true rfl)) (Nat.le_of_ble_eq_true rfl) (by first | exact wf_ints _ _ | exact wf_bools _ _ | first | exact wf_sls _ _ _ (by omega) | exact wf_jobs _ _ | exact wf_famS _ _ _ (by omega) | simp [C.wf]) rfl (by first | exact ren_ints _ _ | exact ren_sls_of (fun l hl => hR l (by omega)) (by omega) | exact ren_sl1 (hR _ (Nat.le_of_ble_eq_true rfl)) | fail | rfl)) ?_))
      · intro i hi
        refine vc_ok tok ?_
        have hI : injB [] (⟨0, .ro 1, slsC 1 j⟩ :: ⟨21, .ro 1, slsC 22 j⟩ :: (entC 1 j ++ entC 22 j)) = true := inj_same hj20
        have hcv := cov_same (j := j) (x := ⟨0, .ro 1, slsC 1 j⟩) (y := ⟨21, .ro 1, slsC 22 j⟩) hj20 rfl rfl
        by_cases hil : i < (j.getD b []).length
        · repeat ((conv => whnf); first | (refine And.intro (by first | omega | exact Nat.le_of_ble_eq_true rfl | (dsimp only [inK]; omega) | (simp only [mulS_eq]; omega) | (simp only [mulS_eq, setL_length]; omega) | (simp only [setL_length]; omega) | (simp only [setL_length, List.length_map]; omega) | (exact ⟨by omega, by omega, by first | exact Nat.le_of_ble_eq_true rfl | (dsimp only; omega) | (simp only [setL_length]; omega) | (simp only [setL_length, List.length_map]; omega)⟩) | (exact ⟨by omega, by first | rfl | omega, by omega, Nat.le_of_ble_eq_true rfl, Nat.le_of_ble_eq_true rfl⟩) | (exact ⟨rfl, rfl, rfl, Nat.le_of_ble_eq_true rfl, by first | rfl | omega | exact Nat.le_of_ble_eq_true rfl | (dsimp only; omega) | (simp; done) | (simp; omega), by first | rfl | omega | exact Nat.le_of_ble_eq_true rfl | (dsimp only; omega) | (simp; done) | (simp; omega), by omega, Nat.le_of_ble_eq_true rfl⟩) | exact Eq.refl true) ?_) | with_reducible refine ld (slLb rfl hlt) ?_ | with_reducible refine ld (jobT rfl hil) ?_ | refine Exists.intro _ (And.intro rfl ?_) | refine And.intro (And.intro rfl (chk_rowI _ _ _ _)) ?_ | refine br_t (by omega) ?_ | refine br_f (by omega) ?_ | refine bs_t (by omega) ?_ | refine bs_f (by omega) ?_ | refine fun (K' : K3) hK' => ?_ | (refine hK' _ _ _ ?_; clear hK' K') | refine draw_auto tok mixed (by kernel_rfl) ?_ | (refine onV_ld (c := ⟨1 + b, .ro 2, jobC (j.getD b [])⟩) (by (try (conv => lhs; arg 1; whnf)); (repeat (first | rw [find_skip (by omega)])); exact hf1) ?_) | (refine onV_ld (c := ⟨22 + b, .ro 2, jobC (j.getD b [])⟩) (by (try (conv => lhs; arg 1; whnf)); (repeat (first | rw [find_skip (by omega)])); exact hf2) ?_) | refine br_bf (by simp) ?_ | refine bs_bt (Eq.refl true) ?_ | refine bs_bf (Eq.refl false) ?_ | refine br_bt (Eq.refl true) ?_ | refine br_bf (Eq.refl false) ?_ | refine CallK.m ?_ | refine Two.l ?_ | refine And.intro (And.intro rfl rfl) ?_)
          refine ⟨i + 1, [], by omega, by omega, ?_⟩
          refine ⟨?_, ?_, hI, rfl, by first | exact Nat.le_of_ble_eq_true rfl | omega⟩
          · repeat (first | exact trivial | (refine And.intro (covS_syn (by first | rfl | exact (rsl (hR _ (Nat.le_of_ble_eq_true rfl))).symm | exact (rptr (hR _ (Nat.le_of_ble_eq_true rfl))).symm | (refine congrArg some (congrArg V.i ?_); omega)) rfl (by first | exact trivial | exact Nat.le_of_ble_eq_true rfl | exact hy)) ?_))
          · repeat (first | exact hcv | refine And.intro (covE_some (l := 21) rfl (Nat.le_of_ble_eq_true rfl) (wf_sls _ _ _ (by omega)) rfl seqO_id) ?_ | refine And.intro (covE_some (l := 0) rfl (Nat.le_of_ble_eq_true rfl) (wf_sls _ _ _ (by omega)) rfl seqO_id) ?_ | (refine And.intro (covE_some (hR _ (Nat.le_of_ble_eq_true rfl)) (Nat.le_of_ble_eq_true rfl) (by first | exact wf_ints _ _ | exact wf_bools _ _ | first | exact wf_sls _ _ _ (by omega) | exact wf_jobs _ _ | exact wf_famS _ _ _ (by omega) | simp [C.wf]) rfl (by first | exact ren_ints _ _ | exact ren_sls_of (fun l hl => hR l (by omega)) (by omega) | exact ren_sl1 (hR _ (Nat.le_of_ble_eq_true rfl)) | fail | rfl)) ?_))
        · obtain rfl : i = (j.getD b []).length := by omega
          repeat ((conv => whnf); first | (refine And.intro (by first | omega | exact Nat.le_of_ble_eq_true rfl | (dsimp only [inK]; omega) | (simp only [mulS_eq]; omega) | (simp only [mulS_eq, setL_length]; omega) | (simp only [setL_length]; omega) | (simp only [setL_length, List.length_map]; omega) | (exact ⟨by omega, by omega, by first | exact Nat.le_of_ble_eq_true rfl | (dsimp only; omega) | (simp only [setL_length]; omega) | (simp only [setL_length, List.length_map]; omega)⟩) | (exact ⟨by omega, by first | rfl | omega, by omega, Nat.le_of_ble_eq_true rfl, Nat.le_of_ble_eq_true rfl⟩) | (exact ⟨rfl, rfl, rfl, Nat.le_of_ble_eq_true rfl, by first | rfl | omega | exact Nat.le_of_ble_eq_true rfl | (dsimp only; omega) | (simp; done) | (simp; omega), by first | rfl | omega | exact Nat.le_of_ble_eq_true rfl | (dsimp only; omega) | (simp; done) | (simp; omega), by omega, Nat.le_of_ble_eq_true rfl⟩) | exact Eq.refl true) ?_) | with_reducible refine ld (slLb rfl hlt) ?_ | refine Exists.intro _ (And.intro rfl ?_) | refine And.intro (And.intro rfl (chk_rowI _ _ _ _)) ?_ | refine br_t (by omega) ?_ | refine br_f (by omega) ?_ | refine bs_t (by omega) ?_ | refine bs_f (by omega) ?_ | refine fun (K' : K3) hK' => ?_ | (refine hK' _ _ _ ?_; clear hK' K') | refine draw_auto tok mixed (by kernel_rfl) ?_ | refine bs_bt (Eq.refl true) ?_ | refine bs_bf (Eq.refl false) ?_ | refine br_bt (Eq.refl true) ?_ | refine br_bf (Eq.refl false) ?_ | refine CallK.m ?_ | refine Two.l ?_ | refine And.intro (And.intro rfl rfl) ?_)
          refine ⟨b + 1, [], by omega, by omega, ?_⟩
          refine ⟨?_, ?_, hI, rfl, by first | exact Nat.le_of_ble_eq_true rfl | omega⟩
          · repeat (first | exact trivial | (refine And.intro (covS_syn (by first | rfl | exact (rsl (hR _ (Nat.le_of_ble_eq_true rfl))).symm | exact (rptr (hR _ (Nat.le_of_ble_eq_true rfl))).symm | (refine congrArg some (congrArg V.i ?_); omega)) rfl (by first | exact trivial | exact Nat.le_of_ble_eq_true rfl | exact hy)) ?_))
          · repeat (first | exact hcv | refine And.intro (covE_some (l := 21) rfl (Nat.le_of_ble_eq_true rfl) (wf_sls _ _ _ (by omega)) rfl seqO_id) ?_ | refine And.intro (covE_some (l := 0) rfl (Nat.le_of_ble_eq_true rfl) (wf_sls _ _ _ (by omega)) rfl seqO_id) ?_ | (refine And.intro (covE_some (hR _ (Nat.le_of_ble_eq_true rfl)) (Nat.le_of_ble_eq_true rfl) (by first | exact wf_ints _ _ | exact wf_bools _ _ | first | exact wf_sls _ _ _ (by omega) | exact wf_jobs _ _ | exact wf_famS _ _ _ (by omega) | simp [C.wf]) rfl (by first | exact ren_ints _ _ | exact ren_sls_of (fun l hl => hR l (by omega)) (by omega) | exact ren_sl1 (hR _ (Nat.le_of_ble_eq_true rfl)) | fail | rfl)) ?_))
    · obtain rfl : b = j.length := by omega
      repeat ((conv => whnf); first | (refine And.intro (by first | omega | exact Nat.le_of_ble_eq_true rfl | (dsimp only [inK]; omega) | (simp only [mulS_eq]; omega) | (simp only [mulS_eq, setL_length]; omega) | (simp only [setL_length]; omega) | (simp only [setL_length, List.length_map]; omega) | (exact ⟨by omega, by omega, by first | exact Nat.le_of_ble_eq_true rfl | (dsimp only; omega) | (simp only [setL_length]; omega) | (simp only [setL_length, List.length_map]; omega)⟩) | (exact ⟨by omega, by first | rfl | omega, by omega, Nat.le_of_ble_eq_true rfl, Nat.le_of_ble_eq_true rfl⟩) | (exact ⟨rfl, rfl, rfl, Nat.le_of_ble_eq_true rfl, by first | rfl | omega | exact Nat.le_of_ble_eq_true rfl | (dsimp only; omega) | (simp; done) | (simp; omega), by first | rfl | omega | exact Nat.le_of_ble_eq_true rfl | (dsimp only; omega) | (simp; done) | (simp; omega), by omega, Nat.le_of_ble_eq_true rfl⟩) | exact Eq.refl true) ?_) | refine Exists.intro _ (And.intro rfl ?_) | refine And.intro (And.intro rfl (chk_rowI _ _ _ _)) ?_ | refine br_t (by omega) ?_ | refine br_f (by omega) ?_ | refine bs_t (by omega) ?_ | refine bs_f (by omega) ?_ | refine fun (K' : K3) hK' => ?_ | (refine hK' _ _ _ ?_; clear hK' K') | refine draw_auto tok mixed (by kernel_rfl) ?_ | refine bs_bt (Eq.refl true) ?_ | refine bs_bf (Eq.refl false) ?_ | refine br_bt (Eq.refl true) ?_ | refine br_bf (Eq.refl false) ?_ | refine CallK.m ?_ | refine Two.l ?_ | refine And.intro (And.intro rfl rfl) ?_)
      intro ρ; rfl
end Go.Proofs.Ytjijjncddjkdlaa

/- Shore: the reference's Turned. -/
namespace Go.Proofs.Ytjijjncddjkdlaa
open Go.RowKit
set_option linter.unusedVariables false
set_option linter.unusedSimpArgs false
theorem turn_take {j : Coast} {b : Nat} (h : b < j.length) : (turnJ j).take (b + 1) = (turnJ j).take b ++ [tpart (j.getD b []) (j.getD b []).length] := by
  rw [take_succ_getD (d := []) (by rw [turnJ_len]; exact h), turnJ_get h, tpart_full]
theorem famS_same {α : Type} {ln : α → Nat} {R : Rn} : ∀ {b : Nat} {l : List α}, (∀ k, k < l.length → renL R (k + b) = some (k + b)) → seqO ((famS ln b l).map (C.ren R)) = some (famS ln b l)
  | b, [], _ => rfl
  | b, a :: l, hR => by
    have h0 := hR 0 (by simp)
    rw [Nat.zero_add] at h0
    have ih := famS_same (ln := ln) (R := R) (b := b + 1) (l := l) (fun k hk => by have := hR (k + 1) (by simpa using hk); rwa [show k + (b + 1) = k + 1 + b by omega])
    simp only [famS, List.map_cons, C.ren, h0, seqO, ih]
theorem covL_tailx {R : Rn} {nx : Nat} {L T : List E} (h : TailOk T) (hp : TailPl T) (hR : ∀ l, (1 ≤ l ∧ l ≤ 20) ∨ (40 ≤ l ∧ l < 60) → renL R l = some l) (hnx : 60 ≤ nx) (hL : ∀ e ∈ T, find L e.lab = find T e.lab) : covL R nx L T := by
  refine covL_all fun e he => ?_
  have hlab := h.lab e he
  exact covE_some (hR _ hlab) (by omega) ((hp e he).1 nx) ((hL e he).trans (find_nodup h.nd he)) ((hp e he).2 R)
theorem adr_sl {ks : List Nat} {s : S} {t : TypeId} {x i : Operand} {l n : Nat} (h : ev s x = some (V.c (.sl l n))) (hm : memN l ks = false) : adrOf ks s (.indexAddr t x i) = none := by
  unfold adrOf
  simp only [h, V.c, hm, cond_false]
theorem find_visL {k : Nat} {r : List Nat} {l : Nat} {e : E} (hm : memN l (k :: r) = false) : ∀ {L : List E}, find L l = some e → find (visL (k :: r) L) l = some e
  | ⟨lab, kd, cs⟩ :: L, h => by
    rw [find] at h
    unfold visL
    cases hb : Nat.beq lab l with
    | true =>
      rw [hb] at h
      have e1 := Nat.eq_of_beq_eq_true hb
      subst e1
      rw [hm, cond_false, find, hb]
      exact h
    | false =>
      rw [hb] at h
      have ih := find_visL hm (L := L) h
      cases memN lab (k :: r) with
      | true => exact ih
      | false => rw [cond_false, find, hb]; exact ih
theorem find_visF {all : List Oper} {ks : List Nat} {i l : Nat} {e : E} {L : List E} (hm : memN l ks = false) (h : find L l = some e) : find (visF all ks i L) l = some e := by
  unfold visF
  cases ks with
  | nil => exact h
  | cons k r =>
    simp only
    cases freeB all i with
    | true => exact h
    | false => exact find_visL hm h
set_option maxHeartbeats 4000000 in
set_option maxRecDepth 100000 in
theorem rTurned_spec (j : Coast) (hj : Sized j) : Spec Try.prog 43 [V.c (.sl 0 j.length)] (⟨0, .ro 1, slsC 1 j⟩ :: entC 1 j) 32 (fun v L' _ => rowsR 31 rowJ jobC List.length [] (turnR j) (turnE j) v L') := by
  have hj20 := hj.len
  have hlen := slsC_len (b := 1) (j := j)
  have hV := rvalid_spec j hj
  cases hv : validL j with
  | false =>
    have e : turnE j = 60 := by simp [turnE, hv]
    simp only [turnR, e]
    rw [hv] at hV
    refine Spec.of tok Try.func43 rfl rfl rfl fun n0 cx => vc_ok tok ?_
    repeat ((conv => whnf); first | (refine And.intro (by first | omega | exact Nat.le_of_ble_eq_true rfl | (dsimp only [inK]; omega) | (simp only [mulS_eq]; omega) | (simp only [mulS_eq, setL_length]; omega) | (simp only [setL_length]; omega) | (simp only [setL_length, List.length_map]; omega) | (exact ⟨by omega, by omega, by first | exact Nat.le_of_ble_eq_true rfl | (dsimp only; omega) | (simp only [setL_length]; omega) | (simp only [setL_length, List.length_map]; omega)⟩) | (exact ⟨by omega, by first | rfl | omega, by omega, Nat.le_of_ble_eq_true rfl, Nat.le_of_ble_eq_true rfl⟩) | (exact ⟨rfl, rfl, rfl, Nat.le_of_ble_eq_true rfl, by first | rfl | omega | exact Nat.le_of_ble_eq_true rfl | (dsimp only; omega) | (simp; done) | (simp; omega), by first | rfl | omega | exact Nat.le_of_ble_eq_true rfl | (dsimp only; omega) | (simp; done) | (simp; omega), by omega, Nat.le_of_ble_eq_true rfl⟩) | exact Eq.refl true) ?_) | refine Exists.intro _ (And.intro rfl ?_) | refine And.intro (And.intro rfl (chk_rowI _ _ _ _)) ?_ | refine br_t (by omega) ?_ | refine br_f (by omega) ?_ | refine bs_t (by omega) ?_ | refine bs_f (by omega) ?_ | refine fun (K' : K3) hK' => ?_ | (refine hK' _ _ _ ?_; clear hK' K') | refine draw_auto tok mixed (by kernel_rfl) ?_ | refine CallK.val (R := []) hV (by kernel_rfl) rfl (by simp [V.wf, A.wf, C.wf]) (HasC.ro ⟨rfl, fun k hk => by (repeat (first | rw [find_skip (by omega)] | rw [find_hi (by omega) (by rfl)])); exact entC_find hk⟩ hj) (injC hj) rfl trivial ?_ | refine bs_bt (Eq.refl true) ?_ | refine bs_bf (Eq.refl false) ?_ | refine br_bt (Eq.refl true) ?_ | refine br_bf (Eq.refl false) ?_ | refine CallK.m ?_ | refine Two.l ?_ | refine And.intro (And.intro rfl rfl) ?_)
    exact .inl ⟨rfl, rfl⟩
  | true =>
    have hc := validL_coast hj hv
    rw [hv] at hV
    have htl := turnJ_len (j := j)
    refine Spec.of tok Try.func43 rfl rfl rfl fun n0 cx => vc_ok tok ?_
    repeat ((conv => whnf); first | (refine And.intro (by first | omega | exact Nat.le_of_ble_eq_true rfl | (dsimp only [inK]; omega) | (simp only [mulS_eq]; omega) | (simp only [mulS_eq, setL_length]; omega) | (simp only [setL_length]; omega) | (simp only [setL_length, List.length_map]; omega) | (exact ⟨by omega, by omega, by first | exact Nat.le_of_ble_eq_true rfl | (dsimp only; omega) | (simp only [setL_length]; omega) | (simp only [setL_length, List.length_map]; omega)⟩) | (exact ⟨by omega, by first | rfl | omega, by omega, Nat.le_of_ble_eq_true rfl, Nat.le_of_ble_eq_true rfl⟩) | (exact ⟨rfl, rfl, rfl, Nat.le_of_ble_eq_true rfl, by first | rfl | omega | exact Nat.le_of_ble_eq_true rfl | (dsimp only; omega) | (simp; done) | (simp; omega), by first | rfl | omega | exact Nat.le_of_ble_eq_true rfl | (dsimp only; omega) | (simp; done) | (simp; omega), by omega, Nat.le_of_ble_eq_true rfl⟩) | exact Eq.refl true) ?_) | refine Exists.intro _ (And.intro rfl ?_) | refine And.intro (And.intro rfl (chk_rowI _ _ _ _)) ?_ | refine br_t (by omega) ?_ | refine br_f (by omega) ?_ | refine bs_t (by omega) ?_ | refine bs_f (by omega) ?_ | refine fun (K' : K3) hK' => ?_ | (refine hK' _ _ _ ?_; clear hK' K') | refine draw_auto tok mixed (by kernel_rfl) ?_ | refine CallK.val (R := []) hV (by kernel_rfl) rfl (by simp [V.wf, A.wf, C.wf]) (HasC.ro ⟨rfl, fun k hk => by (repeat (first | rw [find_skip (by omega)] | rw [find_hi (by omega) (by rfl)])); exact entC_find hk⟩ hj) (injC hj) rfl trivial ?_ | refine bs_bt (Eq.refl true) ?_ | refine bs_bf (Eq.refl false) ?_ | refine br_bt (Eq.refl true) ?_ | refine br_bf (Eq.refl false) ?_ | refine CallK.m ?_ | refine Two.l ?_ | refine And.intro (And.intro rfl rfl) ?_)
    refine Tri.loop (γ := Nat) (fun b => b ≤ j.length ∧ ∀ c, c < b → ∀ i, i < (j.getD c []).length → (jobA j c i).2 ≠ 0) (fun b => [(0, V.c (.sl 0 j.length)), (4, V.c (.sl 39 b)), (5, V.i (b : Nat))])
      (fun b => ⟨39, .vec 31 1, famS List.length 40 ((turnJ j).take b)⟩ :: ⟨0, .ro 1, slsC 1 j⟩ :: (famE rowJ jobC 40 ((turnJ j).take b) ++ entC 1 j)) 60 (fun b => j.length - b) 0 (R0 := [(39, none)]) ?_ ?_ ?_
    · exact ⟨Nat.zero_le _, fun c hc => absurd hc (Nat.not_lt_zero c)⟩
    · have hR : ∀ l, l < 39 → renL [(39, none)] l = some l := fun l hl => renL_ne (by omega)
      have hT := tail_fam (kd := rowJ) (cs := jobC) (l := []) (j := j) (by simp) hj20
      rw [List.take_zero]
      refine ⟨?_, ?_, inj_null (p := [_, _]) hT rfl (by simp), rfl, by first | exact Nat.le_of_ble_eq_true rfl | omega⟩
      · repeat (first | exact trivial | (refine And.intro (covS_syn (by first | rfl | exact (rsl (hR _ (Nat.le_of_ble_eq_true rfl))).symm | exact (rptr (hR _ (Nat.le_of_ble_eq_true rfl))).symm) rfl (by first | exact trivial | exact Nat.le_of_ble_eq_true rfl | exact hy)) ?_))
      · repeat (first | exact cov_ent (fun k hk => hR _ (by omega)) (by omega) (fun k hk => by ((try (conv => lhs; arg 1; whnf)); (repeat (first | rw [find_skip (by omega)] | rw [find_hi (by omega) (by rfl)])); exact entC_find hk)) | refine And.intro (covE_nil rfl (Nat.le_of_ble_eq_true rfl) rfl rfl) ?_ | (refine And.intro (covE_some (hR _ (Nat.le_of_ble_eq_true rfl)) (Nat.le_of_ble_eq_true rfl) (by first | exact wf_ints _ _ | exact wf_bools _ _ | first | exact wf_sls _ _ _ (by omega) | exact wf_jobs _ _ | exact wf_famS _ _ _ (by omega) | simp [C.wf]) rfl (by first | exact ren_ints _ _ | exact ren_sls_of (fun l hl => hR l (by omega)) (by omega) | exact ren_sl1 (hR _ (Nat.le_of_ble_eq_true rfl)) | fail | rfl)) ?_))
    · rintro b ⟨hb, hall⟩
      refine vc_ok tok ?_
      have hTl : ((turnJ j).take b).length = b := by rw [List.length_take]; omega
      have hT := tail_fam (kd := rowJ) (cs := jobC) (l := (turnJ j).take b) (j := j) (by omega) hj20
      have hPl := pl_fam (kd := rowJ) (l := (turnJ j).take b) (j := j) ([] : List Job) plain_jobs
      by_cases hlt : b < j.length
      · have hjl := jobC_len (j.getD b [])
        have hjb := hc.jobs b hlt
        have htk := turn_take (j := j) hlt
        obtain ⟨F, hF⟩ : ∃ F, F = (turnJ j).take b := ⟨_, rfl⟩
        rw [← hF] at hTl hT hPl htk ⊢
        have hfam : (famS List.length 40 F).length = b := by rw [famS_len, hTl]
        have hbe : ∀ (A : List E), (∀ e ∈ A, e.lab ≠ 1 + b) → find (A ++ (famE rowJ jobC 40 F ++ entC 1 j)) (1 + b) = some ⟨1 + b, .ro 2, jobC (j.getD b [])⟩ := fun A hA => (find_app hA).trans (tail_be hlt hj20)
        repeat ((conv => whnf); first | (refine And.intro (by first | omega | exact Nat.le_of_ble_eq_true rfl | (dsimp only [inK]; omega) | (simp only [mulS_eq]; omega) | (simp only [mulS_eq, setL_length]; omega) | (simp only [setL_length]; omega) | (simp only [setL_length, List.length_map]; omega) | (exact ⟨by omega, by omega, by first | exact Nat.le_of_ble_eq_true rfl | (dsimp only; omega) | (simp only [setL_length]; omega) | (simp only [setL_length, List.length_map]; omega)⟩) | (exact ⟨by omega, by first | rfl | omega, by omega, Nat.le_of_ble_eq_true rfl, Nat.le_of_ble_eq_true rfl⟩) | (exact ⟨rfl, rfl, rfl, Nat.le_of_ble_eq_true rfl, by first | rfl | omega | exact Nat.le_of_ble_eq_true rfl | (dsimp only; omega) | (simp; done) | (simp; omega), by first | rfl | omega | exact Nat.le_of_ble_eq_true rfl | (dsimp only; omega) | (simp; done) | (simp; omega), by omega, Nat.le_of_ble_eq_true rfl⟩) | exact Eq.refl true) ?_) | with_reducible refine ld (slL hlt) ?_ | refine Exists.intro _ (And.intro rfl ?_) | refine And.intro (And.intro rfl (chk_rowI _ _ _ _)) ?_ | refine br_t (by omega) ?_ | refine br_f (by omega) ?_ | refine bs_t (by omega) ?_ | refine bs_f (by omega) ?_ | refine fun (K' : K3) hK' => ?_ | (refine hK' _ _ _ ?_; clear hK' K') | refine draw_auto tok mixed (by kernel_rfl) ?_ | refine bs_bt (Eq.refl true) ?_ | refine bs_bf (Eq.refl false) ?_ | refine br_bt (Eq.refl true) ?_ | refine br_bf (Eq.refl false) ?_ | refine CallK.m ?_ | refine Two.l ?_ | refine And.intro (And.intro rfl rfl) ?_)
        refine Tri.loop (γ := Nat) (fun m => m ≤ (j.getD b []).length ∧ ∀ i, i < m → (jobA j b ((j.getD b []).length - 1 - i)).2 ≠ 0) (fun m => [(0, V.c (.sl 0 j.length)), (4, V.c (.sl 39 b)), (5, V.i (b : Nat)), (6, V.c (.sl 38 m)), (7, V.i (((j.getD b []).length : Int) - 1 - m))])
          (fun m => ⟨38, rowJ, jobC (tpart (j.getD b []) m)⟩ :: ⟨39, .vec 31 1, famS List.length 40 F⟩ :: ⟨0, .ro 1, slsC 1 j⟩ :: (famE rowJ jobC 40 F ++ entC 1 j)) 60 (fun m => (j.getD b []).length - m) 0 (R0 := [(38, none)]) ?_ ?_ ?_
        · exact ⟨Nat.zero_le _, fun i hi => absurd hi (Nat.not_lt_zero i)⟩
        · have hR : ∀ l, l ≠ 38 → renL [(38, none)] l = some l := fun l hl => renL_ne (fun e => hl e.symm)
          have hRF : seqO ((famS List.length 40 F).map (C.ren [(38, none)])) = some (famS List.length 40 F) := famS_same fun k hk => hR _ (by omega)
          refine ⟨?_, ?_, inj_null (p := [_, _, _]) hT rfl (by simp), rfl, by first | exact Nat.le_of_ble_eq_true rfl | omega⟩
          · repeat (first | exact trivial | (refine And.intro (covS_syn (by first | rfl | exact (rsl (hR _ (Nat.le_of_ble_eq_true rfl))).symm | exact (rptr (hR _ (Nat.le_of_ble_eq_true rfl))).symm | (refine congrArg some (congrArg V.i ?_); omega)) rfl (by first | exact trivial | exact Nat.le_of_ble_eq_true rfl | exact hy)) ?_))
          · repeat (first | (exact covL_tailx hT hPl (fun l hl => hR l (by omega)) (by omega) (fun e he => by have := hT.lab e he; (repeat rw [find_skip (by omega)]))) | refine And.intro (covE_nil rfl (Nat.le_of_ble_eq_true rfl) rfl rfl) ?_ | refine And.intro (covE_some (l := 39) rfl (Nat.le_of_ble_eq_true rfl) (wf_famS _ _ _ (by omega)) rfl hRF) ?_ | refine And.intro (covE_some (l := 0) rfl (Nat.le_of_ble_eq_true rfl) (wf_sls _ _ _ (by omega)) rfl (ren_sls_of (fun l hl => hR l (by omega)) (by omega))) ?_ | (refine And.intro (covE_some (hR _ (Nat.le_of_ble_eq_true rfl)) (Nat.le_of_ble_eq_true rfl) (by first | exact wf_ints _ _ | exact wf_bools _ _ | first | exact wf_sls _ _ _ (by omega) | exact wf_jobs _ _ | exact wf_famS _ _ _ (by omega) | simp [C.wf]) rfl (by first | exact ren_ints _ _ | exact ren_sls_of (fun l hl => hR l (by omega)) (by omega) | exact ren_sl1 (hR _ (Nat.le_of_ble_eq_true rfl)) | fail | rfl)) ?_))
        · rintro m ⟨hm, hnz⟩
          refine vc_ok tok ?_
          have hpm := tpart_len hm
          have hplen : (jobC (tpart (j.getD b []) m)).length = 2 * m := by rw [jobC_len, hpm]
          by_cases hmt : m < (j.getD b []).length
          · have hk : (j.getD b []).length - 1 - m < (j.getD b []).length := by omega
            have hl0 : (jobC (j.getD b []))[addO (mulS (((j.getD b []).length : Int) - 1 - (m : Nat)).toNat 2) 0]? = some (C.i ((j.getD b []).getD ((j.getD b []).length - 1 - m) (0, 0)).1) := by
              rw [show ((j.getD b []).length : Int) - 1 - (m : Nat) = (((j.getD b []).length - 1 - m : Nat) : Int) by omega]; exact jobL0 hk
            have hl1 : (jobC (j.getD b []))[addO (mulS (((j.getD b []).length : Int) - 1 - (m : Nat)).toNat 2) 1]? = some (C.i ((j.getD b []).getD ((j.getD b []).length - 1 - m) (0, 0)).2) := by
              rw [show ((j.getD b []).length : Int) - 1 - (m : Nat) = (((j.getD b []).length - 1 - m : Nat) : Int) by omega]; exact jobL1 hk
            by_cases hz0 : ((j.getD b []).getD ((j.getD b []).length - 1 - m) (0, 0)).2 = 0
            · have e5 : turnE j = 5 := by simp [turnE, hv, harmful_no hlt hk hz0]
              simp only [turnR, e5]
              repeat ((conv => whnf); first | (refine And.intro (by first | omega | exact Nat.le_of_ble_eq_true rfl | (dsimp only [inK]; omega) | (simp only [mulS_eq]; omega) | (simp only [mulS_eq, setL_length]; omega) | (simp only [setL_length]; omega) | (simp only [setL_length, List.length_map]; omega) | (exact ⟨by omega, by omega, by first | exact Nat.le_of_ble_eq_true rfl | (dsimp only; omega) | (simp only [setL_length]; omega) | (simp only [setL_length, List.length_map]; omega)⟩) | (exact ⟨by omega, by first | rfl | omega, by omega, Nat.le_of_ble_eq_true rfl, Nat.le_of_ble_eq_true rfl⟩) | (exact ⟨rfl, rfl, rfl, Nat.le_of_ble_eq_true rfl, by first | rfl | omega | exact Nat.le_of_ble_eq_true rfl | (dsimp only; omega) | (simp; done) | (simp; omega), by first | rfl | omega | exact Nat.le_of_ble_eq_true rfl | (dsimp only; omega) | (simp; done) | (simp; omega), by omega, Nat.le_of_ble_eq_true rfl⟩) | exact Eq.refl true) ?_) | with_reducible refine ld (slL hlt) ?_ | with_reducible refine ld (hl1) ?_ | with_reducible refine ld (hl0) ?_ | refine Exists.intro _ (And.intro rfl ?_) | refine And.intro (And.intro rfl (chk_rowI _ _ _ _)) ?_ | refine br_t (by omega) ?_ | refine br_f (by omega) ?_ | refine bs_t (by omega) ?_ | refine bs_f (by omega) ?_ | refine fun (K' : K3) hK' => ?_ | (refine hK' _ _ _ ?_; clear hK' K') | refine draw_auto tok mixed (by kernel_rfl) ?_ | (refine onV_ld (c := ⟨1 + b, .ro 2, jobC (j.getD b [])⟩) (by (try (conv => lhs; arg 1; whnf)); (repeat (first | rw [find_skip (by omega)] | rw [find_hi (by omega) (by rfl)])); exact tail_be hlt hj20) ?_) | with_reducible refine updK_tail hT rfl ?_ | with_reducible refine rmK_tail hT rfl ?_ | with_reducible refine visC_tail hT rfl ?_ | with_reducible refine relC_tail hT rfl ?_ | refine bs_t hz0 ?_ | refine br_t hz0 ?_ | refine bs_bt (Eq.refl true) ?_ | refine bs_bf (Eq.refl false) ?_ | refine br_bt (Eq.refl true) ?_ | refine br_bf (Eq.refl false) ?_ | refine CallK.m ?_ | refine Two.l ?_ | refine And.intro (And.intro rfl rfl) ?_)
              exact .inl ⟨rfl, rfl⟩
            · have hmem : memN (1 + b) [38] = false := by simp [memN, beq_ne (show 38 ≠ 1 + b by omega), beq_ne (show 1 + b ≠ 38 by omega)]
              repeat ((conv => whnf); first | (refine And.intro (by first | omega | exact Nat.le_of_ble_eq_true rfl | (dsimp only [inK]; omega) | (simp only [mulS_eq]; omega) | (simp only [mulS_eq, setL_length]; omega) | (simp only [setL_length]; omega) | (simp only [setL_length, List.length_map]; omega) | (exact ⟨by omega, by omega, by first | exact Nat.le_of_ble_eq_true rfl | (dsimp only; omega) | (simp only [setL_length]; omega) | (simp only [setL_length, List.length_map]; omega)⟩) | (exact ⟨by omega, by first | rfl | omega, by omega, Nat.le_of_ble_eq_true rfl, Nat.le_of_ble_eq_true rfl⟩) | (exact ⟨rfl, rfl, rfl, Nat.le_of_ble_eq_true rfl, by first | rfl | omega | exact Nat.le_of_ble_eq_true rfl | (dsimp only; omega) | (simp; done) | (simp; omega), by first | rfl | omega | exact Nat.le_of_ble_eq_true rfl | (dsimp only; omega) | (simp; done) | (simp; omega), by omega, Nat.le_of_ble_eq_true rfl⟩) | exact Eq.refl true) ?_) | with_reducible refine ld (slL hlt) ?_ | with_reducible refine ld (hl1) ?_ | with_reducible refine ld (hl0) ?_ | refine Exists.intro _ (And.intro rfl ?_) | refine And.intro (And.intro rfl (chk_rowI _ _ _ _)) ?_ | refine br_t (by omega) ?_ | refine br_f (by omega) ?_ | refine bs_t (by omega) ?_ | refine bs_f (by omega) ?_ | refine fun (K' : K3) hK' => ?_ | (refine hK' _ _ _ ?_; clear hK' K') | refine draw_kill [38] tok mixed (by decide +kernel) ?_ | refine draw_auto tok mixed (by kernel_rfl) ?_ | ((rw [adr_sl ?hh hmem]; case hh => rfl)) | (refine onV_ld (c := ⟨1 + b, .ro 2, jobC (j.getD b [])⟩) (by (try (conv => lhs; arg 1; whnf)); (repeat (first | rw [find_skip (by omega)] | rw [find_hi (by omega) (by rfl)])); exact tail_be hlt hj20) ?_) | (refine onV_ld (c := ⟨1 + b, .ro 2, jobC (j.getD b [])⟩) (find_visF hmem (by (try (conv => lhs; arg 1; whnf)); (repeat (first | rw [find_skip (by omega)] | rw [find_hi (by omega) (by rfl)])); exact tail_be hlt hj20)) ?_) | with_reducible refine updK_tail hT rfl ?_ | with_reducible refine rmK_tail hT rfl ?_ | with_reducible refine visC_tail hT rfl ?_ | with_reducible refine relC_tail hT rfl ?_ | refine bs_f hz0 ?_ | refine br_f hz0 ?_ | refine And.intro (And.intro rfl (chk_rowJ _ _ _ _ _ _)) ?_ | refine bs_bt (Eq.refl true) ?_ | refine bs_bf (Eq.refl false) ?_ | refine br_bt (Eq.refl true) ?_ | refine br_bf (Eq.refl false) ?_ | refine CallK.m ?_ | refine Two.l ?_ | refine And.intro (And.intro rfl rfl) ?_)
              have hrw : jobC (tpart (j.getD b []) m) ++ [C.i ((j.getD b []).getD ((j.getD b []).length - 1 - m) (0, 0)).2, C.i ((j.getD b []).getD ((j.getD b []).length - 1 - m) (0, 0)).1] = jobC (tpart (j.getD b []) (m + 1)) := by rw [tpart_succ hmt, jobC_app]; rfl
              have hR : ∀ l, l ≠ 38 → renL [(38, some 61)] l = some l := fun l hl => renL_ne (fun e => hl e.symm)
              have hRF : seqO ((famS List.length 40 F).map (C.ren [(38, some 61)])) = some (famS List.length 40 F) := famS_same fun k hk => hR _ (by omega)
              refine ⟨m + 1, [(38, some 61)], ⟨by omega, fun i hi => ?_⟩, by omega, ?_⟩
              · by_cases him : i = m
                · subst him; exact hz0
                · exact hnz i (by omega)
              refine ⟨?_, ?_, inj_end (p := [_, _, _]) hT rfl (by simp) rfl (by simp), rfl, by first | exact Nat.le_of_ble_eq_true rfl | omega⟩
              · repeat (first | exact trivial | (refine And.intro (covS_syn (by first | rfl | exact (rsl (hR _ (Nat.le_of_ble_eq_true rfl))).symm | exact (rptr (hR _ (Nat.le_of_ble_eq_true rfl))).symm | (refine congrArg some (congrArg V.i ?_); omega)) rfl (by first | exact trivial | exact Nat.le_of_ble_eq_true rfl | exact hy)) ?_))
              · repeat (first | (exact covL_tailx hT hPl (fun l hl => hR l (by omega)) (by omega) (fun e he => by have := hT.lab e he; (repeat rw [find_skip (by omega)]))) | refine And.intro (covE_some (l := 61) rfl (Nat.le_of_ble_eq_true rfl) (wf_jobs _ _) (congrArg (fun c => some (E.mk 61 (.vec 47 2) c)) hrw) (ren_jobs _ _)) ?_ | refine And.intro (covE_some (l := 39) rfl (Nat.le_of_ble_eq_true rfl) (wf_famS _ _ _ (by omega)) rfl hRF) ?_ | refine And.intro (covE_some (l := 0) rfl (Nat.le_of_ble_eq_true rfl) (wf_sls _ _ _ (by omega)) rfl (ren_sls_of (fun l hl => hR l (by omega)) (by omega))) ?_ | (refine And.intro (covE_some (hR _ (Nat.le_of_ble_eq_true rfl)) (Nat.le_of_ble_eq_true rfl) (by first | exact wf_ints _ _ | exact wf_bools _ _ | first | exact wf_sls _ _ _ (by omega) | exact wf_jobs _ _ | exact wf_famS _ _ _ (by omega) | simp [C.wf]) rfl (by first | exact ren_ints _ _ | exact ren_sls_of (fun l hl => hR l (by omega)) (by omega) | exact ren_sl1 (hR _ (Nat.le_of_ble_eq_true rfl)) | fail | rfl)) ?_))
          · obtain rfl : m = (j.getD b []).length := by omega
            have hR0 : ∀ l, l < 38 → renL [(39, some 61), (F.length + 40, some 38)] l = some l := fun l hl => renL_two (by omega) (by omega)
            have hR2 : ∀ k, k < F.length → renL [(39, some 61), (F.length + 40, some 38)] (k + 40) = some (k + 40) := fun k hk => renL_two (by omega) (by omega)
            have hR3 : renL [(39, some 61), (F.length + 40, some 38)] (F.length + 40) = some 38 := renL_two2 (by omega)
            have hfs := famS_snoc (ln := List.length) (y := 38) (x := tpart (j.getD b []) (j.getD b []).length) hR2 hR3
            rw [← htk, hpm] at hfs
            have hTl3 : ((turnJ j).take (b + 1)).length = b + 1 := by rw [List.length_take]; omega
            have hT3 := tail_fam (kd := rowJ) (cs := jobC) (l := (turnJ j).take (b + 1)) (j := j) (by omega) hj20
            have hR : ∀ l, l < 38 → renL [(39, some 61), (F.length + 40, some 38)] l = some l := hR0
            repeat ((conv => whnf); first | (refine And.intro (by first | omega | exact Nat.le_of_ble_eq_true rfl | (dsimp only [inK]; omega) | (simp only [mulS_eq]; omega) | (simp only [mulS_eq, setL_length]; omega) | (simp only [setL_length]; omega) | (simp only [setL_length, List.length_map]; omega) | (exact ⟨by omega, by omega, by first | exact Nat.le_of_ble_eq_true rfl | (dsimp only; omega) | (simp only [setL_length]; omega) | (simp only [setL_length, List.length_map]; omega)⟩) | (exact ⟨by omega, by first | rfl | omega, by omega, Nat.le_of_ble_eq_true rfl, Nat.le_of_ble_eq_true rfl⟩) | (exact ⟨rfl, rfl, rfl, Nat.le_of_ble_eq_true rfl, by first | rfl | omega | exact Nat.le_of_ble_eq_true rfl | (dsimp only; omega) | (simp; done) | (simp; omega), by first | rfl | omega | exact Nat.le_of_ble_eq_true rfl | (dsimp only; omega) | (simp; done) | (simp; omega), by omega, Nat.le_of_ble_eq_true rfl⟩) | exact Eq.refl true) ?_) | refine Exists.intro _ (And.intro rfl ?_) | refine And.intro (And.intro rfl (chk_rowI _ _ _ _)) ?_ | refine br_t (by omega) ?_ | refine br_f (by omega) ?_ | refine bs_t (by omega) ?_ | refine bs_f (by omega) ?_ | refine fun (K' : K3) hK' => ?_ | (refine hK' _ _ _ ?_; clear hK' K') | refine draw_auto tok mixed (by kernel_rfl) ?_ | with_reducible refine updK_tail hT rfl ?_ | with_reducible refine rmK_tail hT rfl ?_ | refine bs_bt (Eq.refl true) ?_ | refine bs_bf (Eq.refl false) ?_ | refine br_bt (Eq.refl true) ?_ | refine br_bf (Eq.refl false) ?_ | refine CallK.m ?_ | refine Two.l ?_ | refine And.intro (And.intro rfl rfl) ?_)
            refine ⟨b + 1, [(39, some 61), (F.length + 40, some 38)], ⟨by omega, fun c hc i hi => ?_⟩, by omega, ?_⟩
            · by_cases hcb : c = b
              · subst hcb
                have := hnz ((j.getD c []).length - 1 - i) (by omega)
                rw [show (j.getD c []).length - 1 - ((j.getD c []).length - 1 - i) = i by omega] at this
                exact this
              · exact hall c (by omega) i hi
            refine ⟨?_, ?_, inj_two (p := [_, _]) hT3 rfl (by simp) rfl rfl (by omega) (by simp) (by simp), rfl, by first | exact Nat.le_of_ble_eq_true rfl | omega⟩
            · repeat (first | exact trivial | (refine And.intro (covS_syn (by first | rfl | exact (rsl (hR _ (Nat.le_of_ble_eq_true rfl))).symm | exact (rptr (hR _ (Nat.le_of_ble_eq_true rfl))).symm | (refine congrArg some (congrArg V.i ?_); omega)) rfl (by first | exact trivial | exact Nat.le_of_ble_eq_true rfl | exact hy)) ?_))
            · repeat (first | ((rw [htk]; exact covL_app (cov_snoc (d := []) plain_jobs (by omega) hR2 hR3 rfl (fun i' hi' => by (repeat rw [find_skip (by omega)]); exact tail_row hi')) (cov_ent (fun k hk => hR0 _ (by omega)) (by omega) (fun k hk => by (repeat rw [find_skip (by omega)]); exact tail_be hk hj20)))) | refine And.intro (covE_some (l := 61) rfl (Nat.le_of_ble_eq_true rfl) (wf_famS _ _ _ (by omega)) rfl hfs) ?_ | refine And.intro (covE_some (l := 0) rfl (Nat.le_of_ble_eq_true rfl) (wf_sls _ _ _ (by omega)) rfl (ren_sls_of (fun l hl => hR0 l (by omega)) (by omega))) ?_ | (refine And.intro (covE_some (hR _ (Nat.le_of_ble_eq_true rfl)) (Nat.le_of_ble_eq_true rfl) (by first | exact wf_ints _ _ | exact wf_bools _ _ | first | exact wf_sls _ _ _ (by omega) | exact wf_jobs _ _ | exact wf_famS _ _ _ (by omega) | simp [C.wf]) rfl (by first | exact ren_ints _ _ | exact ren_sls_of (fun l hl => hR l (by omega)) (by omega) | exact ren_sl1 (hR _ (Nat.le_of_ble_eq_true rfl)) | fail | rfl)) ?_))
      · obtain rfl : b = j.length := by omega
        have e0 : turnE j = 0 := by simp [turnE, hv, harmful_of hall]
        have hfull : (turnJ j).take j.length = turnJ j := List.take_of_length_le (by omega)
        simp only [turnR, e0, if_true]
        rw [hfull] at hT ⊢
        repeat ((conv => whnf); first | (refine And.intro (by first | omega | exact Nat.le_of_ble_eq_true rfl | (dsimp only [inK]; omega) | (simp only [mulS_eq]; omega) | (simp only [mulS_eq, setL_length]; omega) | (simp only [setL_length]; omega) | (simp only [setL_length, List.length_map]; omega) | (exact ⟨by omega, by omega, by first | exact Nat.le_of_ble_eq_true rfl | (dsimp only; omega) | (simp only [setL_length]; omega) | (simp only [setL_length, List.length_map]; omega)⟩) | (exact ⟨by omega, by first | rfl | omega, by omega, Nat.le_of_ble_eq_true rfl, Nat.le_of_ble_eq_true rfl⟩) | (exact ⟨rfl, rfl, rfl, Nat.le_of_ble_eq_true rfl, by first | rfl | omega | exact Nat.le_of_ble_eq_true rfl | (dsimp only; omega) | (simp; done) | (simp; omega), by first | rfl | omega | exact Nat.le_of_ble_eq_true rfl | (dsimp only; omega) | (simp; done) | (simp; omega), by omega, Nat.le_of_ble_eq_true rfl⟩) | exact Eq.refl true) ?_) | refine Exists.intro _ (And.intro rfl ?_) | refine And.intro (And.intro rfl (chk_rowI _ _ _ _)) ?_ | refine br_t (by omega) ?_ | refine br_f (by omega) ?_ | refine bs_t (by omega) ?_ | refine bs_f (by omega) ?_ | refine fun (K' : K3) hK' => ?_ | (refine hK' _ _ _ ?_; clear hK' K') | refine draw_auto tok mixed (by kernel_rfl) ?_ | refine bs_bt (Eq.refl true) ?_ | refine bs_bf (Eq.refl false) ?_ | refine br_bt (Eq.refl true) ?_ | refine br_bf (Eq.refl false) ?_ | refine CallK.m ?_ | refine Two.l ?_ | refine And.intro (And.intro rfl rfl) ?_)
        exact .inr ⟨39, congrArg (C.sl 39) htl.symm, rfl, fun k hk => by (repeat rw [find_skip (by omega)]); exact tail_row hk⟩
end Go.Proofs.Ytjijjncddjkdlaa

/- Shore: two lists of beaches that lie as rows of one's own, held against each other. -/
namespace Go.Proofs.Ytjijjncddjkdlaa
open Go.RowKit
set_option linter.unusedVariables false
set_option linter.unusedSimpArgs false
theorem slsC_ren {R : Rn} {b B n : Nat} (hR : ∀ i, i < n → renL R (b + i) = some (i + B)) : ∀ {m : Nat} {t : Coast}, m + t.length ≤ n → seqO ((slsC (b + m) t).map (C.ren R)) = some (famS List.length (m + B) t)
  | m, [], _ => rfl
  | m, x :: r, h => by
    simp only [List.length_cons] at h
    have ih := slsC_ren (R := R) (b := b) (B := B) (n := n) hR (m := m + 1) (t := r) (by omega)
    simp only [slsC, List.map_cons, C.ren, hR m (by omega), seqO, famS]
    rw [show b + m + 1 = b + (m + 1) by omega, ih, show m + 1 + B = m + B + 1 by omega]
theorem renL_app {l : Nat} {Q : Rn} : ∀ {R : Rn}, (∀ p ∈ R, p.1 ≠ l) → renL (R ++ Q) l = renL Q l
  | [], _ => rfl
  | p :: R, h => by
    simp only [List.cons_append, renL, beq_ne (h p (by simp)), cond_false]
    exact renL_app fun q hq => h q (by simp [hq])
theorem renL_shift_app {b c l n : Nat} {Q : Rn} (h : b ≤ l ∧ l < b + n) : renL (shiftR b c n ++ Q) l = some (l - b + c) := by
  have key : ∀ {r : List Nat}, (∃ k ∈ r, k + b = l) → renL ((r.map fun k => (k + b, some (k + c))) ++ Q) l = some (l - b + c) := by
    intro r
    induction r with
    | nil => rintro ⟨k, hk, _⟩; cases hk
    | cons a r ih =>
      rintro ⟨k, hk, he⟩
      simp only [List.map_cons, List.cons_append, renL]
      by_cases ha : a + b = l
      · rw [ha, Nat.beq_refl, cond_true]; congr 1; omega
      · rw [beq_ne ha, cond_false]
        refine ih ⟨k, ?_, he⟩
        rcases List.mem_cons.1 hk with rfl | hk
        · exact absurd he ha
        · exact hk
  exact key ⟨l - b, List.mem_range.2 (by omega), by omega⟩
/-- Names of two lists of beaches. -/
def samR (la Ba lb Bb n : Nat) : Rn := (0, some la) :: (21, some lb) :: (shiftR 1 Ba n ++ shiftR 22 Bb n)
theorem samR_1 {la Ba lb Bb n i : Nat} (hi : i < n) (hn : n ≤ 20) : renL (samR la Ba lb Bb n) (1 + i) = some (i + Ba) := by
  simp only [samR, renL, beq_ne (show 0 ≠ 1 + i by omega), beq_ne (show 21 ≠ 1 + i by omega), cond_false]
  rw [renL_shift_app (by omega)]; congr 1; omega
theorem samR_2 {la Ba lb Bb n i : Nat} (hi : i < n) (hn : n ≤ 20) : renL (samR la Ba lb Bb n) (22 + i) = some (i + Bb) := by
  simp only [samR, renL, beq_ne (show 0 ≠ 22 + i by omega), beq_ne (show 21 ≠ 22 + i by omega), cond_false]
  rw [renL_app, renL_shift, if_pos (by omega)]
  · congr 1; omega
  · intro p hp
    obtain ⟨k, hk, rfl⟩ := List.mem_map.1 hp
    have := List.mem_range.1 hk
    simp only; omega
/-- Beaches that came in, or that lie as rows of one's own. -/
structure HasU (L : List E) (lab B : Nat) (t : Coast) : Prop where
  sl : ∃ k, find L lab = some ⟨lab, k, famS List.length B t⟩ ∧ k.z = some 1
  be : ∀ i, i < t.length → ∃ k, find L (i + B) = some ⟨i + B, k, jobC (t.getD i [])⟩ ∧ k.z = some 2
theorem HasT.u {L : List E} {lab B : Nat} {t : Coast} (h : HasT L lab B t) : HasU L lab B t := ⟨⟨_, h.sl, rfl⟩, fun i hi => ⟨_, h.be i hi, rfl⟩⟩
theorem slsC_fam : ∀ {b : Nat} {j : Coast}, slsC b j = famS List.length b j
  | _, [] => rfl
  | b, x :: r => by simp only [slsC, famS, slsC_fam (b := b + 1) (j := r)]
theorem HasC.u {L : List E} {j : Coast} (h : HasC L j) : HasU L 0 1 j := ⟨⟨_, by rw [← slsC_fam]; exact h.sl, rfl⟩, fun i hi => ⟨.ro 2, by rw [Nat.add_comm]; exact h.be i hi, rfl⟩⟩
theorem HasU.same {L : List E} {la Ba lb Bb : Nat} {t : Coast} (h : HasU L la Ba t) (h2 : HasU L lb Bb t) (ht : Sized t) : roL (samR la Ba lb Bb t.length) 43 L (⟨0, .ro 1, slsC 1 t⟩ :: ⟨21, .ro 1, slsC 22 t⟩ :: (entC 1 t ++ entC 22 t)) := by
  have h20 := ht.len
  have hs := slsC_ren (R := samR la Ba lb Bb t.length) (b := 1) (B := Ba) (n := t.length) (fun i hi => samR_1 hi h20) (m := 0) (t := t) (by omega)
  have hs2 := slsC_ren (R := samR la Ba lb Bb t.length) (b := 22) (B := Bb) (n := t.length) (fun i hi => samR_2 hi h20) (m := 0) (t := t) (by omega)
  rw [Nat.zero_add] at hs hs2
  obtain ⟨k1, e1, z1⟩ := h.sl
  obtain ⟨k2, e2, z2⟩ := h2.sl
  refine ⟨⟨Nat.le_of_ble_eq_true rfl, wf_sls _ _ _ (by omega), k1, _, e1, .inr z1, hs⟩, ⟨Nat.le_of_ble_eq_true rfl, wf_sls _ _ _ (by omega), k2, _, e2, .inr z2, hs2⟩, roL_all fun e he => ?_⟩
  rcases List.mem_append.1 he with he | he
  · obtain ⟨i, hi, rfl⟩ := entC_mem he
    obtain ⟨k, e3, z3⟩ := h.be i hi
    unfold roE
    simp only [samR_1 hi h20]
    exact ⟨by omega, wf_jobs _ _, k, _, e3, .inr z3, ren_jobs _ _⟩
  · obtain ⟨i, hi, rfl⟩ := entC_mem he
    obtain ⟨k, e3, z3⟩ := h2.be i hi
    unfold roE
    simp only [samR_2 hi h20]
    exact ⟨by omega, wf_jobs _ _, k, _, e3, .inr z3, ren_jobs _ _⟩
theorem sgl_sized {l : List Job} (h : l.length ≤ 20) : Sized (sglL l) := ⟨by rw [sglL_len]; exact h, fun k hk => by
  rw [sglL_len] at hk
  have : (sglL l).getD k [] = [l[k]] := by simp [sglL, List.getD_eq_getElem?_getD, hk]
  rw [this]; simp⟩
theorem nil_sized : Sized [] := ⟨by simp, fun k hk => by simp at hk⟩
theorem free_sized (j : Coast) : Sized (freeR j) := by
  unfold freeR
  by_cases h : freeE j = 0
  · rw [if_pos h]
    refine sgl_sized ?_
    unfold freeE at h
    split at h
    · split at h
      · omega
      · omega
    · omega
  · rw [if_neg h]; exact nil_sized
theorem turnR_sized {j : Coast} (hj : Sized j) : Sized (turnR j) := by
  unfold turnR
  split
  · exact turn_sized hj
  · exact nil_sized
end Go.Proofs.Ytjijjncddjkdlaa

/- The law of the leads. -/
namespace Go.Proofs.Ytjijjncddjkdlaa
open Go.RowKit
set_option linter.unusedVariables false
set_option linter.unusedSimpArgs false
section
variable {n0 nx : Nat} {L : List E} {K : V → List E → Nat → Prop} {j : Coast}
theorem long_k (hj : j.length < 9223372036854775808) (hs : find L 0 = some ⟨0, .ro 1, slsC 1 j⟩) (hK : K (V.c (.bool (longB j))) [] nx) : CallK Try.prog n0 14 [V.c (.sl 0 j.length)] L nx K :=
  CallK.val (R := []) (long_any j hj) (by kernel_rfl) rfl (by simp [V.wf, A.wf, C.wf]) ⟨roE_id (Nat.succ_pos _) (wf_sls _ _ _ (by omega)) hs (.inr rfl) rfl, trivial⟩ rfl rfl trivial hK
theorem sane_k (hK : K (V.c (.bool true)) [] nx) : CallK Try.prog n0 15 [] L nx K :=
  CallK.val (R := []) sane_spec (by kernel_rfl) rfl (by simp) trivial rfl rfl trivial hK
end
theorem isTrue_any {f : FuncId} {vs : List V} {L : List E} {na : Nat} {ρ : Env} {w : World} {args : Array Value} (spec : Spec Try.prog f vs L na (Is (V.c (.bool true)))) (hp : Hp w.heap.size ρ w L na) (hv : ∀ v ∈ vs, v.wf na) (ha : (vs.map (V.den ρ)).toArray = args) :
    Calls Try.prog f args w fun e w' => e = .returned (.bool true) ∧ Below w.heap.size w w' := by
  subst ha
  refine (spec ρ w hp hv).mono ?_
  rintro e w' ⟨v, ρ', L', nx', rfl, h1, h2, h3, h4, h5, h6⟩
  exact ⟨by rw [h6 ρ']; rfl, h4⟩
end Go.Proofs.Ytjijjncddjkdlaa

/- The law of the others: a beach for each job, and beaches turned round. -/
namespace Go.Proofs.Ytjijjncddjkdlaa
open Go.RowKit
set_option linter.unusedVariables false
set_option linter.unusedSimpArgs false
theorem others_long (j : Coast) (hj : j.length < 9223372036854775808) (hl : longB j = true) :
    Spec Try.prog 8 [V.c (.sl 0 j.length)] [⟨0, .ro 1, slsC 1 j⟩] (j.length + 32) (Is (V.c (.bool true))) := by
  refine Spec.of tok Try.func8 rfl rfl rfl fun n0 cx => vc_ok tok ?_
  repeat ((conv => whnf); first | (refine And.intro (by first | omega | exact Nat.le_of_ble_eq_true rfl | (dsimp only [inK]; omega) | (simp only [mulS_eq]; omega) | (simp only [mulS_eq, setL_length]; omega) | (simp only [setL_length]; omega) | (simp only [setL_length, List.length_map]; omega) | (exact ⟨by omega, by omega, by first | exact Nat.le_of_ble_eq_true rfl | (dsimp only; omega) | (simp only [setL_length]; omega) | (simp only [setL_length, List.length_map]; omega)⟩) | (exact ⟨by omega, by first | rfl | omega, by omega, Nat.le_of_ble_eq_true rfl, Nat.le_of_ble_eq_true rfl⟩) | (exact ⟨rfl, rfl, rfl, Nat.le_of_ble_eq_true rfl, by first | rfl | omega | exact Nat.le_of_ble_eq_true rfl | (dsimp only; omega) | (simp; done) | (simp; omega), by first | rfl | omega | exact Nat.le_of_ble_eq_true rfl | (dsimp only; omega) | (simp; done) | (simp; omega), by omega, Nat.le_of_ble_eq_true rfl⟩) | exact Eq.refl true) ?_) | refine Exists.intro _ (And.intro rfl ?_) | refine And.intro (And.intro rfl (chk_rowI _ _ _ _)) ?_ | refine br_t (by omega) ?_ | refine br_f (by omega) ?_ | refine bs_t (by omega) ?_ | refine bs_f (by omega) ?_ | refine fun (K' : K3) hK' => ?_ | (refine hK' _ _ _ ?_; clear hK' K') | refine draw_auto tok mixed (by kernel_rfl) ?_ | refine long_k hj rfl ?_ | refine bs_bt hl ?_ | refine br_bt hl ?_ | refine sane_k ?_ | refine bs_bt (Eq.refl true) ?_ | refine bs_bf (Eq.refl false) ?_ | refine br_bt (Eq.refl true) ?_ | refine br_bf (Eq.refl false) ?_ | refine CallK.m ?_ | refine Two.l ?_ | refine And.intro (And.intro rfl rfl) ?_)
  intro ρ; rfl
set_option maxHeartbeats 8000000 in
set_option maxRecDepth 100000 in
theorem others_spec (j : Coast) (hj : Sized j) (hl : longB j = false) :
    Spec Try.prog 8 [V.c (.sl 0 j.length)] (⟨0, .ro 1, slsC 1 j⟩ :: entC 1 j) 32 (Is (V.c (.bool true))) := by
  have hj20 := hj.len
  have h1 := Free_spec j hj
  have h2 := rFree_spec j hj
  have h3 := Turned_spec j hj
  have h4 := rTurned_spec j hj
  have hs1 := free_sized j
  have hs2 := turnR_sized hj
  have hs120 := hs1.len
  have hs220 := hs2.len
  have s1 := same_spec (freeR j) hs1 hs1.be
  have s2 := same_spec (turnR j) hs2 hs2.be
  obtain ⟨a, ha⟩ : ∃ a, a = freeR j := ⟨_, rfl⟩
  obtain ⟨b, hb⟩ : ∃ b, b = turnR j := ⟨_, rfl⟩
  obtain ⟨e, he⟩ : ∃ e, e = freeE j := ⟨_, rfl⟩
  obtain ⟨f, hf⟩ : ∃ f, f = turnE j := ⟨_, rfl⟩
  rw [← ha] at h1 h2 s1 hs1 hs120
  rw [← he] at h1 h2
  rw [← hb] at h3 h4 s2 hs2 hs220
  rw [← hf] at h3 h4
  clear ha hb he hf
  have q1 : e = e := rfl
  have q2 : f = f := rfl
  refine Spec.of tok Try.func8 rfl rfl rfl fun n0 cx => vc_ok tok ?_
  repeat ((conv => whnf); first | (refine And.intro (by first | omega | exact Nat.le_of_ble_eq_true rfl | (dsimp only [inK]; omega) | (simp only [mulS_eq]; omega) | (simp only [mulS_eq, setL_length]; omega) | (simp only [setL_length]; omega) | (simp only [setL_length, List.length_map]; omega) | (exact ⟨by omega, by omega, by first | exact Nat.le_of_ble_eq_true rfl | (dsimp only; omega) | (simp only [setL_length]; omega) | (simp only [setL_length, List.length_map]; omega)⟩) | (exact ⟨by omega, by first | rfl | omega, by omega, Nat.le_of_ble_eq_true rfl, Nat.le_of_ble_eq_true rfl⟩) | (exact ⟨rfl, rfl, rfl, Nat.le_of_ble_eq_true rfl, by first | rfl | omega | exact Nat.le_of_ble_eq_true rfl | (dsimp only; omega) | (simp; done) | (simp; omega), by first | rfl | omega | exact Nat.le_of_ble_eq_true rfl | (dsimp only; omega) | (simp; done) | (simp; omega), by omega, Nat.le_of_ble_eq_true rfl⟩) | exact Eq.refl true) ?_) | refine Exists.intro _ (And.intro rfl ?_) | refine And.intro (And.intro rfl (chk_rowI _ _ _ _)) ?_ | refine br_t (by omega) ?_ | refine br_f (by omega) ?_ | refine bs_t (by omega) ?_ | refine bs_f (by omega) ?_ | refine fun (K' : K3) hK' => ?_ | (refine hK' _ _ _ ?_; clear hK' K') | (refine CallM.rows (d := []) (R := []) 40 (by omega) plain_jobs (fun p x => chk_jobs p x) rfl (fun e => by cases e) hs120 h1 (by kernel_rfl) rfl (by simp [V.wf, A.wf, C.wf]) (HasC.ro ⟨by ((try (conv => lhs; arg 1; whnf)); (repeat (first | rw [find_skip (by omega)] | rw [find_fam (by omega)])); rfl), fun k hk => by ((try (conv => lhs; arg 1; whnf)); (repeat (first | rw [find_skip (by omega)] | rw [find_fam (by omega)])); exact entC_find hk)⟩ hj) (injC hj) ?_) | (refine CallM.rows (d := []) (R := []) 61 (by omega) plain_jobs (fun p x => chk_jobs p x) rfl (fun e => by cases e) hs120 h2 (by kernel_rfl) rfl (by simp [V.wf, A.wf, C.wf]) (HasC.ro ⟨by ((try (conv => lhs; arg 1; whnf)); (repeat (first | rw [find_skip (by omega)] | rw [find_fam (by omega)])); rfl), fun k hk => by ((try (conv => lhs; arg 1; whnf)); (repeat (first | rw [find_skip (by omega)] | rw [find_fam (by omega)])); exact entC_find hk)⟩ hj) (injC hj) ?_) | (refine CallM.rows (d := []) (R := []) 82 (by omega) plain_jobs (fun p x => chk_jobs p x) rfl (fun e => by cases e) hs220 h3 (by kernel_rfl) rfl (by simp [V.wf, A.wf, C.wf]) (HasC.ro ⟨by ((try (conv => lhs; arg 1; whnf)); (repeat (first | rw [find_skip (by omega)] | rw [find_fam (by omega)])); rfl), fun k hk => by ((try (conv => lhs; arg 1; whnf)); (repeat (first | rw [find_skip (by omega)] | rw [find_fam (by omega)])); exact entC_find hk)⟩ hj) (injC hj) ?_) | (refine CallM.rows (d := []) (R := []) 103 (by omega) plain_jobs (fun p x => chk_jobs p x) rfl (fun e => by cases e) hs220 h4 (by kernel_rfl) rfl (by simp [V.wf, A.wf, C.wf]) (HasC.ro ⟨by ((try (conv => lhs; arg 1; whnf)); (repeat (first | rw [find_skip (by omega)] | rw [find_fam (by omega)])); rfl), fun k hk => by ((try (conv => lhs; arg 1; whnf)); (repeat (first | rw [find_skip (by omega)] | rw [find_fam (by omega)])); exact entC_find hk)⟩ hj) (injC hj) ?_) | refine draw_auto tok mixed (by kernel_rfl) ?_ | refine long_k (by omega) rfl ?_ | refine bs_bf hl ?_ | refine br_bf hl ?_ | refine bs_t q1 ?_ | refine br_t q1 ?_ | refine bs_t q2 ?_ | refine br_t q2 ?_ | (refine CallK.val (R := samR 32 40 60 61 a.length) s1 (by kernel_rfl) rfl (by simp [V.wf, A.wf, C.wf]) (HasU.same (HasT.u ⟨by ((try (conv => lhs; arg 1; whnf)); (repeat (first | rw [find_skip (by omega)] | rw [find_fam (by omega)])); rfl), fun i hi => by ((try (conv => lhs; arg 1; whnf)); (repeat (first | rw [find_skip (by omega)] | rw [find_fam (by omega)])); exact find_app_some (famE_find hi))⟩) (HasT.u ⟨by ((try (conv => lhs; arg 1; whnf)); (repeat (first | rw [find_skip (by omega)] | rw [find_fam (by omega)])); rfl), fun i hi => by ((try (conv => lhs; arg 1; whnf)); (repeat (first | rw [find_skip (by omega)] | rw [find_fam (by omega)])); exact find_app_some (famE_find hi))⟩) hs1) (inj_same hs120) rfl trivial ?_) | (refine CallK.val (R := samR 81 82 102 103 b.length) s2 (by kernel_rfl) rfl (by simp [V.wf, A.wf, C.wf]) (HasU.same (HasT.u ⟨by ((try (conv => lhs; arg 1; whnf)); (repeat (first | rw [find_skip (by omega)] | rw [find_fam (by omega)])); rfl), fun i hi => by ((try (conv => lhs; arg 1; whnf)); (repeat (first | rw [find_skip (by omega)] | rw [find_fam (by omega)])); exact find_app_some (famE_find hi))⟩) (HasT.u ⟨by ((try (conv => lhs; arg 1; whnf)); (repeat (first | rw [find_skip (by omega)] | rw [find_fam (by omega)])); rfl), fun i hi => by ((try (conv => lhs; arg 1; whnf)); (repeat (first | rw [find_skip (by omega)] | rw [find_fam (by omega)])); exact find_app_some (famE_find hi))⟩) hs2) (inj_same hs220) rfl trivial ?_) | refine sane_k ?_ | refine bs_bt (Eq.refl true) ?_ | refine bs_bf (Eq.refl false) ?_ | refine br_bt (Eq.refl true) ?_ | refine br_bf (Eq.refl false) ?_ | refine CallK.m ?_ | refine Two.l ?_ | refine And.intro (And.intro rfl rfl) ?_)
  intro ρ; rfl
theorem others_any (j : Coast) (ao : Option Addr) (c : Nat) (bs : Nat → Option Addr × Nat) (w : World) (h : CoastAt w ao c j bs) :
    Calls Try.prog 8 #[.slice ao j.length c] w fun e w' => e = .returned (.bool true) ∧ Below w.heap.size w w' := by
  rcases bool_or (longB j) with hl | hl
  · exact isTrue_any (vs := [V.c (.sl 0 j.length)]) (others_spec j (longB_sized hl) hl) (hp_coast h (longB_sized hl)) (by simp [V.wf, A.wf, C.wf]) rfl
  · exact isTrue_any (vs := [V.c (.sl 0 j.length)]) (others_long j h.lt hl) (hp_long h none 0) (by simp [V.wf, A.wf, C.wf]) rfl
end Go.Proofs.Ytjijjncddjkdlaa

