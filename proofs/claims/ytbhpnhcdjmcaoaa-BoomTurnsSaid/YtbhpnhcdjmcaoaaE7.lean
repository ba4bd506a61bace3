/- Texts of the proof, part 7: B9, P5, P6, P9, D1, P10, D2. -/
import Derived.Test.YtbhpnhcdjmcaoaaE6
import Derived.WalkKit
import Derived.Below
import Derived.Laws.OwnMore
import Derived.Maps.AppendAt
import Derived.Laws.IdiomCopy
import Derived.Laws.CopyRow
import Derived.IntWalk
import Derived.StillTail
import Derived.Scope
import Derived.ChangeKeysEq
import Derived.Laws.Small
import Derived.OrdersIn
import Derived.TacticsIn
import Derived.OwnWalkIn
import Derived.RangeFuncNested
import Derived.RangeFuncLeaves
import Derived.RangeFuncRecord
import Derived.Maps.Keyed
import Derived.Maps.RangeRun
import Derived.DeepKeys4
import Derived.Test.YtbhpnhcdjmcaoaaRows
import Derived.KernelRfl
import Derived.ProofKit
import Derived.OpenShut
import Derived.Lib.SmallJoins
import Derived.Deep.Slices
/- Boom: IsBarrier, CostOf, Cheapest, Barrier. -/
namespace Go.Proofs.Ytbhpnhcdjmcaoaa
open Go.RowKit
set_option linter.unusedVariables false
set_option linter.unusedSimpArgs false
section
variable {P : Program} {n0 nx nac : Nat} {f : FuncId} {vs vs' : List V} {Lc L : List E} {R : Rn} {K : V → List E → Nat → Prop}
theorem CallK.lisT {W H : Int} {l : List Cell} (ho : listOkK W H l l.length = true) (spec : Spec P f vs Lc nac (fun v L' _ => lisR W H l v L')) (hok : callB P f = true)
    (hv : renVs R vs = some vs') (hvw : ∀ v ∈ vs, v.wf nac) (hL : roL R nac L Lc) (hLc : injB [] Lc = true)
    (hK : K (V.tup [A.c (.sl nx l.length), A.c (.bool (lenOk l))]) [⟨nx, .vec 3 1, (listI W H l).map C.i⟩] (nx + 1)) : CallK P n0 f vs' L nx K := by
  refine CallK.mk' hok spec hv hvw hL hLc ?_
  intro v L' nx' hw hq
  unfold lisR at hq
  rw [ho] at hq
  obtain ⟨lab, rfl, hf⟩ := hq
  refine ⟨V.tup [A.c (.sl nx l.length), A.c (.bool (lenOk l))], [⟨nx, .vec 3 1, (listI W H l).map C.i⟩], nx + 1, [(nx, some lab)], ⟨Nat.le_succ _, ?_, ?_, ⟨covE_some (renL_one _ _) (Nat.lt_succ_self nx) (wf_ints _ _) hf (ren_ints _ _), trivial⟩, rfl, ?_⟩, hK⟩
  · simp [V.ren, A.ren, C.ren, renL_one, seqO]
  · simp [V.chk, A.chk, C.chk, inLab_one]
  · simp only [List.all_cons, List.all_nil, Bool.and_true, inLab_one, Kd.isRo, Bool.not_false, Bool.true_and]
    exact chk_ints _ _
theorem CallK.lisF {W H : Int} {l : List Cell} (ho : listOkK W H l l.length = false) (spec : Spec P f vs Lc nac (fun v L' _ => lisR W H l v L')) (hok : callB P f = true)
    (hv : renVs R vs = some vs') (hvw : ∀ v ∈ vs, v.wf nac) (hL : roL R nac L Lc) (hLc : injB [] Lc = true)
    (hK : K (V.tup [A.c .nil, A.c .ff]) [] nx) : CallK P n0 f vs' L nx K := by
  refine CallK.mk' hok spec hv hvw hL hLc ?_
  intro v L' nx' hw hq
  unfold lisR at hq
  rw [ho] at hq
  have hq : v = V.tup [A.c .nil, A.c .ff] := hq
  subst hq
  exact ⟨V.tup [A.c .nil, A.c .ff], [], nx, [], ⟨Nat.le_refl _, rfl, rfl, trivial, rfl, rfl⟩, hK⟩
theorem CallK.cellsR {l : List Cell} (spec : Spec P f vs Lc nac (fun v L' _ => cellsX l v L')) (hok : callB P f = true)
    (hv : renVs R vs = some vs') (hvw : ∀ v ∈ vs, v.wf nac) (hL : roL R nac L Lc) (hLc : injB [] Lc = true)
    (hK : K (V.c (.sl nx l.length)) [⟨nx, .vec 57 2, cellC l⟩] (nx + 1)) : CallK P n0 f vs' L nx K := by
  refine CallK.mk' hok spec hv hvw hL hLc ?_
  rintro v L' nx' hw (⟨rfl, rfl⟩ | ⟨lab, rfl, hf⟩)
  · refine ⟨V.c (.sl nx 0), [⟨nx, .vec 57 2, []⟩], nx + 1, [(nx, none)], ⟨Nat.le_succ _, ?_, ?_, ⟨covE_nil (renL_one _ _) (Nat.lt_succ_self nx) rfl rfl, trivial⟩, rfl, ?_⟩, hK⟩
    · simp only [V.ren, A.ren, C.ren, renL_one]
    · simp only [V.chk, A.chk, C.chk]; exact inLab_one nx
    · simp only [List.all_cons, List.all_nil, Bool.and_true, inLab_one, Kd.isRo, Bool.not_false]
  · refine ⟨V.c (.sl nx l.length), [⟨nx, .vec 57 2, cellC l⟩], nx + 1, [(nx, some lab)], ⟨Nat.le_succ _, ?_, ?_, ⟨covE_some (renL_one _ _) (Nat.lt_succ_self nx) (wf_cells _ _) hf (ren_cells _ _), trivial⟩, rfl, ?_⟩, hK⟩
    · simp only [V.ren, A.ren, C.ren, renL_one]
    · simp only [V.chk, A.chk, C.chk]; exact inLab_one nx
    · simp only [List.all_cons, List.all_nil, Bool.and_true, inLab_one, Kd.isRo, Bool.not_false, Bool.true_and]
      exact chk_cells _ _
/-- Cells and an error. -/
def cellsE (l : List Cell) (Er : Int) (v : V) (L' : List E) : Prop :=
  ∃ o : C, v = V.tup [A.c o, A.c (C.i Er)] ∧ ((o = C.nil ∧ l = []) ∨ ∃ lab, o = C.sl lab l.length ∧ find L' lab = some ⟨lab, .vec 57 2, cellC l⟩)
theorem CallK.cellsE {l : List Cell} {Er : Int} (spec : Spec P f vs Lc nac (fun v L' _ => cellsE l Er v L')) (hok : callB P f = true)
    (hv : renVs R vs = some vs') (hvw : ∀ v ∈ vs, v.wf nac) (hL : roL R nac L Lc) (hLc : injB [] Lc = true)
    (hK : K (V.tup [A.c (.sl nx l.length), A.c (C.i Er)]) [⟨nx, .vec 57 2, cellC l⟩] (nx + 1)) : CallK P n0 f vs' L nx K := by
  refine CallK.mk' hok spec hv hvw hL hLc ?_
  rintro v L' nx' hw ⟨o, rfl, ⟨rfl, rfl⟩ | ⟨lab, rfl, hf⟩⟩
  · refine ⟨V.tup [A.c (.sl nx 0), A.c (C.i Er)], [⟨nx, .vec 57 2, []⟩], nx + 1, [(nx, none)], ⟨Nat.le_succ _, ?_, ?_, ⟨covE_nil (renL_one _ _) (Nat.lt_succ_self nx) rfl rfl, trivial⟩, rfl, ?_⟩, hK⟩
    · simp [V.ren, A.ren, C.ren, renL_one, C.i, seqO]
    · simp [V.chk, A.chk, C.chk, inLab_one, C.i]
    · simp only [List.all_cons, List.all_nil, Bool.and_true, inLab_one, Kd.isRo, Bool.not_false]
  · refine ⟨V.tup [A.c (.sl nx l.length), A.c (C.i Er)], [⟨nx, .vec 57 2, cellC l⟩], nx + 1, [(nx, some lab)], ⟨Nat.le_succ _, ?_, ?_, ⟨covE_some (renL_one _ _) (Nat.lt_succ_self nx) (wf_cells _ _) hf (ren_cells _ _), trivial⟩, rfl, ?_⟩, hK⟩
    · simp [V.ren, A.ren, C.ren, renL_one, C.i, seqO]
    · simp [V.chk, A.chk, C.chk, inLab_one, C.i]
    · simp only [List.all_cons, List.all_nil, Bool.and_true, inLab_one, Kd.isRo, Bool.not_false, Bool.true_and]
      exact chk_cells _ _
end
theorem listI_len (W H : Int) (l : List Cell) : (listI W H l).length = l.length := by simp [listI]
theorem listI_get {W H : Int} {l : List Cell} {k : Nat} (h : k < l.length) : (listI W H l).getD k 0 = idxC W H (l.getD k cz) := by
  simp [listI, List.getD_eq_getElem?_getD, h]
theorem listOk_in {W H : Int} {l : List Cell} (hW : 0 < W) (ho : listOkK W H l l.length = true) : ∀ k, k < (listI W H l).length → 0 ≤ (listI W H l).getD k 0 ∧ (listI W H l).getD k 0 < W * H := fun k hk => by
  rw [listI_len] at hk
  rw [listI_get hk]
  have h1 := List.all_eq_true.1 ho k (by simpa using hk)
  unfold listOk at h1
  simp only [Bool.not_eq_true', Bool.or_eq_false_iff, decide_eq_false_iff_not] at h1
  have h2 : idxC W H (l.getD k cz) ≥ 0 := by have := h1.1; omega
  exact ⟨h2, (idxI_lt hW h2).1⟩
/-- A list is a barrier, as the program finds it. -/
def pIsBar (W H : Int) (cs : List Int) (l : List Cell) : Bool := listOkK W H l l.length && (lenOk l && isBarP W H cs (listI W H l))
set_option maxHeartbeats 4000000 in
theorem isBarrier_spec (W H : Int) (cs : List Int) (l : List Cell) (hl : cs.length ≤ 300) (hc : l.length ≤ 300) :
    Spec Try.prog 37 [chR W H cs.length, V.c (.sl 1 l.length)] [⟨0, .ro 0, cs.map C.i⟩, ⟨1, .ro 2, cellC l⟩] 2 (Is (V.tup [A.c (.bool (okC W H cs && pIsBar W H cs l)), A.c (C.i (if okC W H cs then 0 else 30))])) := by
  refine Spec.of tok Try.func37 rfl rfl rfl fun n0 cx => vc_ok tok ?_
  cases hv : okC W H cs with
  | false =>
    repeat ((conv => whnf); first | (refine And.intro (by first | omega | exact Nat.le_of_ble_eq_true rfl | (dsimp only [inK]; omega) | (simp only [mulS_eq]; omega) | (simp only [mulS_eq, setL_length]; omega) | (simp only [setL_length, List.length_map]; omega) | exact ⟨by omega, by omega, by first | exact Nat.le_of_ble_eq_true rfl | (dsimp only; omega) | (simp only [setL_length]; omega) | (simp only [setL_length, List.length_map]; omega)⟩ | exact ⟨by omega, by first | rfl | omega, by omega, Nat.le_of_ble_eq_true rfl, Nat.le_of_ble_eq_true rfl⟩ | exact ⟨rfl, rfl, rfl, Nat.le_of_ble_eq_true rfl, by first | rfl | omega | exact Nat.le_of_ble_eq_true rfl | (dsimp only; omega) | (simp; done) | (simp; omega), by first | rfl | omega | exact Nat.le_of_ble_eq_true rfl | (dsimp only; omega) | (simp; done) | (simp; omega), by omega, Nat.le_of_ble_eq_true rfl⟩ | exact Eq.refl true) ?_) | (refine Exists.intro _ (And.intro rfl ?_)) | (refine And.intro (And.intro rfl (chk_rowI _ _ _ _)) ?_) | (refine br_t (by omega) ?_) | (refine br_f (by omega) ?_) | (refine bs_t (by omega) ?_) | (refine bs_f (by omega) ?_) | (refine fun (K' : K3) hK' => ?_) | (refine hK' _ _ _ ?_; clear hK' K') | (refine draw_auto tok mixed (by kernel_rfl) ?_) | (refine CallK.newNo (a := 0) (bs := []) (R := [(1, none)]) 30 hl (by simp) (.inl ⟨hv, rfl⟩) rfl rfl (roNil rfl) ?_) | (refine bs_bt (Eq.refl true) ?_) | (refine bs_bf (Eq.refl false) ?_) | (refine br_bt (Eq.refl true) ?_) | (refine br_bf (Eq.refl false) ?_) | (refine CallK.m ?_) | (refine And.intro (And.intro rfl rfl) ?_))
    intro ρ; rfl
  | true =>
    have hok := okC_iff.1 hv
    have hW := hok.w
    have hH := hok.h
    have hli := listed_spec W H cs.length l (by omega) (by omega) hc
    cases hlo : listOkK W H l l.length with
    | false =>
      have hr : pIsBar W H cs l = false := by unfold pIsBar; rw [hlo]; rfl
      rw [hr]
      repeat ((conv => whnf); first | (refine And.intro (by first | omega | exact Nat.le_of_ble_eq_true rfl | (dsimp only [inK]; omega) | (simp only [mulS_eq]; omega) | (simp only [mulS_eq, setL_length]; omega) | (simp only [setL_length, List.length_map]; omega) | exact ⟨by omega, by omega, by first | exact Nat.le_of_ble_eq_true rfl | (dsimp only; omega) | (simp only [setL_length]; omega) | (simp only [setL_length, List.length_map]; omega)⟩ | exact ⟨by omega, by first | rfl | omega, by omega, Nat.le_of_ble_eq_true rfl, Nat.le_of_ble_eq_true rfl⟩ | exact ⟨rfl, rfl, rfl, Nat.le_of_ble_eq_true rfl, by first | rfl | omega | exact Nat.le_of_ble_eq_true rfl | (dsimp only; omega) | (simp; done) | (simp; omega), by first | rfl | omega | exact Nat.le_of_ble_eq_true rfl | (dsimp only; omega) | (simp; done) | (simp; omega), by omega, Nat.le_of_ble_eq_true rfl⟩ | exact Eq.refl true) ?_) | (refine Exists.intro _ (And.intro rfl ?_)) | (refine And.intro (And.intro rfl (chk_rowI _ _ _ _)) ?_) | (refine br_t (by omega) ?_) | (refine br_f (by omega) ?_) | (refine bs_t (by omega) ?_) | (refine bs_f (by omega) ?_) | (refine fun (K' : K3) hK' => ?_) | (refine hK' _ _ _ ?_; clear hK' K') | (refine draw_auto tok mixed (by kernel_rfl) ?_) | (refine CallK.newOk (a := 0) (bs := []) (R := [(1, none)]) hl (by simp) hv (okB_nil _ _ _) rfl rfl (by omega) (roNil rfl) ?_) | (refine CallK.lisF (R := [(1, some 3), (2, some 1)]) hlo hli (by kernel_rfl) rfl (by simp [V.wf, A.wf, C.wf]) ⟨roE_cells rfl (by omega) rfl (.inr rfl), trivial⟩ rfl ?_) | (refine bs_bt (Eq.refl true) ?_) | (refine bs_bf (Eq.refl false) ?_) | (refine br_bt (Eq.refl true) ?_) | (refine br_bf (Eq.refl false) ?_) | (refine CallK.m ?_) | (refine And.intro (And.intro rfl rfl) ?_))
      intro ρ; rfl
    | true =>
      have hib := pisBar_spec W H cs (listI W H l) hok (by rw [listI_len]; exact hc) (listOk_in (by omega) hlo)
      rw [listI_len] at hib
      have hr : pIsBar W H cs l = (lenOk l && isBarP W H cs (listI W H l)) := by unfold pIsBar; rw [hlo]; rfl
      rw [hr]
      have LT := @CallK.lisT
      cases hle : lenOk l with
      | false =>
        repeat ((conv => whnf); first | (refine And.intro (by first | omega | exact Nat.le_of_ble_eq_true rfl | (dsimp only [inK]; omega) | (simp only [mulS_eq]; omega) | (simp only [mulS_eq, setL_length]; omega) | (simp only [setL_length, List.length_map]; omega) | exact ⟨by omega, by omega, by first | exact Nat.le_of_ble_eq_true rfl | (dsimp only; omega) | (simp only [setL_length]; omega) | (simp only [setL_length, List.length_map]; omega)⟩ | exact ⟨by omega, by first | rfl | omega, by omega, Nat.le_of_ble_eq_true rfl, Nat.le_of_ble_eq_true rfl⟩ | exact ⟨rfl, rfl, rfl, Nat.le_of_ble_eq_true rfl, by first | rfl | omega | exact Nat.le_of_ble_eq_true rfl | (dsimp only; omega) | (simp; done) | (simp; omega), by first | rfl | omega | exact Nat.le_of_ble_eq_true rfl | (dsimp only; omega) | (simp; done) | (simp; omega), by omega, Nat.le_of_ble_eq_true rfl⟩ | exact Eq.refl true) ?_) | (refine Exists.intro _ (And.intro rfl ?_)) | (refine And.intro (And.intro rfl (chk_rowI _ _ _ _)) ?_) | (refine br_t (by omega) ?_) | (refine br_f (by omega) ?_) | (refine bs_t (by omega) ?_) | (refine bs_f (by omega) ?_) | (refine fun (K' : K3) hK' => ?_) | (refine hK' _ _ _ ?_; clear hK' K') | (refine draw_auto tok mixed (by kernel_rfl) ?_) | (refine CallK.newOk (a := 0) (bs := []) (R := [(1, none)]) hl (by simp) hv (okB_nil _ _ _) rfl rfl (by omega) (roNil rfl) ?_) | (refine CallK.lisT (R := [(1, some 3), (2, some 1)]) hlo hli (by kernel_rfl) rfl (by simp [V.wf, A.wf, C.wf]) ⟨roE_cells rfl (by omega) rfl (.inr rfl), trivial⟩ rfl ?_) | (refine bs_bf hle ?_) | (refine br_bf hle ?_) | (refine bs_bt (Eq.refl true) ?_) | (refine bs_bf (Eq.refl false) ?_) | (refine br_bt (Eq.refl true) ?_) | (refine br_bf (Eq.refl false) ?_) | (refine CallK.m ?_) | (refine And.intro (And.intro rfl rfl) ?_))
        intro ρ; rfl
      | true =>
        repeat ((conv => whnf); first | (refine And.intro (by first | omega | exact Nat.le_of_ble_eq_true rfl | (dsimp only [inK]; omega) | (simp only [mulS_eq]; omega) | (simp only [mulS_eq, setL_length]; omega) | (simp only [setL_length, List.length_map]; omega) | exact ⟨by omega, by omega, by first | exact Nat.le_of_ble_eq_true rfl | (dsimp only; omega) | (simp only [setL_length]; omega) | (simp only [setL_length, List.length_map]; omega)⟩ | exact ⟨by omega, by first | rfl | omega, by omega, Nat.le_of_ble_eq_true rfl, Nat.le_of_ble_eq_true rfl⟩ | exact ⟨rfl, rfl, rfl, Nat.le_of_ble_eq_true rfl, by first | rfl | omega | exact Nat.le_of_ble_eq_true rfl | (dsimp only; omega) | (simp; done) | (simp; omega), by first | rfl | omega | exact Nat.le_of_ble_eq_true rfl | (dsimp only; omega) | (simp; done) | (simp; omega), by omega, Nat.le_of_ble_eq_true rfl⟩ | exact Eq.refl true) ?_) | (refine Exists.intro _ (And.intro rfl ?_)) | (refine And.intro (And.intro rfl (chk_rowI _ _ _ _)) ?_) | (refine br_t (by omega) ?_) | (refine br_f (by omega) ?_) | (refine bs_t (by omega) ?_) | (refine bs_f (by omega) ?_) | (refine fun (K' : K3) hK' => ?_) | (refine hK' _ _ _ ?_; clear hK' K') | (refine draw_auto tok mixed (by kernel_rfl) ?_) | (refine CallK.newOk (a := 0) (bs := []) (R := [(1, none)]) hl (by simp) hv (okB_nil _ _ _) rfl rfl (by omega) (roNil rfl) ?_) | (refine CallK.lisT (R := [(1, some 3), (2, some 1)]) hlo hli (by kernel_rfl) rfl (by simp [V.wf, A.wf, C.wf]) ⟨roE_cells rfl (by omega) rfl (.inr rfl), trivial⟩ rfl ?_) | (refine bs_bt hle ?_) | (refine br_bt hle ?_) | (refine CallK.val (R := [(1, some 3), (2, some 5)]) hib (by kernel_rfl) rfl (by simp [V.wf, A.wf, C.wf]) ⟨roE_ints (l := 0) rfl (by omega) rfl (.inl rfl), roE_ints (l := 5) rfl (by omega) rfl (.inl rfl), trivial⟩ rfl rfl trivial ?_) | (refine bs_bt (Eq.refl true) ?_) | (refine bs_bf (Eq.refl false) ?_) | (refine br_bt (Eq.refl true) ?_) | (refine br_bf (Eq.refl false) ?_) | (refine CallK.m ?_) | (refine And.intro (And.intro rfl rfl) ?_))
        intro ρ; rfl
def psumK (cs is : List Int) (k : Nat) : Int := ((is.take k).map (cstI cs)).sum
def psum (cs is : List Int) : Int := psumK cs is is.length
theorem psumK_succ {cs is : List Int} {k : Nat} (h : k < is.length) : psumK cs is (k + 1) = psumK cs is k + cstI cs (is.getD k 0) := by
  unfold psumK
  rw [List.take_add_one, show is[k]?.toList = [is.getD k 0] by rw [List.getElem?_eq_getElem h, List.getD_eq_getElem?_getD, List.getElem?_eq_getElem h]; rfl]
  simp
set_option maxHeartbeats 4000000 in
theorem costOf_spec (W H : Int) (cs : List Int) (l : List Cell) (hl : cs.length ≤ 300) (hc : l.length ≤ 300) :
    Spec Try.prog 39 [chR W H cs.length, V.c (.sl 1 l.length)] [⟨0, .ro 0, cs.map C.i⟩, ⟨1, .ro 2, cellC l⟩] 2 (Is (if okC W H cs then (if pIsBar W H cs l then V.tup [A.c (C.i (psum cs (listI W H l))), A.c (C.i 0)] else V.tup [A.c (C.i 0), A.c (C.i 5)]) else V.tup [A.c (C.i 0), A.c (C.i 30)])) := by
  refine Spec.of tok Try.func39 rfl rfl rfl fun n0 cx => vc_ok tok ?_
  cases hv : okC W H cs with
  | false =>
    repeat ((conv => whnf); first | (refine And.intro (by first | omega | exact Nat.le_of_ble_eq_true rfl | (dsimp only [inK]; omega) | (simp only [mulS_eq]; omega) | (simp only [mulS_eq, setL_length]; omega) | (simp only [setL_length, List.length_map]; omega) | exact ⟨by omega, by omega, by first | exact Nat.le_of_ble_eq_true rfl | (dsimp only; omega) | (simp only [setL_length]; omega) | (simp only [setL_length, List.length_map]; omega)⟩ | exact ⟨by omega, by first | rfl | omega, by omega, Nat.le_of_ble_eq_true rfl, Nat.le_of_ble_eq_true rfl⟩ | exact ⟨rfl, rfl, rfl, Nat.le_of_ble_eq_true rfl, by first | rfl | omega | exact Nat.le_of_ble_eq_true rfl | (dsimp only; omega) | (simp; done) | (simp; omega), by first | rfl | omega | exact Nat.le_of_ble_eq_true rfl | (dsimp only; omega) | (simp; done) | (simp; omega), by omega, Nat.le_of_ble_eq_true rfl⟩ | exact Eq.refl true) ?_) | (refine Exists.intro _ (And.intro rfl ?_)) | (refine And.intro (And.intro rfl (chk_rowI _ _ _ _)) ?_) | (refine br_t (by omega) ?_) | (refine br_f (by omega) ?_) | (refine bs_t (by omega) ?_) | (refine bs_f (by omega) ?_) | (refine fun (K' : K3) hK' => ?_) | (refine hK' _ _ _ ?_; clear hK' K') | (refine draw_auto tok mixed (by kernel_rfl) ?_) | (refine CallK.newNo (a := 0) (bs := []) (R := [(1, none)]) 30 hl (by simp) (.inl ⟨hv, rfl⟩) rfl rfl (roNil rfl) ?_) | (refine bs_bt (Eq.refl true) ?_) | (refine bs_bf (Eq.refl false) ?_) | (refine br_bt (Eq.refl true) ?_) | (refine br_bf (Eq.refl false) ?_) | (refine CallK.m ?_) | (refine And.intro (And.intro rfl rfl) ?_))
    intro ρ; rfl
  | true =>
    have hok := okC_iff.1 hv
    have hW := hok.w
    have hH := hok.h
    have hli := listed_spec W H cs.length l (by omega) (by omega) hc
    cases hlo : listOkK W H l l.length with
    | false =>
      have hr : pIsBar W H cs l = false := by unfold pIsBar; rw [hlo]; rfl
      rw [hr]
      repeat ((conv => whnf); first | (refine And.intro (by first | omega | exact Nat.le_of_ble_eq_true rfl | (dsimp only [inK]; omega) | (simp only [mulS_eq]; omega) | (simp only [mulS_eq, setL_length]; omega) | (simp only [setL_length, List.length_map]; omega) | exact ⟨by omega, by omega, by first | exact Nat.le_of_ble_eq_true rfl | (dsimp only; omega) | (simp only [setL_length]; omega) | (simp only [setL_length, List.length_map]; omega)⟩ | exact ⟨by omega, by first | rfl | omega, by omega, Nat.le_of_ble_eq_true rfl, Nat.le_of_ble_eq_true rfl⟩ | exact ⟨rfl, rfl, rfl, Nat.le_of_ble_eq_true rfl, by first | rfl | omega | exact Nat.le_of_ble_eq_true rfl | (dsimp only; omega) | (simp; done) | (simp; omega), by first | rfl | omega | exact Nat.le_of_ble_eq_true rfl | (dsimp only; omega) | (simp; done) | (simp; omega), by omega, Nat.le_of_ble_eq_true rfl⟩ | exact Eq.refl true) ?_) | (refine Exists.intro _ (And.intro rfl ?_)) | (refine And.intro (And.intro rfl (chk_rowI _ _ _ _)) ?_) | (refine br_t (by omega) ?_) | (refine br_f (by omega) ?_) | (refine bs_t (by omega) ?_) | (refine bs_f (by omega) ?_) | (refine fun (K' : K3) hK' => ?_) | (refine hK' _ _ _ ?_; clear hK' K') | (refine draw_auto tok mixed (by kernel_rfl) ?_) | (refine CallK.newOk (a := 0) (bs := []) (R := [(1, none)]) hl (by simp) hv (okB_nil _ _ _) rfl rfl (by omega) (roNil rfl) ?_) | (refine CallK.lisF (R := [(1, some 3), (2, some 1)]) hlo hli (by kernel_rfl) rfl (by simp [V.wf, A.wf, C.wf]) ⟨roE_cells rfl (by omega) rfl (.inr rfl), trivial⟩ rfl ?_) | (refine bs_bt (Eq.refl true) ?_) | (refine bs_bf (Eq.refl false) ?_) | (refine br_bt (Eq.refl true) ?_) | (refine br_bf (Eq.refl false) ?_) | (refine CallK.m ?_) | (refine And.intro (And.intro rfl rfl) ?_))
      intro ρ; rfl
    | true =>
      have hin := listOk_in (show 0 < W by omega) hlo
      have hib := pisBar_spec W H cs (listI W H l) hok (by rw [listI_len]; exact hc) hin
      rw [listI_len] at hib
      have hr : pIsBar W H cs l = (lenOk l && isBarP W H cs (listI W H l)) := by unfold pIsBar; rw [hlo]; rfl
      rw [hr]
      cases hle : lenOk l with
      | false =>
        repeat ((conv => whnf); first | (refine And.intro (by first | omega | exact Nat.le_of_ble_eq_true rfl | (dsimp only [inK]; omega) | (simp only [mulS_eq]; omega) | (simp only [mulS_eq, setL_length]; omega) | (simp only [setL_length, List.length_map]; omega) | exact ⟨by omega, by omega, by first | exact Nat.le_of_ble_eq_true rfl | (dsimp only; omega) | (simp only [setL_length]; omega) | (simp only [setL_length, List.length_map]; omega)⟩ | exact ⟨by omega, by first | rfl | omega, by omega, Nat.le_of_ble_eq_true rfl, Nat.le_of_ble_eq_true rfl⟩ | exact ⟨rfl, rfl, rfl, Nat.le_of_ble_eq_true rfl, by first | rfl | omega | exact Nat.le_of_ble_eq_true rfl | (dsimp only; omega) | (simp; done) | (simp; omega), by first | rfl | omega | exact Nat.le_of_ble_eq_true rfl | (dsimp only; omega) | (simp; done) | (simp; omega), by omega, Nat.le_of_ble_eq_true rfl⟩ | exact Eq.refl true) ?_) | (refine Exists.intro _ (And.intro rfl ?_)) | (refine And.intro (And.intro rfl (chk_rowI _ _ _ _)) ?_) | (refine br_t (by omega) ?_) | (refine br_f (by omega) ?_) | (refine bs_t (by omega) ?_) | (refine bs_f (by omega) ?_) | (refine fun (K' : K3) hK' => ?_) | (refine hK' _ _ _ ?_; clear hK' K') | (refine draw_auto tok mixed (by kernel_rfl) ?_) | (refine CallK.newOk (a := 0) (bs := []) (R := [(1, none)]) hl (by simp) hv (okB_nil _ _ _) rfl rfl (by omega) (roNil rfl) ?_) | (refine CallK.lisT (R := [(1, some 3), (2, some 1)]) hlo hli (by kernel_rfl) rfl (by simp [V.wf, A.wf, C.wf]) ⟨roE_cells rfl (by omega) rfl (.inr rfl), trivial⟩ rfl ?_) | (refine bs_bt (congrArg Bool.not hle) ?_) | (refine br_bt (congrArg Bool.not hle) ?_) | (refine bs_bt (Eq.refl true) ?_) | (refine bs_bf (Eq.refl false) ?_) | (refine br_bt (Eq.refl true) ?_) | (refine br_bf (Eq.refl false) ?_) | (refine CallK.m ?_) | (refine And.intro (And.intro rfl rfl) ?_))
        intro ρ; rfl
      | true =>
        cases hbp : isBarP W H cs (listI W H l) with
        | false =>
          repeat ((conv => whnf); first | (refine And.intro (by first | omega | exact Nat.le_of_ble_eq_true rfl | (dsimp only [inK]; omega) | (simp only [mulS_eq]; omega) | (simp only [mulS_eq, setL_length]; omega) | (simp only [setL_length, List.length_map]; omega) | exact ⟨by omega, by omega, by first | exact Nat.le_of_ble_eq_true rfl | (dsimp only; omega) | (simp only [setL_length]; omega) | (simp only [setL_length, List.length_map]; omega)⟩ | exact ⟨by omega, by first | rfl | omega, by omega, Nat.le_of_ble_eq_true rfl, Nat.le_of_ble_eq_true rfl⟩ | exact ⟨rfl, rfl, rfl, Nat.le_of_ble_eq_true rfl, by first | rfl | omega | exact Nat.le_of_ble_eq_true rfl | (dsimp only; omega) | (simp; done) | (simp; omega), by first | rfl | omega | exact Nat.le_of_ble_eq_true rfl | (dsimp only; omega) | (simp; done) | (simp; omega), by omega, Nat.le_of_ble_eq_true rfl⟩ | exact Eq.refl true) ?_) | (refine Exists.intro _ (And.intro rfl ?_)) | (refine And.intro (And.intro rfl (chk_rowI _ _ _ _)) ?_) | (refine br_t (by omega) ?_) | (refine br_f (by omega) ?_) | (refine bs_t (by omega) ?_) | (refine bs_f (by omega) ?_) | (refine fun (K' : K3) hK' => ?_) | (refine hK' _ _ _ ?_; clear hK' K') | (refine draw_auto tok mixed (by kernel_rfl) ?_) | (refine CallK.newOk (a := 0) (bs := []) (R := [(1, none)]) hl (by simp) hv (okB_nil _ _ _) rfl rfl (by omega) (roNil rfl) ?_) | (refine CallK.lisT (R := [(1, some 3), (2, some 1)]) hlo hli (by kernel_rfl) rfl (by simp [V.wf, A.wf, C.wf]) ⟨roE_cells rfl (by omega) rfl (.inr rfl), trivial⟩ rfl ?_) | (refine bs_bf (congrArg Bool.not hle) ?_) | (refine br_bf (congrArg Bool.not hle) ?_) | (refine CallK.val (R := [(1, some 3), (2, some 5)]) hib (by kernel_rfl) rfl (by simp [V.wf, A.wf, C.wf]) ⟨roE_ints (l := 0) rfl (by omega) rfl (.inl rfl), roE_ints (l := 5) rfl (by omega) rfl (.inl rfl), trivial⟩ rfl rfl trivial ?_) | (refine bs_bt (congrArg Bool.not hbp) ?_) | (refine br_bt (congrArg Bool.not hbp) ?_) | (refine bs_bt (Eq.refl true) ?_) | (refine bs_bf (Eq.refl false) ?_) | (refine br_bt (Eq.refl true) ?_) | (refine br_bf (Eq.refl false) ?_) | (refine CallK.m ?_) | (refine And.intro (And.intro rfl rfl) ?_))
          intro ρ; rfl
        | true =>
          have hn : W * H ≤ 100 := by have := Int.mul_le_mul hW.2 hH.2 (by omega) (by omega : (0:Int) ≤ 10); omega
          have hcn := hok.len
          have hcb := cst_bd hok.cost
          obtain ⟨is, his⟩ : ∃ is, is = listI W H l := ⟨_, rfl⟩
          have hlis : is.length = l.length := by rw [his, listI_len]
          rw [← his] at hin
          repeat ((conv => whnf); first | (refine And.intro (by first | omega | exact Nat.le_of_ble_eq_true rfl | (dsimp only [inK]; omega) | (simp only [mulS_eq]; omega) | (simp only [mulS_eq, setL_length]; omega) | (simp only [setL_length, List.length_map]; omega) | exact ⟨by omega, by omega, by first | exact Nat.le_of_ble_eq_true rfl | (dsimp only; omega) | (simp only [setL_length]; omega) | (simp only [setL_length, List.length_map]; omega)⟩ | exact ⟨by omega, by first | rfl | omega, by omega, Nat.le_of_ble_eq_true rfl, Nat.le_of_ble_eq_true rfl⟩ | exact ⟨rfl, rfl, rfl, Nat.le_of_ble_eq_true rfl, by first | rfl | omega | exact Nat.le_of_ble_eq_true rfl | (dsimp only; omega) | (simp; done) | (simp; omega), by first | rfl | omega | exact Nat.le_of_ble_eq_true rfl | (dsimp only; omega) | (simp; done) | (simp; omega), by omega, Nat.le_of_ble_eq_true rfl⟩ | exact Eq.refl true) ?_) | (refine Exists.intro _ (And.intro rfl ?_)) | (refine And.intro (And.intro rfl (chk_rowI _ _ _ _)) ?_) | (refine br_t (by omega) ?_) | (refine br_f (by omega) ?_) | (refine bs_t (by omega) ?_) | (refine bs_f (by omega) ?_) | (refine fun (K' : K3) hK' => ?_) | (refine hK' _ _ _ ?_; clear hK' K') | (refine draw_auto tok mixed (by kernel_rfl) ?_) | (refine CallK.newOk (a := 0) (bs := []) (R := [(1, none)]) hl (by simp) hv (okB_nil _ _ _) rfl rfl (by omega) (roNil rfl) ?_) | (refine CallK.lisT (R := [(1, some 3), (2, some 1)]) hlo hli (by kernel_rfl) rfl (by simp [V.wf, A.wf, C.wf]) ⟨roE_cells rfl (by omega) rfl (.inr rfl), trivial⟩ rfl ?_) | (refine bs_bf (congrArg Bool.not hle) ?_) | (refine br_bf (congrArg Bool.not hle) ?_) | (refine CallK.val (R := [(1, some 3), (2, some 5)]) hib (by kernel_rfl) rfl (by simp [V.wf, A.wf, C.wf]) ⟨roE_ints (l := 0) rfl (by omega) rfl (.inl rfl), roE_ints (l := 5) rfl (by omega) rfl (.inl rfl), trivial⟩ rfl rfl trivial ?_) | (refine bs_bf (congrArg Bool.not hbp) ?_) | (refine br_bf (congrArg Bool.not hbp) ?_) | (refine bs_bt (Eq.refl true) ?_) | (refine bs_bf (Eq.refl false) ?_) | (refine br_bt (Eq.refl true) ?_) | (refine br_bf (Eq.refl false) ?_) | (refine CallK.m ?_) | (refine And.intro (And.intro rfl rfl) ?_))
          rw [← his]
          clear hib hli his hbp hle hlo
          refine Tri.loop (γ := Nat) (fun k => k ≤ is.length ∧ 0 ≤ psumK cs is k ∧ psumK cs is k ≤ 100 * k) (fun k => [(6, V.c (.ptr 4 0)), (10, V.i (psumK cs is k)), (35, V.c (.sl 5 l.length)), (36, V.i l.length), (37, V.i (k : Nat))])
            (fun k => [⟨5, .vec 3 1, is.map C.i⟩, ⟨4, .own 65, [C.i W, C.i H, .sl 0 cs.length, .mp 3]⟩, ⟨0, .ro 0, cs.map C.i⟩]) 6 (fun k => is.length - k) 0 (R0 := []) ?_ ?_ ?_
          · exact ⟨by omega, by simp [psumK], by simp [psumK]⟩
          · skip
            refine ⟨?_, ?_, rfl, rfl, by first | exact Nat.le_of_ble_eq_true rfl | exact Nat.le_refl _ | omega⟩
            · repeat (first | exact trivial | refine And.intro (covS_syn (by first | rfl) rfl (by first | exact trivial | exact Nat.le_of_ble_eq_true rfl | exact hy | exact (fun p hp => nomatch hp) | (show (_ : Nat) < _; omega))) ?_ | refine And.intro (covS_bool rfl rfl (by first | rfl)) ?_)
            · repeat (first | exact trivial | refine And.intro (covE_id (Nat.le_of_ble_eq_true rfl) (by first | exact wf_ints _ _ | exact wf_bools _ _ | first | exact wf_cells _ _ | exact wf_zc _ | simp [C.wf]) rfl (by first | rfl)) ?_)
          · rintro k ⟨hk, hs0, hs1⟩
            refine vc_ok tok ?_
            by_cases hlt : k < is.length
            · have hld := intL hlt
              have hi0 := hin k hlt
              have hsu := psumK_succ (cs := cs) hlt
              obtain ⟨i, hi⟩ : ∃ i : Nat, (i : Int) = is.getD k 0 := ⟨(is.getD k 0).toNat, by omega⟩
              rw [← hi] at hld hi0 hsu
              have hc' := cost_spec W H cs i (by omega)
              have hck : cstI cs (i : Int) = if cs.getD i 0 > 0 then cs.getD i 0 else 0 := by simp [cstI]
              have hci := hcb (i : Int)
              rw [← hck] at hc'
              obtain ⟨ci, hcie⟩ : ∃ ci, ci = cstI cs (i : Int) := ⟨_, rfl⟩
              rw [← hcie] at hc' hci hsu
              repeat ((conv => whnf); first | (refine And.intro (by first | omega | exact Nat.le_of_ble_eq_true rfl | (dsimp only [inK]; omega) | (simp only [mulS_eq]; omega) | (simp only [mulS_eq, setL_length]; omega) | (simp only [setL_length, List.length_map]; omega) | exact ⟨by omega, by omega, by first | exact Nat.le_of_ble_eq_true rfl | (dsimp only; omega) | (simp only [setL_length]; omega) | (simp only [setL_length, List.length_map]; omega)⟩ | exact ⟨by omega, by first | rfl | omega, by omega, Nat.le_of_ble_eq_true rfl, Nat.le_of_ble_eq_true rfl⟩ | exact ⟨rfl, rfl, rfl, Nat.le_of_ble_eq_true rfl, by first | rfl | omega | exact Nat.le_of_ble_eq_true rfl | (dsimp only; omega) | (simp; done) | (simp; omega), by first | rfl | omega | exact Nat.le_of_ble_eq_true rfl | (dsimp only; omega) | (simp; done) | (simp; omega), by omega, Nat.le_of_ble_eq_true rfl⟩ | exact Eq.refl true) ?_) | (with_reducible refine ld (hld) ?_) | (refine Exists.intro _ (And.intro rfl ?_)) | (refine And.intro (And.intro rfl (chk_rowI _ _ _ _)) ?_) | (refine br_t (by omega) ?_) | (refine br_f (by omega) ?_) | (refine bs_t (by omega) ?_) | (refine bs_f (by omega) ?_) | (refine fun (K' : K3) hK' => ?_) | (refine hK' _ _ _ ?_; clear hK' K') | (refine draw_auto tok mixed (by kernel_rfl) ?_) | (refine CallK.val (R := [(1, some 3)]) hc' (by kernel_rfl) rfl (by simp [V.wf, A.wf, C.wf]) ⟨roE_ints (l := 0) rfl (by omega) rfl (.inl rfl), trivial⟩ rfl rfl trivial ?_) | (refine bs_bt (Eq.refl true) ?_) | (refine bs_bf (Eq.refl false) ?_) | (refine br_bt (Eq.refl true) ?_) | (refine br_bf (Eq.refl false) ?_) | (refine CallK.m ?_) | (refine And.intro (And.intro rfl rfl) ?_))
              refine ⟨k + 1, [], ⟨by omega, by omega, by omega⟩, by omega, ?_⟩
              refine ⟨?_, ?_, rfl, rfl, by first | exact Nat.le_of_ble_eq_true rfl | exact Nat.le_refl _ | omega⟩
              · repeat (first | exact trivial | refine And.intro (covS_syn (by first | rfl | (refine congrArg some (congrArg V.i ?_); omega)) rfl (by first | exact trivial | exact Nat.le_of_ble_eq_true rfl | exact hy | exact (fun p hp => nomatch hp) | (show (_ : Nat) < _; omega))) ?_ | refine And.intro (covS_bool rfl rfl (by first | rfl)) ?_)
              · repeat (first | exact trivial | refine And.intro (covE_id (Nat.le_of_ble_eq_true rfl) (by first | exact wf_ints _ _ | exact wf_bools _ _ | first | exact wf_cells _ _ | exact wf_zc _ | simp [C.wf]) rfl (by first | rfl)) ?_)
            · have hkl : k = is.length := by omega
              subst hkl
              repeat ((conv => whnf); first | (refine And.intro (by first | omega | exact Nat.le_of_ble_eq_true rfl | (dsimp only [inK]; omega) | (simp only [mulS_eq]; omega) | (simp only [mulS_eq, setL_length]; omega) | (simp only [setL_length, List.length_map]; omega) | exact ⟨by omega, by omega, by first | exact Nat.le_of_ble_eq_true rfl | (dsimp only; omega) | (simp only [setL_length]; omega) | (simp only [setL_length, List.length_map]; omega)⟩ | exact ⟨by omega, by first | rfl | omega, by omega, Nat.le_of_ble_eq_true rfl, Nat.le_of_ble_eq_true rfl⟩ | exact ⟨rfl, rfl, rfl, Nat.le_of_ble_eq_true rfl, by first | rfl | omega | exact Nat.le_of_ble_eq_true rfl | (dsimp only; omega) | (simp; done) | (simp; omega), by first | rfl | omega | exact Nat.le_of_ble_eq_true rfl | (dsimp only; omega) | (simp; done) | (simp; omega), by omega, Nat.le_of_ble_eq_true rfl⟩ | exact Eq.refl true) ?_) | (refine Exists.intro _ (And.intro rfl ?_)) | (refine And.intro (And.intro rfl (chk_rowI _ _ _ _)) ?_) | (refine br_t (by omega) ?_) | (refine br_f (by omega) ?_) | (refine bs_t (by omega) ?_) | (refine bs_f (by omega) ?_) | (refine fun (K' : K3) hK' => ?_) | (refine hK' _ _ _ ?_; clear hK' K') | (refine draw_auto tok mixed (by kernel_rfl) ?_) | (refine bs_bt (Eq.refl true) ?_) | (refine bs_bf (Eq.refl false) ?_) | (refine br_bt (Eq.refl true) ?_) | (refine br_bf (Eq.refl false) ?_) | (refine CallK.m ?_) | (refine And.intro (And.intro rfl rfl) ?_))
              intro ρ; rfl
end Go.Proofs.Ytbhpnhcdjmcaoaa

/- Boom, plain: what a barrier is. -/
namespace Go.Proofs.Ytbhpnhcdjmcaoaa
open Go.RowKit
set_option linter.unusedVariables false
set_option linter.unusedSimpArgs false
def adj (e : Bool) (p q : Cell) : Prop := (-1 ≤ p.1 - q.1 ∧ p.1 - q.1 ≤ 1) ∧ (-1 ≤ p.2 - q.2 ∧ p.2 - q.2 ≤ 1) ∧ ¬ (p.1 = q.1 ∧ p.2 = q.2) ∧ (e = true ∨ p.1 = q.1 ∨ p.2 = q.2)
theorem four_iff (x y u v : Int) : fourB x y u v = true ↔ adj false (x, y) (u, v) := by
  unfold fourB mx adj
  rw [decide_eq_true_eq]
  simp only [Bool.false_eq_true, false_or]
  split <;> split <;> omega
theorem eight_iff (x y u v : Int) : eightB x y u v = true ↔ adj true (x, y) (u, v) := by
  unfold eightB mx adj
  rw [decide_eq_true_eq]
  simp only [true_or, and_true]
  split <;> split <;> split <;> omega
theorem adj_mono {e : Bool} {p q : Cell} (h : adj false p q) : adj e p q := ⟨h.1, h.2.1, h.2.2.1, .inr (h.2.2.2.resolve_left (by simp))⟩
theorem step_iff {W H : Int} {e : Bool} {p q : Cell} : stepB W H e p q = true ↔ adj e p q := by
  unfold stepB
  rw [Bool.or_eq_true, Bool.and_eq_true, four_iff, eight_iff]
  constructor
  · rintro (h | ⟨rfl, h⟩)
    · exact adj_mono h
    · exact h
  · intro h
    cases e with
    | true => exact .inr ⟨rfl, h⟩
    | false => exact .inl h
theorem adj_symm {e : Bool} {p q : Cell} (h : adj e p q) : adj e q p := by
  obtain ⟨h1, h2, h3, h4⟩ := h
  exact ⟨by omega, by omega, fun hh => h3 ⟨hh.1.symm, hh.2.symm⟩, h4.imp id (Or.imp Eq.symm Eq.symm)⟩
theorem idxC_mod {W H : Int} {p : Cell} (h : onB W H p.1 p.2 = true) : idxC W H p = idxU W p ∧ idxC W H p % W = p.1 ∧ idxC W H p / W = p.2 := by
  have ho := onB_t h
  have h1 := idxI_on h
  have e : idxC W H p = idxU W p := h1.1
  have e2 : idxC W H p = p.1 + p.2 * W := by rw [e]; unfold idxU; omega
  have hm : p.1 % W = p.1 := Int.emod_eq_of_lt ho.1.1 ho.1.2
  have hd : p.1 / W = 0 := Int.ediv_eq_zero_of_lt ho.1.1 ho.1.2
  refine ⟨e, ?_, ?_⟩
  · rw [e2, Int.add_mul_emod_self_right, hm]
  · rw [e2, Int.add_mul_ediv_right _ _ (by omega), hd]; omega
theorem idxC_inj {W H : Int} {p q : Cell} (hp : onB W H p.1 p.2 = true) (hq : onB W H q.1 q.2 = true) (h : idxC W H p = idxC W H q) : p = q := by
  obtain ⟨_, p1, p2⟩ := idxC_mod hp
  obtain ⟨_, q1, q2⟩ := idxC_mod hq
  exact Prod.ext (by rw [← p1, h, q1]) (by rw [← p2, h, q2])
theorem near_iff {W H : Int} {e : Bool} {p q : Cell} (hp : onB W H p.1 p.2 = true) (hq : onB W H q.1 q.2 = true) : idxC W H p ∈ nearL W H e (idxC W H q) ↔ adj e p q := by
  obtain ⟨_, q1, q2⟩ := idxC_mod hq
  have hpo := onB_t hp
  unfold nearL
  rw [List.mem_filterMap]
  constructor
  · rintro ⟨j, hj, hc⟩
    have hj9 := List.mem_range.1 hj
    unfold candJ cand at hc
    rw [q1, q2] at hc
    split at hc
    · cases hc
    · rename_i hs
      split at hc
      · rename_i hx
        have hx2 := idxI_lt (show 0 < W by omega) hx
        have hr : onB W H (q.1 + ((j % 3 : Nat) : Int) - 1) (q.2 + ((j / 3 : Nat) : Int) - 1) = true := by
          simp only [onB, Bool.and_eq_true, decide_eq_true_eq]; omega
        have := idxC_inj (p := (q.1 + ((j % 3 : Nat) : Int) - 1, q.2 + ((j / 3 : Nat) : Int) - 1)) (q := p) hr hp (by
          injection hc with hc
          rw [← hc]
          show idxI W H _ _ = idxI W H _ _
          congr 1 <;> omega)
        rw [← this]
        have ha : j / 3 < 3 := by omega
        have hb : j % 3 < 3 := by omega
        generalize j / 3 = a at *
        generalize j % 3 = b at *
        refine ⟨by simp only; omega, by simp only; omega, fun hh => hs (.inl ?_), ?_⟩
        · simp only at hh; omega
        · cases e with
          | true => exact .inl rfl
          | false =>
            right
            by_cases hb1 : b = 1
            · left; simp only; omega
            · by_cases ha1 : a = 1
              · right; simp only; omega
              · exact absurd (.inr ⟨rfl, hb1, ha1⟩) hs
      · cases hc
  · rintro ⟨h1, h2, h3, h4⟩
    refine ⟨3 * (p.2 - q.2 + 1).toNat + (p.1 - q.1 + 1).toNat, List.mem_range.2 (by omega), ?_⟩
    have ha : (3 * (p.2 - q.2 + 1).toNat + (p.1 - q.1 + 1).toNat) / 3 = (p.2 - q.2 + 1).toNat := by omega
    have hb : (3 * (p.2 - q.2 + 1).toNat + (p.1 - q.1 + 1).toNat) % 3 = (p.1 - q.1 + 1).toNat := by omega
    have e1 : q.1 + (((p.1 - q.1 + 1).toNat : Int) - 1) = p.1 := by omega
    have e2 : q.2 + (((p.2 - q.2 + 1).toNat : Int) - 1) = p.2 := by omega
    have hx := idxI_on hp
    unfold candJ cand
    rw [q1, q2, ha, hb, e1, e2, if_neg, if_pos hx.2]
    · rfl
    · rintro (⟨g1, g2⟩ | ⟨g1, g2, g3⟩)
      · exact h3 ⟨by omega, by omega⟩
      · rcases h4 with h4 | h4 | h4
        · rw [g1] at h4; cases h4
        · omega
        · omega
/-- A barrier. -/
structure BarP (W H : Int) (cs : List Int) (l : List Cell) : Prop where
  on : ∀ j, j < l.length → onB W H (l.getD j cz).1 (l.getD j cz).2 = true
  nd : ∀ j i, j < l.length → i < j → ¬ l.getD j cz = l.getD i cz
  len : 1 ≤ l.length ∧ l.length ≤ 100
  adj : ∀ j, j + 1 < l.length → adj true (l.getD (j + 1) cz) (l.getD j cz)
  hold : ∀ j, j < l.length → ¬ cs.getD (idxU W (l.getD j cz)).toNat 0 = 0
  top : ∀ j, j < l.length → ((l.getD j cz).2 = 0 ↔ j = 0)
  bot : ∀ j, j < l.length → ((l.getD j cz).2 = H - 1 ↔ j + 1 = l.length)
theorem bne_dec {p q : Prop} [Decidable p] [Decidable q] : (decide p != decide q) = false ↔ (p ↔ q) := by
  by_cases hp : p <;> by_cases hq : q <;> simp [hp, hq]
theorem wayOk_iff {W H : Int} {l : List Cell} {e : Bool} {k : Nat} (hk : k < l.length) : wayOk W H l e k = true ↔ onB W H (l.getD k cz).1 (l.getD k cz).2 = true ∧ (k = 0 ∨ adj e (l.getD k cz) (l.getD (k - 1) cz)) ∧ ∀ i, i < k → ¬ l.getD k cz = l.getD i cz := by
  unfold wayOk
  rw [Bool.and_eq_true, Bool.and_eq_true, Bool.or_eq_true, decide_eq_true_eq, step_iff, Bool.not_eq_true']
  constructor
  · rintro ⟨h1, h2, h3⟩
    refine ⟨h1, h2, fun i hi h => ?_⟩
    rw [any_take hi (by omega) h] at h3; cases h3
  · rintro ⟨h1, h2, h3⟩
    exact ⟨h1, h2, any_none (by omega) h3⟩
theorem isWay_iff {W H : Int} {l : List Cell} {e : Bool} : isWayB W H l e = true ↔ (∀ j, j < l.length → onB W H (l.getD j cz).1 (l.getD j cz).2 = true) ∧ (∀ j i, j < l.length → i < j → ¬ l.getD j cz = l.getD i cz) ∧ (1 ≤ l.length ∧ l.length ≤ 100) ∧ ∀ j, j + 1 < l.length → adj e (l.getD (j + 1) cz) (l.getD j cz) := by
  unfold isWayB isWayK
  rw [Bool.and_eq_true, Bool.and_eq_true, List.all_eq_true, decide_eq_true_eq, decide_eq_true_eq]
  constructor
  · rintro ⟨h1, h2, h3⟩
    have key := fun j (hj : j < l.length) => (wayOk_iff hj).1 (h1 j (by simpa using hj))
    refine ⟨fun j hj => (key j hj).1, fun j i hj hi => (key j hj).2.2 i hi, by omega, fun j hj => ?_⟩
    have := (key (j + 1) hj).2.1
    simpa using this
  · rintro ⟨h1, h2, h3, h4⟩
    refine ⟨fun j hj => ?_, by omega, by omega⟩
    have hj := List.mem_range.1 hj
    refine (wayOk_iff hj).2 ⟨h1 j hj, ?_, fun i hi => h2 j i hj hi⟩
    match j, hj with
    | 0, _ => exact .inl rfl
    | j + 1, hj => exact .inr (h4 j hj)
theorem barOk_iff {W H : Int} {cs : List Int} {l : List Cell} {k : Nat} : barOk W H cs l k = true ↔ ¬ cs.getD (idxU W (l.getD k cz)).toNat 0 = 0 ∧ ((l.getD k cz).2 = 0 ↔ k = 0) ∧ ((l.getD k cz).2 = H - 1 ↔ k + 1 = l.length) := by
  unfold barOk
  rw [Bool.not_eq_true', Bool.or_eq_false_iff, Bool.or_eq_false_iff, decide_eq_false_iff_not, bne_dec, bne_dec]
  constructor
  · rintro ⟨h1, h2, h3⟩
    exact ⟨h1, by omega, by omega⟩
  · rintro ⟨h1, h2, h3⟩
    exact ⟨h1, by omega, by omega⟩
theorem isBar_iff {W H : Int} {cs : List Int} {l : List Cell} : isBarB W H cs l = true ↔ BarP W H cs l := by
  unfold isBarB barOkK
  rw [Bool.and_eq_true, Bool.and_eq_true, isWay_iff, List.all_eq_true, Bool.not_eq_true', decide_eq_false_iff_not]
  constructor
  · rintro ⟨h0, ⟨h1, h2, h3, h4⟩, h5⟩
    have key := fun j (hj : j < l.length) => barOk_iff.1 (h5 j (by simpa using hj))
    exact ⟨h1, h2, h3, h4, fun j hj => (key j hj).1, fun j hj => (key j hj).2.1, fun j hj => (key j hj).2.2⟩
  · rintro ⟨h1, h2, h3, h4, h5, h6, h7⟩
    refine ⟨by omega, ⟨h1, h2, h3, h4⟩, fun j hj => ?_⟩
    have hj := List.mem_range.1 hj
    exact barOk_iff.2 ⟨h5 j hj, h6 j hj, h7 j hj⟩
theorem hasI_iff {l : List Int} {x : Int} : hasI l x = true ↔ x ∈ l := by
  unfold hasI
  rw [List.any_eq_true]
  constructor
  · rintro ⟨y, h1, h2⟩; rw [of_decide_eq_true h2]; exact h1
  · intro h; exact ⟨x, h, dd_t rfl⟩
theorem idx_on {W H : Int} {p : Cell} (h : idxC W H p ≥ 0) (hW : 0 < W) : onB W H p.1 p.2 = true := by
  have := idxI_lt hW h
  simp only [onB, Bool.and_eq_true, decide_eq_true_eq]; omega
theorem listOk_iff {W H : Int} {l : List Cell} (hW : 0 < W) : listOkK W H l l.length = true ↔ (∀ j, j < l.length → onB W H (l.getD j cz).1 (l.getD j cz).2 = true) ∧ (∀ j i, j < l.length → i < j → ¬ l.getD j cz = l.getD i cz) := by
  unfold listOkK
  rw [List.all_eq_true]
  have key : ∀ j, listOk W H l j = true ↔ idxC W H (l.getD j cz) ≥ 0 ∧ ¬ idxC W H (l.getD j cz) ∈ listI W H (l.take j) := fun j => by
    unfold listOk
    rw [Bool.not_eq_true', Bool.or_eq_false_iff, decide_eq_false_iff_not, ← Bool.not_eq_true, hasI_iff]
    constructor
    · rintro ⟨a, b⟩; exact ⟨by omega, b⟩
    · rintro ⟨a, b⟩; exact ⟨by omega, b⟩
  constructor
  · intro h
    have h1 : ∀ j, j < l.length → onB W H (l.getD j cz).1 (l.getD j cz).2 = true := fun j hj => idx_on ((key j).1 (h j (by simpa using hj))).1 hW
    refine ⟨h1, fun j i hj hi he => ((key j).1 (h j (by simpa using hj))).2 ?_⟩
    rw [he]
    refine List.mem_map.2 ⟨l.getD i cz, ?_, rfl⟩
    rw [List.getD_eq_getElem?_getD, List.getElem?_eq_getElem (by omega)]
    exact List.mem_take_iff_getElem.2 ⟨i, by omega, rfl⟩
  · rintro ⟨h1, h2⟩ j hj
    have hj := List.mem_range.1 hj
    refine (key j).2 ⟨(idxI_on (h1 j hj)).2, fun hm => ?_⟩
    obtain ⟨q, hq, he⟩ := List.mem_map.1 hm
    obtain ⟨i, hi, rfl⟩ := List.mem_take_iff_getElem.1 hq
    have hg : l.getD i cz = l[i] := by rw [List.getD_eq_getElem?_getD, List.getElem?_eq_getElem (by omega)]; rfl
    rw [← hg] at he
    exact h2 j i hj (by omega) (idxC_inj (h1 j hj) (h1 i (by omega)) he.symm)
theorem foll_iff {W H : Int} {e : Bool} {l : List Cell} (hon : ∀ j, j < l.length → onB W H (l.getD j cz).1 (l.getD j cz).2 = true) : follB W H e (listI W H l) l.length = true ↔ ∀ j, j + 1 < l.length → adj e (l.getD (j + 1) cz) (l.getD j cz) := by
  unfold follB
  rw [List.all_eq_true]
  constructor
  · intro h j hj
    have := h j (List.mem_range.2 (by omega))
    rw [List.contains_iff_mem, listI_get hj, listI_get (by omega)] at this
    exact (near_iff (hon _ hj) (hon _ (by omega))).1 this
  · intro h j hj
    have hj := List.mem_range.1 hj
    rw [List.contains_iff_mem, listI_get (by omega), listI_get (by omega)]
    exact (near_iff (hon _ (by omega)) (hon _ (by omega))).2 (h j (by omega))
theorem pbarOk_iff {W H : Int} {cs : List Int} {l : List Cell} {k : Nat} (hk : k < l.length) (hon : onB W H (l.getD k cz).1 (l.getD k cz).2 = true) : pbarOk W H cs (listI W H l) k = true ↔ ¬ cs.getD (idxU W (l.getD k cz)).toNat 0 = 0 ∧ ((l.getD k cz).2 = 0 ↔ k = 0) ∧ ((l.getD k cz).2 = H - 1 ↔ k + 1 = l.length) := by
  obtain ⟨h1, _, h3⟩ := idxC_mod hon
  unfold pbarOk
  rw [listI_len, listI_get hk, h3, h1, Bool.not_eq_true', Bool.or_eq_false_iff, Bool.or_eq_false_iff, bne_dec, bne_dec, Bool.not_eq_false', decide_eq_true_eq]
  constructor
  · rintro ⟨h1, h2, h3⟩
    exact ⟨h1, by omega, by omega⟩
  · rintro ⟨h1, h2, h3⟩
    exact ⟨h1, by omega, by omega⟩
theorem pIsBar_iff {W H : Int} {cs : List Int} {l : List Cell} (hW : 0 < W) : pIsBar W H cs l = true ↔ BarP W H cs l := by
  unfold pIsBar isBarP lenOk pbarOkK
  rw [Bool.and_eq_true, Bool.and_eq_true, Bool.and_eq_true, listOk_iff hW, List.all_eq_true, decide_eq_true_eq, listI_len]
  constructor
  · rintro ⟨⟨h1, h2⟩, h3, h4, h5⟩
    have key := fun j (hj : j < l.length) => (pbarOk_iff hj (h1 j hj)).1 (h4 j (by simpa using hj))
    exact ⟨h1, h2, by omega, (foll_iff h1).1 h5, fun j hj => (key j hj).1, fun j hj => (key j hj).2.1, fun j hj => (key j hj).2.2⟩
  · rintro ⟨h1, h2, h3, h4, h5, h6, h7⟩
    refine ⟨⟨h1, h2⟩, by omega, fun j hj => ?_, (foll_iff h1).2 h4⟩
    have hj := List.mem_range.1 hj
    exact (pbarOk_iff hj (h1 j hj)).2 ⟨h5 j hj, h6 j hj, h7 j hj⟩
theorem pIsBar_eq {W H : Int} {cs : List Int} {l : List Cell} (hW : 0 < W) : pIsBar W H cs l = isBarB W H cs l := by
  rw [Bool.eq_iff_iff, pIsBar_iff hW, isBar_iff]
theorem psum_eq {W H : Int} {cs : List Int} {l : List Cell} (hon : ∀ j, j < l.length → onB W H (l.getD j cz).1 (l.getD j cz).2 = true) : psum cs (listI W H l) = sumC W cs l := by
  unfold psum psumK sumC sumK
  rw [List.take_length, List.take_length]
  unfold listI
  rw [List.map_map]
  congr 1
  refine List.map_congr_left fun p hp => ?_
  obtain ⟨j, hj, rfl⟩ := List.mem_iff_getElem.1 hp
  have := hon j hj
  rw [List.getD_eq_getElem?_getD, List.getElem?_eq_getElem hj] at this
  simp only [Function.comp]
  have h2 : onB W H l[j].1 l[j].2 = true := this
  rw [(idxC_mod h2).1]
end Go.Proofs.Ytbhpnhcdjmcaoaa

/- Boom, plain: the program's barrier is the reference's, and is one. -/
namespace Go.Proofs.Ytbhpnhcdjmcaoaa
open Go.RowKit
set_option linter.unusedVariables false
set_option linter.unusedSimpArgs false
def nextR (W H : Int) (d : Int → Option Way) (i : Int) (rest : Way) : Option Int := (nearL W H true i).find? fun k => decide (d k = some rest)
def pathR (W H : Int) (cs : List Int) (d : Int → Option Way) : Nat → Int → List Int
  | 0, i => [i]
  | f + 1, i => match d i with
    | none => [i]
    | some w => if w.2 > 1 then (match nextR W H d i (w.1 - cstI cs i, w.2 - 1) with
      | none => [i]
      | some k => i :: pathR W H cs d f k) else [i]
def rbarO (W H : Int) (cs : List Int) : Option (List Int × Way) :=
  match wayR W H cs (bestP (wayR W H cs) W.toNat) with
  | none => none
  | some w => some (pathR W H cs (wayR W H cs) w.2.toNat (bestP (wayR W H cs) W.toNat), w)
section
variable {cost : Int → Int} {ini : Int → Bool} {nb : Int → List Int} {d : Int → Option Way}
theorem OptD.sub (h : OptD cost ini nb d) {i k : Int} {r : List Int} (hk : k ∈ nb i) (hw : isWalk ini nb (k :: r)) (ho : d i = some (valW cost (i :: k :: r))) : d k = some (valW cost (k :: r)) := by
  obtain ⟨w1, h3, h4⟩ := h.comp k r hw
  obtain ⟨l', h5, h6⟩ := h.sound k w1 h3
  obtain ⟨w2, h7, h8⟩ := h.comp i (k :: l') ⟨hk, h5⟩
  rw [ho] at h7; cases h7
  have e1 : valW cost (i :: k :: l') = addW (cost i) w1 := by show addW _ (valW cost (k :: l')) = _; rw [h6]
  have e2 : valW cost (i :: k :: r) = addW (cost i) (valW cost (k :: r)) := rfl
  rw [e1, e2] at h8
  rw [h3, leW_anti h4 (by unfold leW addW at h8; unfold leW; simp only at h8; omega)]
theorem OptD.pos (h : OptD cost ini nb d) {i : Int} {w : Way} (hw : d i = some w) : 1 ≤ w.2 := by
  obtain ⟨l, _, h2⟩ := h.sound i w hw
  have := valW_cells cost (i :: l)
  rw [h2] at this; simp at this; omega
end
section
variable {W H : Int} {cs : List Int}
theorem nbB_cond {i k : Int} (h : k ∈ nbB W H cs i) : inR cs i = true ∧ hldI cs i = true ∧ ¬ i / W = H - 1 := by
  unfold nbB at h
  split at h
  · rename_i hh; simp only [Bool.and_eq_true, Bool.not_eq_true', decide_eq_false_iff_not] at hh; exact hh
  · cases h
theorem nbR_cond {i k : Int} (h : k ∈ nbR W H cs i) : inR cs i = true ∧ hldI cs i = true ∧ k ∈ nearL W H true i := by
  unfold nbR at h
  split at h
  · rename_i hh; simp only [Bool.and_eq_true] at hh; exact ⟨hh.1, hh.2, h⟩
  · cases h
theorem nbR_mk {i k : Int} (h1 : inR cs i = true) (h2 : hldI cs i = true) (h3 : k ∈ nearL W H true i) : k ∈ nbR W H cs i := by
  unfold nbR; rw [h1, h2]; exact h3
theorem nbB_mk {i k : Int} (h1 : inR cs i = true) (h2 : hldI cs i = true) (h3 : k ∈ nearL W H true i) (h4 : ¬ i / W = H - 1) (h5 : ¬ k / W = 0) : k ∈ nbB W H cs i := by
  unfold nbB; rw [h1, h2, dd_f h4]
  exact List.mem_filter.2 ⟨h3, by simp [h5]⟩
theorem walk_BR : ∀ {l : List Int}, isWalk (iniB W H cs) (nbB W H cs) l → isWalk (iniB W H cs) (nbR W H cs) l
  | [i], h => h
  | i :: k :: r, h => ⟨by obtain ⟨h1, h2, _⟩ := nbB_cond h.1; exact nbR_mk h1 h2 (nbB_mem h.1).1, walk_BR h.2⟩
theorem iniB_cond {i : Int} (h : iniB W H cs i = true) : inR cs i = true ∧ hldI cs i = true ∧ i / W = H - 1 := by
  unfold iniB at h; simp only [Bool.and_eq_true, decide_eq_true_eq] at h; exact h
theorem walkR_cond {i : Int} {l : List Int} (h : isWalk (iniB W H cs) (nbR W H cs) (i :: l)) : inR cs i = true ∧ hldI cs i = true := by
  match l, h with
  | [], h => exact ⟨(iniB_cond h).1, (iniB_cond h).2.1⟩
  | k :: r, h => exact ⟨(nbR_cond h.1).1, (nbR_cond h.1).2.1⟩
theorem R_le_B (hok : CO W H cs) {i : Int} {w : Way} (h : wayB W H cs i = some w) : ∃ w', wayR W H cs i = some w' ∧ leW w' w := by
  obtain ⟨l, h1, h2⟩ := (wayB_opt hok).sound i w h
  obtain ⟨w', h3, h4⟩ := (wayR_opt hok).comp i l (walk_BR h1)
  exact ⟨w', h3, h2 ▸ h4⟩
theorem opt_B (hok : CO W H cs) : ∀ (l : List Int) {i : Int}, isWalk (iniB W H cs) (nbR W H cs) (i :: l) → wayR W H cs i = some (valW (cstI cs) (i :: l)) → (∀ x ∈ l, ¬ x / W = 0) → isWalk (iniB W H cs) (nbB W H cs) (i :: l)
  | [], i, h, _, _ => h
  | k :: r, i, h, ho, hr => by
    have hk := (wayR_opt hok).sub h.1 h.2 ho
    have ih := opt_B hok r h.2 hk (fun x hx => hr x (by simp [hx]))
    obtain ⟨c1, c2, c3⟩ := nbR_cond h.1
    refine ⟨nbB_mk c1 c2 c3 (fun hrow => ?_) (hr k (by simp)), ih⟩
    have hi : isWalk (iniB W H cs) (nbR W H cs) [i] := by
      show iniB W H cs i = true
      unfold iniB; rw [c1, c2, dd_t hrow]; rfl
    obtain ⟨w', g1, g2⟩ := (wayR_opt hok).comp i [] hi
    rw [ho] at g1; cases g1
    have g3 := valW_cells (cstI cs) (i :: k :: r)
    have g4 := valW_pos (fun i => (cst_bd hok.cost i).1) (k :: r)
    have e1 : valW (cstI cs) (i :: k :: r) = addW (cstI cs i) (valW (cstI cs) (k :: r)) := rfl
    have e2 : valW (cstI cs) [i] = (cstI cs i, 1) := by simp [valW, addW]
    rw [e2] at g2
    have g5 := valW_cells (cstI cs) (k :: r)
    rw [e1] at g2
    unfold leW addW at g2
    simp only [List.length_cons] at g2 g5
    omega
theorem row0_free (hok : CO W H cs) {ws : Way} (hmin : ∀ x, 0 ≤ x → x < W → ∀ u, wayR W H cs x = some u → leW ws u) {l : List Int} {i : Int} (h : isWalk (iniB W H cs) (nbR W H cs) (i :: l)) (hle : leW (valW (cstI cs) (i :: l)) ws) : ∀ x ∈ l, ¬ x / W = 0 := by
  intro x hx hr
  obtain ⟨a, b, rfl⟩ := List.append_of_mem hx
  have hs : isWalk (iniB W H cs) (nbR W H cs) (x :: b) := walk_suffix (a := i :: a) h
  have hx0 := walk_rng (n := cs.length) iniB_in (nbR_in (by have := hok.w; omega) hok.len) hs x (by simp)
  have hW := hok.w
  have hxW : x < W := by
    have h1 := Int.emod_lt_of_pos x (show 0 < W by omega)
    have h2 := Int.mul_ediv_add_emod x W
    rw [hr] at h2; omega
  obtain ⟨u, g1, g2⟩ := (wayR_opt hok).comp x b hs
  have g3 := hmin x hx0.1 hxW u g1
  have e : valW (cstI cs) (i :: (a ++ x :: b)) = ((valW (cstI cs) (i :: a)).1 + (valW (cstI cs) (x :: b)).1, (valW (cstI cs) (i :: a)).2 + (valW (cstI cs) (x :: b)).2) := valW_app (i :: a) (x :: b)
  have g4 := valW_pos (fun i => (cst_bd hok.cost i).1) (i :: a)
  have g5 := valW_cells (cstI cs) (i :: a)
  have g6 := leW_trans g3 g2
  have g7 := leW_trans hle g6
  rw [e] at g7
  unfold leW at g7
  simp only [List.length_cons] at g7 g5
  omega
theorem eq_B (hok : CO W H cs) {ws : Way} (hmin : ∀ x, 0 ≤ x → x < W → ∀ u, wayR W H cs x = some u → leW ws u) {i : Int} {v : Way} (h : wayR W H cs i = some v) (hle : leW v ws) : wayB W H cs i = some v := by
  obtain ⟨l, h1, h2⟩ := (wayR_opt hok).sound i v h
  have hf := row0_free hok hmin h1 (h2 ▸ hle)
  have hb := opt_B hok l h1 (h2 ▸ h) hf
  obtain ⟨u, g1, g2⟩ := (wayB_opt hok).comp i l hb
  obtain ⟨w', g3, g4⟩ := R_le_B hok g1
  rw [h] at g3; cases g3
  rw [g1, leW_anti (h2 ▸ g2) g4]
theorem path_eq (hok : CO W H cs) {ws : Way} (hmin : ∀ x, 0 ≤ x → x < W → ∀ u, wayR W H cs x = some u → leW ws u) : ∀ (f : Nat) {i : Int} {v : Way}, wayB W H cs i = some v → wayR W H cs i = some v → leW v ws → pathB W H cs (wayB W H cs) f i = pathR W H cs (wayR W H cs) f i
  | 0, i, v, _, _, _ => rfl
  | f + 1, i, v, hB, hR, hle => by
    simp only [pathB, pathR, hB, hR]
    by_cases h1 : v.2 > 1
    · rw [if_pos h1, if_pos h1]
      obtain ⟨l0, s1, s2⟩ := (wayR_opt hok).sound i v hR
      obtain ⟨c1, c2⟩ := walkR_cond s1
      have hci := (cst_bd hok.cost i).1
      have hle2 : leW (v.1 - cstI cs i, v.2 - 1) ws := by unfold leW at hle ⊢; simp only; omega
      have hfun : nextB W H (wayB W H cs) i (v.1 - cstI cs i, v.2 - 1) = nextR W H (wayR W H cs) i (v.1 - cstI cs i, v.2 - 1) := by
        unfold nextB nextR
        refine find_congr fun k hk => ?_
        rw [Bool.eq_iff_iff, Bool.and_eq_true, decide_eq_true_eq, decide_eq_true_eq, Bool.not_eq_true', decide_eq_false_iff_not]
        constructor
        · rintro ⟨g1, g2⟩
          obtain ⟨w', g3, g4⟩ := R_le_B hok g1
          obtain ⟨l', g5, g6⟩ := (wayR_opt hok).sound k w' g3
          obtain ⟨w2, g7, g8⟩ := (wayR_opt hok).comp i (k :: l') ⟨nbR_mk c1 c2 hk, g5⟩
          rw [hR] at g7; cases g7
          have e1 : valW (cstI cs) (i :: k :: l') = addW (cstI cs i) w' := by show addW _ (valW (cstI cs) (k :: l')) = _; rw [g6]
          rw [e1] at g8
          rw [g3, leW_anti g4 (by unfold leW addW at g8; unfold leW; simp only at g8 ⊢; omega)]
        · intro g1
          refine ⟨eq_B hok hmin g1 hle2, fun g2 => ?_⟩
          have hW := hok.w
          obtain ⟨l', g5, _⟩ := (wayR_opt hok).sound k _ g1
          have hx0 := walk_rng (n := cs.length) iniB_in (nbR_in (by omega) hok.len) g5 k (by simp)
          have hxW : k < W := by
            have h1 := Int.emod_lt_of_pos k (show 0 < W by omega)
            have h2 := Int.mul_ediv_add_emod k W
            rw [g2] at h2; omega
          have g3 := leW_trans hle (hmin k hx0.1 hxW _ g1)
          unfold leW at g3; simp only at g3; omega
      rw [hfun]
      cases hn : nextR W H (wayR W H cs) i (v.1 - cstI cs i, v.2 - 1) with
      | none => rfl
      | some k =>
        have g1 := List.find?_some hn
        have g1 := of_decide_eq_true g1
        simp only
        rw [path_eq hok hmin f (eq_B hok hmin g1 hle2) g1 hle2]
    · rw [if_neg h1, if_neg h1]
where
  find_congr {l : List Int} {p q : Int → Bool} (h : ∀ x ∈ l, p x = q x) : l.find? p = l.find? q := by
    induction l with
    | nil => rfl
    | cons x r ih =>
      rw [List.find?_cons, List.find?_cons, h x (by simp), ih (fun y hy => h y (by simp [hy]))]
theorem bar_eq (hok : CO W H cs) : barO W H cs = rbarO W H cs := by
  have hW := hok.w
  obtain ⟨w0, hw0⟩ : ∃ w0 : Nat, (w0 : Int) = W := ⟨W.toNat, by omega⟩
  have hwt : W.toNat = w0 := by omega
  unfold barO rbarO
  rw [hwt]
  have neg1 : ∀ (d : Int → Option Way), (∀ i w, d i = some w → 0 ≤ i) → d (-1) = none := fun d hd => by
    cases h : d (-1) with
    | none => rfl
    | some w => have := hd _ w h; omega
  have hBd : ∀ i w, wayB W H cs i = some w → 0 ≤ i := fun i w h => (wayB_dom hok h).1
  have hRd : ∀ i w, wayR W H cs i = some w → 0 ≤ i := fun i w h => by
    obtain ⟨l, h1, _⟩ := (wayR_opt hok).sound i w h
    exact (walk_rng (n := cs.length) iniB_in (nbR_in (by omega) hok.len) h1 i (by simp)).1
  rcases bestP_spec (wayR W H cs) w0 with ⟨h1, h2⟩ | ⟨b, h1, h2, wb, h3, h4, h5⟩
  · rw [h1, neg1 _ hRd]
    rcases bestP_spec (wayB W H cs) w0 with ⟨g1, _⟩ | ⟨b', g1, g2, wb', g3, _, _⟩
    · rw [g1, neg1 _ hBd]
    · obtain ⟨w', q1, _⟩ := R_le_B hok g3
      rw [h2 b' g2] at q1; cases q1
  · have hmin : ∀ x, 0 ≤ x → x < W → ∀ u, wayR W H cs x = some u → leW wb u := fun x hx0 hxW u hu => by
      obtain ⟨j, rfl⟩ : ∃ j : Nat, (j : Int) = x := ⟨x.toNat, by omega⟩
      exact h4 j (by omega) u hu
    have hbB := eq_B hok hmin h3 (leW_refl _)
    rcases bestP_spec (wayB W H cs) w0 with ⟨g1, g2⟩ | ⟨b', g1, g2, wb', g3, g4, g5⟩
    · rw [g2 b h2] at hbB; cases hbB
    · have k1 := g4 b h2 wb hbB
      obtain ⟨w', q1, q2⟩ := R_le_B hok g3
      have k2 := h4 b' g2 w' q1
      have e1 : wb' = wb := leW_anti k1 (leW_trans k2 q2)
      have e2 : w' = wb := leW_anti (leW_trans q2 k1) k2
      have hbb : b = b' := by
        rcases Nat.lt_trichotomy b b' with h | h | h
        · exact absurd (e1 ▸ leW_refl wb) (g5 b h wb hbB)
        · exact h
        · exact absurd (e2 ▸ leW_refl wb) (h5 b' h w' q1)
      subst hbb
      rw [h1, g1, h3, hbB]
      simp only
      rw [path_eq hok hmin _ hbB h3 (leW_refl _)]
/-- The way down is a walk of that cost, without a cell twice. -/
theorem path_walk (hok : CO W H cs) : ∀ (f : Nat) {i : Int} {w : Way}, wayB W H cs i = some w → w.2.toNat ≤ f → isWalk (iniB W H cs) (nbB W H cs) (pathB W H cs (wayB W H cs) f i) ∧ valW (cstI cs) (pathB W H cs (wayB W H cs) f i) = w ∧ (∃ r, pathB W H cs (wayB W H cs) f i = i :: r) ∧ (pathB W H cs (wayB W H cs) f i).Nodup ∧ ∀ x ∈ pathB W H cs (wayB W H cs) f i, ∃ u, wayB W H cs x = some u ∧ u.2 ≤ w.2
  | 0, i, w, hw, hf => by have := (wayB_opt hok).pos hw; omega
  | f + 1, i, w, hw, hf => by
    have hpos := (wayB_opt hok).pos hw
    obtain ⟨l, s1, s2⟩ := (wayB_opt hok).sound i w hw
    have hc := valW_cells (cstI cs) (i :: l)
    rw [s2] at hc
    by_cases h1 : 1 < w.2
    · obtain ⟨k, hk, hdk⟩ := nextB_some hok hw h1
      obtain ⟨i1, i2, ⟨r, i3⟩, i4, i5⟩ := path_walk hok f hdk (by simp only; omega)
      have hp : pathB W H cs (wayB W H cs) (f + 1) i = i :: pathB W H cs (wayB W H cs) f k := by
        simp only [pathB, hw, hk]; rw [if_pos h1]
      have hkm : k ∈ nbB W H cs i := by
        match l, s1, hc with
        | [], _, hc => simp at hc; omega
        | k' :: r', s1, _ =>
          obtain ⟨c1, c2, c3⟩ := nbB_cond s1.1
          have q1 := List.mem_of_find?_eq_some hk
          have q2 := List.find?_some hk
          simp only [Bool.and_eq_true, Bool.not_eq_true', decide_eq_false_iff_not] at q2
          exact nbB_mk c1 c2 q1 c3 q2.2
      rw [hp]
      refine ⟨by rw [i3] at i1 ⊢; exact ⟨hkm, i1⟩, ?_, ⟨_, rfl⟩, List.nodup_cons.2 ⟨fun hm => ?_, i4⟩, fun x hx => ?_⟩
      · show addW _ (valW (cstI cs) (pathB W H cs (wayB W H cs) f k)) = w
        rw [i2]; unfold addW; exact Prod.ext (by simp only; omega) (by simp only; omega)
      · obtain ⟨u, u1, u2⟩ := i5 i hm
        rw [hw] at u1; cases u1
        simp only at u2; omega
      · rcases List.mem_cons.1 hx with rfl | hx
        · exact ⟨w, hw, Int.le_refl _⟩
        · obtain ⟨u, u1, u2⟩ := i5 x hx
          exact ⟨u, u1, by simp only at u2; omega⟩
    · have hp : pathB W H cs (wayB W H cs) (f + 1) i = [i] := by simp only [pathB, hw]; rw [if_neg (by omega)]
      have hl : l = [] := by
        match l, hc with
        | [], _ => rfl
        | _ :: _, hc => simp at hc; omega
      subst hl
      rw [hp]
      exact ⟨s1, s2, ⟨[], rfl⟩, by simp, fun x hx => by rw [List.mem_singleton.1 hx]; exact ⟨w, hw, Int.le_refl _⟩⟩
theorem cellI_idx {i : Int} (hW : 0 < W) (hi : 0 ≤ i) (hn : i < W * H) : onB W H (cellI W i).1 (cellI W i).2 = true ∧ idxU W (cellI W i) = i := by
  have h1 := Int.emod_nonneg i (show W ≠ 0 by omega)
  have h2 := Int.emod_lt_of_pos i hW
  have h3 := Int.mul_ediv_add_emod i W
  have h4 : 0 ≤ i / W := Int.ediv_nonneg hi (by omega)
  have h5 : i / W < H := Int.ediv_lt_of_lt_mul hW (by rw [Int.mul_comm]; exact hn)
  refine ⟨by simp only [onB, cellI, Bool.and_eq_true]; exact ⟨dd_t h1, dd_t h2, dd_t h4, dd_t h5⟩, ?_⟩
  unfold idxU cellI
  simp only
  rw [Int.mul_comm (i / W) W]; omega
/-- A walk from the first row is a barrier. -/
theorem walk_bar (hok : CO W H cs) {l : List Int} {i : Int} (hw : isWalk (iniB W H cs) (nbB W H cs) (i :: l)) (hi : i / W = 0) (hd : (i :: l).Nodup) : BarP W H cs (cellsL W (i :: l)) := by
  have hW := hok.w
  have hin := walk_rng (n := cs.length) iniB_in (nbB_in (by omega) hok.len) hw
  have hlen := hok.len
  have hn : W * H ≤ 100 := by have := Int.mul_le_mul hok.w.2 hok.h.2 (by have := hok.h; omega) (by omega : (0:Int) ≤ 10); omega
  have hll : (cellsL W (i :: l)).length = (i :: l).length := by simp [cellsL]
  have hget : ∀ j, j < (i :: l).length → (cellsL W (i :: l)).getD j cz = cellI W ((i :: l).getD j 0) := fun j hj => by
    simp only [cellsL, List.getD_eq_getElem?_getD, List.getElem?_map, List.getElem?_eq_getElem hj]; rfl
  have hmem : ∀ j, j < (i :: l).length → (i :: l).getD j 0 ∈ (i :: l) := fun j hj => getD_mem hj
  have hci := fun j hj => cellI_idx (W := W) (H := H) (i := (i :: l).getD j 0) (by omega) (hin _ (hmem j hj)).1 (by have := (hin _ (hmem j hj)).2; omega)
  -- what each member of a walk is
  have key : ∀ (l : List Int), isWalk (iniB W H cs) (nbB W H cs) l → ∀ j, j < l.length → hldI cs (l.getD j 0) = true ∧ (0 < j → ¬ l.getD j 0 / W = 0) ∧ (l.getD j 0 / W = H - 1 ↔ j + 1 = l.length) ∧ (j + 1 < l.length → l.getD (j + 1) 0 ∈ nearL W H true (l.getD j 0)) := by
    intro l
    induction l with
    | nil => intro _ j hj; simp at hj
    | cons a r ih =>
      intro hw j hj
      match r, hw, ih with
      | [], hw, _ =>
        have : j = 0 := by simp at hj; omega
        subst this
        obtain ⟨c1, c2, c3⟩ := iniB_cond hw
        exact ⟨c2, fun h => by omega, ⟨fun _ => rfl, fun _ => c3⟩, fun h => by simp at h⟩
      | k :: r, hw, ih =>
        obtain ⟨c1, c2, c3⟩ := nbB_cond hw.1
        match j with
        | 0 => exact ⟨c2, fun h => by omega, ⟨fun h => absurd h c3, fun h => by simp at h⟩, fun _ => (nbB_mem hw.1).1⟩
        | j + 1 =>
          obtain ⟨q1, q2, q3, q4⟩ := ih hw.2 j (by simpa using hj)
          refine ⟨q1, fun _ => ?_, ⟨fun h => by have := q3.1 h; simp at this ⊢; omega, fun h => q3.2 (by simp at h ⊢; omega)⟩, fun h => q4 (by simpa using h)⟩
          by_cases hj0 : j = 0
          · subst hj0; exact (nbB_mem hw.1).2
          · exact q2 (by omega)
  have hk := key (i :: l) hw
  refine ⟨fun j hj => ?_, fun j m hj hm he => ?_, ⟨by rw [hll]; simp, ?_⟩, fun j hj => ?_, fun j hj => ?_, fun j hj => ?_, fun j hj => ?_⟩
  · rw [hll] at hj; rw [hget j hj]; exact (hci j hj).1
  · rw [hll] at hj
    rw [hget j hj, hget m (by omega)] at he
    have h1 : (i :: l).getD j 0 = (i :: l).getD m 0 := by
      rw [← (hci j hj).2, ← (hci m (by omega)).2, he]
    rw [List.getD_eq_getElem?_getD, List.getD_eq_getElem?_getD, List.getElem?_eq_getElem hj, List.getElem?_eq_getElem (show m < (i :: l).length by omega)] at h1
    exact (List.pairwise_iff_getElem.1 hd) m j (by omega) hj hm h1.symm
  · have := nodup_len cs.length _ hd hin
    rw [hll]; omega
  · rw [hll] at hj
    rw [hget (j + 1) hj, hget j (by omega)]
    have h1 := hci (j + 1) hj
    have h2 := hci j (by omega)
    refine (near_iff h1.1 h2.1).1 ?_
    rw [(idxC_mod h1.1).1, (idxC_mod h2.1).1, h1.2, h2.2]
    exact (hk j (by omega)).2.2.2 hj
  · rw [hll] at hj
    rw [hget j hj, (hci j hj).2]
    have := (hk j hj).1
    unfold hldI at this
    simpa using this
  · rw [hll] at hj
    rw [hget j hj]
    show _ / W = 0 ↔ _
    constructor
    · intro h
      by_cases hj0 : j = 0
      · exact hj0
      · exact absurd h ((hk j hj).2.1 (by omega))
    · rintro rfl; exact hi
  · rw [hll] at hj ⊢
    rw [hget j hj]
    exact (hk j hj).2.2.1
theorem walk_sum {l : List Int} (hW : 0 < W) (hin : ∀ x ∈ l, 0 ≤ x ∧ x < W * H) : sumC W cs (cellsL W l) = (valW (cstI cs) l).1 := by
  unfold sumC sumK
  rw [List.take_length]
  induction l with
  | nil => rfl
  | cons i r ih =>
    have := ih (fun x hx => hin x (by simp [hx]))
    have hi := hin i (by simp)
    have h2 := (cellI_idx (W := W) (H := H) hW hi.1 hi.2).2
    show (cstI cs (idxU W (cellI W i)) :: (cellsL W r).map _).sum = _
    rw [List.sum_cons, this, h2]
    simp only [valW, addW]; omega
/-- The barrier that is found is one, and costs what is said. -/
theorem bar_is (hok : CO W H cs) {l : List Int} {w : Way} (h : barO W H cs = some (l, w)) : BarP W H cs (cellsL W l) ∧ sumC W cs (cellsL W l) = w.1 ∧ (∀ x ∈ l, 0 ≤ x ∧ x < cs.length) ∧ l.length ≤ 100 := by
  have hW := hok.w
  have hlen := hok.len
  obtain ⟨w0, hw0⟩ : ∃ w0 : Nat, (w0 : Int) = W := ⟨W.toNat, by omega⟩
  have hwt : W.toNat = w0 := by omega
  unfold barO at h
  rw [hwt] at h
  rcases bestP_spec (wayB W H cs) w0 with ⟨g1, _⟩ | ⟨b, g1, g2, wb, g3, _, _⟩
  · rw [g1] at h
    cases hd : wayB W H cs (-1) with
    | none => rw [hd] at h; cases h
    | some u => have := (wayB_dom hok hd).1; omega
  · rw [g1, g3] at h
    cases h
    obtain ⟨p1, p2, ⟨r, p3⟩, p4, _⟩ := path_walk hok w.2.toNat g3 (Nat.le_refl _)
    have hin := walk_rng (n := cs.length) iniB_in (nbB_in (by omega) hok.len) p1
    rw [p3] at p1 p2 p4 hin ⊢
    have hbar := walk_bar hok p1 (Int.ediv_eq_zero_of_lt (by omega) (by omega)) p4
    refine ⟨hbar, by rw [walk_sum (H := H) (by omega) (fun x hx => by have := hin x hx; omega), p2], hin, ?_⟩
    have := hbar.len.2
    simpa [cellsL] using this
end
end Go.Proofs.Ytbhpnhcdjmcaoaa

/- Boom, plain: no barrier is cheaper than the one found. -/
namespace Go.Proofs.Ytbhpnhcdjmcaoaa
open Go.RowKit
set_option linter.unusedVariables false
set_option linter.unusedSimpArgs false
/-- A way of cells down to the last row, over land and booms. -/
def looseL (W H : Int) (cs : List Int) : List Cell → Prop
  | [] => False
  | [p] => onB W H p.1 p.2 = true ∧ ¬ cs.getD (idxU W p).toNat 0 = 0 ∧ p.2 = H - 1
  | p :: q :: r => onB W H p.1 p.2 = true ∧ ¬ cs.getD (idxU W p).toNat 0 = 0 ∧ adj true q p ∧ looseL W H cs (q :: r)
section
variable {W H : Int} {cs : List Int}
theorem looseL_head {p : Cell} {r : List Cell} (h : looseL W H cs (p :: r)) : onB W H p.1 p.2 = true ∧ ¬ cs.getD (idxU W p).toNat 0 = 0 := by
  match r, h with
  | [], h => exact ⟨h.1, h.2.1⟩
  | q :: r, h => exact ⟨h.1, h.2.1⟩
theorem idxU_in (hok : CO W H cs) {p : Cell} (h : onB W H p.1 p.2 = true) : 0 ≤ idxU W p ∧ idxU W p < cs.length ∧ idxU W p / W = p.2 ∧ idxU W p % W = p.1 := by
  have ho := onB_t h
  obtain ⟨e, e1, e2⟩ := idxC_mod h
  have hl := hok.len
  rw [e] at e1 e2
  have h1 : 0 ≤ p.2 * W := Int.mul_nonneg ho.2.1 (by omega)
  have h2 : (p.2 + 1) * W ≤ H * W := Int.mul_le_mul_of_nonneg_right (by omega) (by omega)
  rw [Int.add_mul, Int.mul_comm H W] at h2
  refine ⟨?_, ?_, e2, e1⟩ <;> unfold idxU <;> omega
theorem loose_walk (hok : CO W H cs) : ∀ {l : List Cell}, looseL W H cs l → isWalk (iniB W H cs) (nbR W H cs) (l.map (idxU W))
  | [p], h => by
    have hi := idxU_in hok h.1
    show iniB W H cs (idxU W p) = true
    unfold iniB inR hldI
    rw [dd_t ⟨hi.1, hi.2.1⟩, dd_t h.2.1, dd_t (by rw [hi.2.2.1]; exact h.2.2)]; rfl
  | p :: q :: r, h => by
    have hi := idxU_in hok h.1
    refine ⟨nbR_mk (by unfold inR; rw [dd_t ⟨hi.1, hi.2.1⟩]) (by unfold hldI; rw [dd_t h.2.1]) ?_, loose_walk hok h.2.2.2⟩
    have hq := (looseL_head h.2.2.2).1
    have := (near_iff hq h.1).2 h.2.2.1
    rw [(idxC_mod hq).1, (idxC_mod h.1).1] at this
    exact this
theorem bar_loose {l : List Cell} (hb : BarP W H cs l) : ∀ (m k : Nat), k + m + 1 = l.length → looseL W H cs (l.drop k)
  | 0, k, e => by
    have hk : k < l.length := by omega
    rw [List.drop_eq_getElem_cons hk, List.drop_eq_nil_of_le (by omega)]
    have hg : l.getD k cz = l[k] := by rw [List.getD_eq_getElem?_getD, List.getElem?_eq_getElem hk]; rfl
    have h1 := hb.on k hk
    have h2 := hb.hold k hk
    have h3 := (hb.bot k hk).2 (by omega)
    rw [hg] at h1 h2 h3
    exact ⟨h1, h2, h3⟩
  | m + 1, k, e => by
    have hk : k < l.length := by omega
    have hk1 : k + 1 < l.length := by omega
    have ih := bar_loose hb m (k + 1) (by omega)
    rw [List.drop_eq_getElem_cons hk]
    rw [List.drop_eq_getElem_cons hk1] at ih ⊢
    have hg : l.getD k cz = l[k] := by rw [List.getD_eq_getElem?_getD, List.getElem?_eq_getElem hk]; rfl
    have hg1 : l.getD (k + 1) cz = l[k + 1] := by rw [List.getD_eq_getElem?_getD, List.getElem?_eq_getElem hk1]; rfl
    have h1 := hb.on k hk
    have h2 := hb.hold k hk
    have h3 := hb.adj k hk1
    rw [hg] at h1 h2
    rw [hg, hg1] at h3
    exact ⟨h1, h2, h3, ih⟩
theorem sum_val (W : Int) (cs : List Int) : ∀ l : List Cell, sumC W cs l = (valW (cstI cs) (l.map (idxU W))).1
  | [] => rfl
  | p :: r => by
    have := sum_val W cs r
    unfold sumC sumK at this ⊢
    rw [List.take_length] at this ⊢
    show (cstI cs (idxU W p) :: r.map _).sum = _
    rw [List.sum_cons, this]
    show _ = (addW _ _).1
    simp only [addW]; omega
theorem loose_least (hok : CO W H cs) {p : Cell} {r : List Cell} (h : looseL W H cs (p :: r)) (h0 : p.2 = 0) : ∃ l w, barO W H cs = some (l, w) ∧ w.1 ≤ sumC W cs (p :: r) := by
  have hW := hok.w
  obtain ⟨w0, hw0⟩ : ∃ w0 : Nat, (w0 : Int) = W := ⟨W.toNat, by omega⟩
  have hwt : W.toNat = w0 := by omega
  have ho := onB_t (looseL_head h).1
  obtain ⟨v, hv, hle⟩ := (wayR_opt hok).comp _ _ (loose_walk hok h)
  have hi : idxU W p = p.1 := by unfold idxU; rw [h0]; omega
  have hv' : wayR W H cs ((p.1.toNat : Nat) : Int) = some v := by rw [← hv, hi]; congr 1; omega
  rw [bar_eq hok]
  unfold rbarO
  rw [hwt]
  rcases bestP_spec (wayR W H cs) w0 with ⟨_, g2⟩ | ⟨b, g1, g2, wb, g3, g4, _⟩
  · have := g2 p.1.toNat (by omega)
    rw [this] at hv'; cases hv'
  · rw [g1, g3]
    refine ⟨_, _, rfl, ?_⟩
    have h1 := g4 p.1.toNat (by omega) v hv'
    have h2 := leW_trans h1 hle
    have h3 := sum_val W cs (p :: r)
    have h4 : valW (cstI cs) ((p :: r).map (idxU W)) = valW (cstI cs) (idxU W p :: r.map (idxU W)) := rfl
    rw [h3, h4]
    unfold leW at h2; omega
/-- No barrier is cheaper than the one found. -/
theorem bar_least (hok : CO W H cs) {l : List Cell} (hb : BarP W H cs l) : ∃ l' w, barO W H cs = some (l', w) ∧ w.1 ≤ sumC W cs l := by
  have h1 := hb.len
  have h2 := bar_loose hb (l.length - 1) 0 (by omega)
  have h3 := (hb.top 0 (by omega)).2 rfl
  match l, h2, h3 with
  | p :: r, h2, h3 => exact loose_least hok h2 h3
end
end Go.Proofs.Ytbhpnhcdjmcaoaa

/- Boom: charts that are told cell by cell. -/
namespace Go.Proofs.Ytbhpnhcdjmcaoaa
open Go.RowKit
set_option linter.unusedVariables false
set_option linter.unusedSimpArgs false
theorem fn_wf3 {nx : Nat} {f : FuncId} {caps : List (Nat × Nat)} (h : (caps.all fun p => Nat.blt p.1 nx) = true) : (V.c (.fn f caps)).wf nx := fun p hp => Nat.le_of_ble_eq_true (List.all_eq_true.1 h p hp)
theorem chk_rowA (p : Nat → Bool) (l : List Int) (z : Int) (lab : Nat) (kd : Kd) : (([⟨lab, kd, l.map C.i ++ [C.i z]⟩] : List E).all fun e => e.cs.all (C.chk p)) = true := by
  simp only [List.all_cons, List.all_nil, Bool.and_true, List.all_append]
  rw [chk_ints]; rfl
def chgL (cs : List Int) (g : Int → Int) : List Int := (List.range cs.length).map fun i : Nat => g (i : Int)
def chgK (g : Int → Int) (k : Nat) : List Int := (List.range k).map fun i : Nat => g (i : Int)
theorem chgK_succ (g : Int → Int) (k : Nat) : (chgK g (k + 1)).map C.i = (chgK g k).map C.i ++ [C.i (g (k : Int))] := by simp [chgK, List.range_succ]
theorem chgL_len (cs : List Int) (g : Int → Int) : (chgL cs g).length = cs.length := by simp [chgL]
def dryG (W H : Int) (cs : List Int) (bs : List Cell) (i : Int) : Int := if boomF W H bs i then -1 else cs.getD i.toNat 0
def turnI (W H i : Int) : Int := (H - 1 - i / W) * W + i % W
def turnG (W H : Int) (cs : List Int) (i : Int) : Int := cs.getD (turnI W H i).toNat 0
def strG (cs : List Int) (most : Int) (i : Int) : Int := if cs.getD i.toNat 0 > most then 0 else cs.getD i.toNat 0
theorem turnI_bd {W H i : Int} (hW : 0 < W) (hi : 0 ≤ i) (hn : i < W * H) : 0 ≤ turnI W H i ∧ turnI W H i < W * H := by
  have h1 := Int.emod_nonneg i (show W ≠ 0 by omega)
  have h2 := Int.emod_lt_of_pos i hW
  have h4 : 0 ≤ i / W := Int.ediv_nonneg hi (by omega)
  have h5 : i / W < H := Int.ediv_lt_of_lt_mul hW (by rw [Int.mul_comm]; exact hn)
  unfold turnI
  have h6 : 0 ≤ (H - 1 - i / W) * W := Int.mul_nonneg (by omega) (by omega)
  have h7 : (H - 1 - i / W) * W ≤ (H - 1) * W := Int.mul_le_mul_of_nonneg_right (by omega) (by omega)
  have h8 : (H - 1) * W = W * H - W := by rw [Int.sub_mul, Int.mul_comm H W]; omega
  omega
theorem dry1_spec (W H : Int) (cs : List Int) (bs : List Cell) (i : Nat) (hi : i < cs.length) (hl : cs.length ≤ 300) : Spec Try.prog 66 [V.i i, V.c (.ptr 3 0), V.c (.ptr 2 0)] [⟨0, .ro 0, cs.map C.i⟩, ⟨1, .mp false .int (bmF (boomF W H bs)), []⟩, ⟨2, .ro 0, [C.i W, C.i H, .sl 0 cs.length]⟩, ⟨3, .ro 0, [C.i W, C.i H, .sl 0 cs.length, .mp 1]⟩] 4 (Is (V.i (dryG W H cs bs i))) := by
  have hlm : (cs.map C.i).length = cs.length := by simp
  refine Spec.of tok Try.func66 rfl rfl rfl fun n0 cx => vc_ok tok ?_
  cases hb : boomF W H bs (i : Int) with
  | true =>
    have hm : bmF (boomF W H bs) [(i : Int)] = some (.b true) := by rw [bmF_look, hb]; rfl
    have hr : dryG W H cs bs i = -1 := by unfold dryG; rw [hb]; rfl
    repeat ((conv => whnf); first | (refine And.intro (by first | omega | exact Nat.le_of_ble_eq_true rfl | (dsimp only [inK]; omega) | (simp only [mulS_eq]; omega) | (simp only [mulS_eq, setL_length]; omega) | (simp only [setL_length, List.length_map]; omega) | exact ⟨by omega, by omega, by first | exact Nat.le_of_ble_eq_true rfl | (dsimp only; omega) | (simp only [setL_length]; omega) | (simp only [setL_length, List.length_map]; omega)⟩ | exact ⟨by omega, by first | rfl | omega, by omega, Nat.le_of_ble_eq_true rfl, Nat.le_of_ble_eq_true rfl⟩ | exact ⟨rfl, rfl, rfl, Nat.le_of_ble_eq_true rfl, by first | rfl | omega | exact Nat.le_of_ble_eq_true rfl | (dsimp only; omega) | (simp; done) | (simp; omega), by first | rfl | omega | exact Nat.le_of_ble_eq_true rfl | (dsimp only; omega) | (simp; done) | (simp; omega), by omega, Nat.le_of_ble_eq_true rfl⟩ | exact Eq.refl true) ?_) | (with_reducible refine lkm (hm) ?_) | (refine Exists.intro _ (And.intro rfl ?_)) | (refine And.intro (And.intro rfl (chk_rowI _ _ _ _)) ?_) | (refine br_t (by omega) ?_) | (refine br_f (by omega) ?_) | (refine bs_t (by omega) ?_) | (refine bs_f (by omega) ?_) | (refine fun (K' : K3) hK' => ?_) | (refine hK' _ _ _ ?_; clear hK' K') | (refine draw_auto tok mixed (by kernel_rfl) ?_) | (refine bs_bt (Eq.refl true) ?_) | (refine bs_bf (Eq.refl false) ?_) | (refine br_bt (Eq.refl true) ?_) | (refine br_bf (Eq.refl false) ?_) | (refine CallK.m ?_) | (refine And.intro (And.intro rfl rfl) ?_))
    intro ρ; rw [hr]; rfl
  | false =>
    have hm : bmF (boomF W H bs) [(i : Int)] = none := by rw [bmF_look, hb]; rfl
    have hr : dryG W H cs bs i = cs.getD i 0 := by unfold dryG; rw [hb]; rfl
    repeat ((conv => whnf); first | (refine And.intro (by first | omega | exact Nat.le_of_ble_eq_true rfl | (dsimp only [inK]; omega) | (simp only [mulS_eq]; omega) | (simp only [mulS_eq, setL_length]; omega) | (simp only [setL_length, List.length_map]; omega) | exact ⟨by omega, by omega, by first | exact Nat.le_of_ble_eq_true rfl | (dsimp only; omega) | (simp only [setL_length]; omega) | (simp only [setL_length, List.length_map]; omega)⟩ | exact ⟨by omega, by first | rfl | omega, by omega, Nat.le_of_ble_eq_true rfl, Nat.le_of_ble_eq_true rfl⟩ | exact ⟨rfl, rfl, rfl, Nat.le_of_ble_eq_true rfl, by first | rfl | omega | exact Nat.le_of_ble_eq_true rfl | (dsimp only; omega) | (simp; done) | (simp; omega), by first | rfl | omega | exact Nat.le_of_ble_eq_true rfl | (dsimp only; omega) | (simp; done) | (simp; omega), by omega, Nat.le_of_ble_eq_true rfl⟩ | exact Eq.refl true) ?_) | (with_reducible refine lkm (hm) ?_) | (with_reducible refine ld (intL hi) ?_) | (refine Exists.intro _ (And.intro rfl ?_)) | (refine And.intro (And.intro rfl (chk_rowI _ _ _ _)) ?_) | (refine br_t (by omega) ?_) | (refine br_f (by omega) ?_) | (refine bs_t (by omega) ?_) | (refine bs_f (by omega) ?_) | (refine fun (K' : K3) hK' => ?_) | (refine hK' _ _ _ ?_; clear hK' K') | (refine draw_auto tok mixed (by kernel_rfl) ?_) | (refine bs_bt (Eq.refl true) ?_) | (refine bs_bf (Eq.refl false) ?_) | (refine br_bt (Eq.refl true) ?_) | (refine br_bf (Eq.refl false) ?_) | (refine CallK.m ?_) | (refine And.intro (And.intro rfl rfl) ?_))
    intro ρ; rw [hr]; rfl
theorem turn1_spec (W H : Int) (cs : List Int) (i : Nat) (hok : CO W H cs) (hi : i < cs.length) : Spec Try.prog 70 [V.i i, V.c (.ptr 2 0)] [⟨0, .ro 0, cs.map C.i⟩, ⟨2, .ro 0, [C.i W, C.i H, .sl 0 cs.length]⟩] 4 (Is (V.i (turnG W H cs i))) := by
  have hlm : (cs.map C.i).length = cs.length := by simp
  have hW := hok.w
  have hH := hok.h
  have hcn := hok.len
  have hn100 : (cs.length : Int) ≤ 100 := by have := Int.mul_le_mul hW.2 hH.2 (by omega) (by omega : (0:Int) ≤ 10); omega
  have h1 := Int.emod_nonneg (i : Int) (show W ≠ 0 by omega)
  have h2 := Int.emod_lt_of_pos (i : Int) (show 0 < W by omega)
  have h4 : 0 ≤ (i : Int) / W := Int.ediv_nonneg (by omega) (by omega)
  have h5 : (i : Int) / W < H := Int.ediv_lt_of_lt_mul (by omega) (by rw [Int.mul_comm]; omega)
  have h6 : 0 ≤ (H - 1 - (i : Int) / W) * W := Int.mul_nonneg (by omega) (by omega)
  have h7 : (H - 1 - (i : Int) / W) * W ≤ 10 * 10 := Int.mul_le_mul (by omega) (by omega) (by omega) (by omega)
  have hb := turnI_bd (W := W) (H := H) (i := (i : Int)) (by omega) (by omega) (by omega)
  have hld : (cs.map C.i)[mulS (turnI W H (i : Int)).toNat 1]? = some (C.i (turnG W H cs i)) := intLz (k := (turnI W H (i : Int)).toNat) (by omega) (by omega)
  unfold turnI at hld hb
  refine Spec.of tok Try.func70 rfl rfl rfl fun n0 cx => vc_ok tok ?_
  repeat ((conv => whnf); first | (refine And.intro (by first | omega | exact Nat.le_of_ble_eq_true rfl | (dsimp only [inK]; omega) | (simp only [mulS_eq]; omega) | (simp only [mulS_eq, setL_length]; omega) | (simp only [setL_length, List.length_map]; omega) | exact ⟨by omega, by omega, by first | exact Nat.le_of_ble_eq_true rfl | (dsimp only; omega) | (simp only [setL_length]; omega) | (simp only [setL_length, List.length_map]; omega)⟩ | exact ⟨by omega, by first | rfl | omega, by omega, Nat.le_of_ble_eq_true rfl, Nat.le_of_ble_eq_true rfl⟩ | exact ⟨rfl, rfl, rfl, Nat.le_of_ble_eq_true rfl, by first | rfl | omega | exact Nat.le_of_ble_eq_true rfl | (dsimp only; omega) | (simp; done) | (simp; omega), by first | rfl | omega | exact Nat.le_of_ble_eq_true rfl | (dsimp only; omega) | (simp; done) | (simp; omega), by omega, Nat.le_of_ble_eq_true rfl⟩ | exact Eq.refl true) ?_) | (with_reducible refine ld (hld) ?_) | (refine Exists.intro _ (And.intro rfl ?_)) | (refine And.intro (And.intro rfl (chk_rowI _ _ _ _)) ?_) | (refine br_t (by omega) ?_) | (refine br_f (by omega) ?_) | (refine bs_t (by omega) ?_) | (refine bs_f (by omega) ?_) | (refine fun (K' : K3) hK' => ?_) | (refine hK' _ _ _ ?_; clear hK' K') | (refine draw_auto tok mixed (by kernel_rfl) ?_) | (refine bs_bt (Eq.refl true) ?_) | (refine bs_bf (Eq.refl false) ?_) | (refine br_bt (Eq.refl true) ?_) | (refine br_bf (Eq.refl false) ?_) | (refine CallK.m ?_) | (refine And.intro (And.intro rfl rfl) ?_))
  intro ρ; rfl
theorem str1_spec (W H : Int) (cs : List Int) (most : Int) (i : Nat) (hi : i < cs.length) (hl : cs.length ≤ 300) : Spec Try.prog 72 [V.i i, V.c (.ptr 2 0), V.c (.ptr 3 0)] [⟨0, .ro 0, cs.map C.i⟩, ⟨2, .ro 0, [C.i W, C.i H, .sl 0 cs.length]⟩, ⟨3, .ro 0, [C.i most]⟩] 4 (Is (V.i (strG cs most i))) := by
  have hlm : (cs.map C.i).length = cs.length := by simp
  have hld := intL hi
  have hr : strG cs most i = if cs.getD i 0 > most then 0 else cs.getD i 0 := rfl
  obtain ⟨x, hx⟩ : ∃ x, x = cs.getD i 0 := ⟨_, rfl⟩
  rw [← hx] at hld hr
  refine Spec.of tok Try.func72 rfl rfl rfl fun n0 cx => vc_ok tok ?_
  by_cases h : x > most
  · repeat ((conv => whnf); first | (refine And.intro (by first | omega | exact Nat.le_of_ble_eq_true rfl | (dsimp only [inK]; omega) | (simp only [mulS_eq]; omega) | (simp only [mulS_eq, setL_length]; omega) | (simp only [setL_length, List.length_map]; omega) | exact ⟨by omega, by omega, by first | exact Nat.le_of_ble_eq_true rfl | (dsimp only; omega) | (simp only [setL_length]; omega) | (simp only [setL_length, List.length_map]; omega)⟩ | exact ⟨by omega, by first | rfl | omega, by omega, Nat.le_of_ble_eq_true rfl, Nat.le_of_ble_eq_true rfl⟩ | exact ⟨rfl, rfl, rfl, Nat.le_of_ble_eq_true rfl, by first | rfl | omega | exact Nat.le_of_ble_eq_true rfl | (dsimp only; omega) | (simp; done) | (simp; omega), by first | rfl | omega | exact Nat.le_of_ble_eq_true rfl | (dsimp only; omega) | (simp; done) | (simp; omega), by omega, Nat.le_of_ble_eq_true rfl⟩ | exact Eq.refl true) ?_) | (with_reducible refine ld (hld) ?_) | (refine Exists.intro _ (And.intro rfl ?_)) | (refine And.intro (And.intro rfl (chk_rowI _ _ _ _)) ?_) | (refine br_t (by omega) ?_) | (refine br_f (by omega) ?_) | (refine bs_t (by omega) ?_) | (refine bs_f (by omega) ?_) | (refine fun (K' : K3) hK' => ?_) | (refine hK' _ _ _ ?_; clear hK' K') | (refine draw_auto tok mixed (by kernel_rfl) ?_) | (refine bs_t h ?_) | (refine br_t h ?_) | (refine bs_bt (Eq.refl true) ?_) | (refine bs_bf (Eq.refl false) ?_) | (refine br_bt (Eq.refl true) ?_) | (refine br_bf (Eq.refl false) ?_) | (refine CallK.m ?_) | (refine And.intro (And.intro rfl rfl) ?_))
    intro ρ; rw [hr, if_pos h]; rfl
  · repeat ((conv => whnf); first | (refine And.intro (by first | omega | exact Nat.le_of_ble_eq_true rfl | (dsimp only [inK]; omega) | (simp only [mulS_eq]; omega) | (simp only [mulS_eq, setL_length]; omega) | (simp only [setL_length, List.length_map]; omega) | exact ⟨by omega, by omega, by first | exact Nat.le_of_ble_eq_true rfl | (dsimp only; omega) | (simp only [setL_length]; omega) | (simp only [setL_length, List.length_map]; omega)⟩ | exact ⟨by omega, by first | rfl | omega, by omega, Nat.le_of_ble_eq_true rfl, Nat.le_of_ble_eq_true rfl⟩ | exact ⟨rfl, rfl, rfl, Nat.le_of_ble_eq_true rfl, by first | rfl | omega | exact Nat.le_of_ble_eq_true rfl | (dsimp only; omega) | (simp; done) | (simp; omega), by first | rfl | omega | exact Nat.le_of_ble_eq_true rfl | (dsimp only; omega) | (simp; done) | (simp; omega), by omega, Nat.le_of_ble_eq_true rfl⟩ | exact Eq.refl true) ?_) | (with_reducible refine ld (hld) ?_) | (refine Exists.intro _ (And.intro rfl ?_)) | (refine And.intro (And.intro rfl (chk_rowI _ _ _ _)) ?_) | (refine br_t (by omega) ?_) | (refine br_f (by omega) ?_) | (refine bs_t (by omega) ?_) | (refine bs_f (by omega) ?_) | (refine fun (K' : K3) hK' => ?_) | (refine hK' _ _ _ ?_; clear hK' K') | (refine draw_auto tok mixed (by kernel_rfl) ?_) | (refine bs_f h ?_) | (refine br_f h ?_) | (refine bs_bt (Eq.refl true) ?_) | (refine bs_bf (Eq.refl false) ?_) | (refine br_bt (Eq.refl true) ?_) | (refine br_bf (Eq.refl false) ?_) | (refine CallK.m ?_) | (refine And.intro (And.intro rfl rfl) ?_))
    intro ρ; rw [hr, if_neg h]; rfl
/-- A chart that comes about, and an error. -/
def chgR (W H : Int) (l : List Int) (v : V) (L' : List E) : Prop := ∃ lab, v = V.agg [C.i W, C.i H, .sl lab l.length] ∧ find L' lab = some ⟨lab, .vec 3 1, l.map C.i⟩

set_option maxHeartbeats 4000000 in
theorem changed_dry (W H : Int) (cs : List Int) (bs : List Cell) (hl : cs.length ≤ 300) :
    Spec Try.prog 65 [chV W H cs.length, V.c (.fn 66 [(3, 0), (2, 0)])] [⟨0, .ro 0, cs.map C.i⟩, ⟨1, .mp false .int (bmF (boomF W H bs)), []⟩, ⟨2, .ro 0, [C.i W, C.i H, .sl 0 cs.length]⟩, ⟨3, .ro 0, [C.i W, C.i H, .sl 0 cs.length, .mp 1]⟩] 4 (fun v L' _ => chgR W H (chgL cs (dryG W H cs bs)) v L') := by
  have hlm : (cs.map C.i).length = cs.length := by simp
  refine Spec.of tok Try.func65 rfl rfl rfl fun n0 cx => vc_ok tok ?_
  repeat ((conv => whnf); first | (refine And.intro (by first | omega | exact Nat.le_of_ble_eq_true rfl | (dsimp only [inK]; omega) | (simp only [mulS_eq]; omega) | (simp only [mulS_eq, setL_length]; omega) | (simp only [setL_length, List.length_map]; omega) | exact ⟨by omega, by omega, by first | exact Nat.le_of_ble_eq_true rfl | (dsimp only; omega) | (simp only [setL_length]; omega) | (simp only [setL_length, List.length_map]; omega)⟩ | exact ⟨by omega, by first | rfl | omega, by omega, Nat.le_of_ble_eq_true rfl, Nat.le_of_ble_eq_true rfl⟩ | exact ⟨rfl, rfl, rfl, Nat.le_of_ble_eq_true rfl, by first | rfl | omega | exact Nat.le_of_ble_eq_true rfl | (dsimp only; omega) | (simp; done) | (simp; omega), by first | rfl | omega | exact Nat.le_of_ble_eq_true rfl | (dsimp only; omega) | (simp; done) | (simp; omega), by omega, Nat.le_of_ble_eq_true rfl⟩ | exact Eq.refl true) ?_) | (refine Exists.intro _ (And.intro rfl ?_)) | (refine And.intro (And.intro rfl (chk_rowI _ _ _ _)) ?_) | (refine br_t (by omega) ?_) | (refine br_f (by omega) ?_) | (refine bs_t (by omega) ?_) | (refine bs_f (by omega) ?_) | (refine fun (K' : K3) hK' => ?_) | (refine hK' _ _ _ ?_; clear hK' K') | (refine draw_auto tok mixed (by kernel_rfl) ?_) | (refine bs_bt (Eq.refl true) ?_) | (refine bs_bf (Eq.refl false) ?_) | (refine br_bt (Eq.refl true) ?_) | (refine br_bf (Eq.refl false) ?_) | (refine CallK.m ?_) | (refine And.intro (And.intro rfl rfl) ?_))
  refine Tri.loop (γ := Nat) (fun k => k ≤ cs.length) (fun k => [(1, V.c (.fn 66 [(3, 0), (2, 0)])), (2, V.c (.ptr 4 0)), (4, V.c (.ptr 5 0)), (5, V.c (.ptr 6 0)), (17, V.i cs.length), (18, V.i (k : Nat))])
    (fun k => [⟨7, .vec 3 1, (chgK (dryG W H cs bs) k).map C.i⟩, ⟨6, .own 24, [C.i W, C.i H, .sl 7 k]⟩, ⟨5, .own 24, [C.i 0, C.i 0, .nil]⟩, ⟨4, .own 65, [C.i W, C.i H, .sl 0 cs.length, .mp 1]⟩, ⟨0, .ro 0, cs.map C.i⟩, ⟨1, .mp false .int (bmF (boomF W H bs)), []⟩, ⟨2, .ro 0, [C.i W, C.i H, .sl 0 cs.length]⟩, ⟨3, .ro 0, [C.i W, C.i H, .sl 0 cs.length, .mp 1]⟩]) 8 (fun k => cs.length - k) 0 (R0 := [(7, none)]) ?_ ?_ ?_
  · omega
  · refine ⟨?_, ?_, rfl, rfl, Nat.le_of_ble_eq_true rfl⟩
    · repeat (first | exact trivial | refine And.intro (covS_syn rfl rfl (by first | exact trivial | exact Nat.le_of_ble_eq_true rfl | exact fn_wf3 rfl)) ?_)
    · repeat (first | exact trivial | refine And.intro (covE_nil rfl (Nat.le_of_ble_eq_true rfl) rfl rfl) ?_ | refine And.intro (covE_mp rfl (Nat.le_of_ble_eq_true rfl) rfl rfl) ?_ | refine And.intro (covE_some rfl (Nat.le_of_ble_eq_true rfl) (by first | exact wf_ints _ _ | simp [C.wf]) rfl (by first | exact ren_ints _ _ | rfl)) ?_)
  · intro k hk
    refine vc_ok tok ?_
    by_cases hlt : k < cs.length
    · have hsp := dry1_spec W H cs bs k hlt hl
      have hrow : ((chgK (dryG W H cs bs) k).map C.i).length = k := by simp [chgK]
      have hsucc := chgK_succ (dryG W H cs bs) k
      obtain ⟨x, hx⟩ : ∃ x, x = (dryG W H cs bs) (k : Int) := ⟨_, rfl⟩
      rw [← hx] at hsp hsucc
      repeat ((conv => whnf); first | (refine And.intro (by first | omega | exact Nat.le_of_ble_eq_true rfl | (dsimp only [inK]; omega) | (simp only [mulS_eq]; omega) | (simp only [mulS_eq, setL_length]; omega) | (simp only [setL_length, List.length_map]; omega) | exact ⟨by omega, by omega, by first | exact Nat.le_of_ble_eq_true rfl | (dsimp only; omega) | (simp only [setL_length]; omega) | (simp only [setL_length, List.length_map]; omega)⟩ | exact ⟨by omega, by first | rfl | omega, by omega, Nat.le_of_ble_eq_true rfl, Nat.le_of_ble_eq_true rfl⟩ | exact ⟨rfl, rfl, rfl, Nat.le_of_ble_eq_true rfl, by first | rfl | omega | exact Nat.le_of_ble_eq_true rfl | (dsimp only; omega) | (simp; done) | (simp; omega), by first | rfl | omega | exact Nat.le_of_ble_eq_true rfl | (dsimp only; omega) | (simp; done) | (simp; omega), by omega, Nat.le_of_ble_eq_true rfl⟩ | exact Eq.refl true) ?_) | (refine Exists.intro _ (And.intro rfl ?_)) | (refine And.intro (And.intro rfl (chk_rowI _ _ _ _)) ?_) | (refine br_t (by omega) ?_) | (refine br_f (by omega) ?_) | (refine bs_t (by omega) ?_) | (refine bs_f (by omega) ?_) | (refine fun (K' : K3) hK' => ?_) | (refine hK' _ _ _ ?_; clear hK' K') | (refine draw_kill [7] tok mixed (by decide +kernel) ?_) | (refine draw_auto tok mixed (by kernel_rfl) ?_) | (refine HD_mk (fun _ h => CallK.val (R := []) hsp (by kernel_rfl) rfl (by simp [V.wf, A.wf, C.wf]) ⟨roE_ints (l := 0) rfl (by omega) rfl (.inl rfl), ⟨by show 1 < 4; omega, rfl, _, rfl⟩, ⟨by show 2 < 4; omega, by simp [C.wf], _, _, rfl, .inl rfl, rfl⟩, ⟨by show 3 < 4; omega, by simp [C.wf], _, _, rfl, .inl rfl, rfl⟩, trivial⟩ rfl rfl trivial h) ?_) | (refine And.intro (And.intro rfl (chk_rowA _ _ _ _ _)) ?_) | (refine And.intro (by refine ⟨rfl, rfl, rfl, Nat.le_of_ble_eq_true rfl, ?_, by simp, by omega, Nat.le_of_ble_eq_true rfl⟩; (try dsimp only); rw [hrow]; omega) ?_) | (refine bs_bt (Eq.refl true) ?_) | (refine bs_bf (Eq.refl false) ?_) | (refine br_bt (Eq.refl true) ?_) | (refine br_bf (Eq.refl false) ?_) | (refine CallK.m ?_) | (refine And.intro (And.intro rfl rfl) ?_))
      refine ⟨k + 1, [(7, some 9)], by omega, by omega, ?_⟩
      refine ⟨?_, ?_, rfl, rfl, Nat.le_of_ble_eq_true rfl⟩
      · repeat (first | exact trivial | refine And.intro (covS_syn (by first | rfl | (refine congrArg some (congrArg V.i ?_); omega)) rfl (by first | exact trivial | exact Nat.le_of_ble_eq_true rfl | exact fn_wf3 rfl)) ?_)
      · repeat (first | exact trivial | refine And.intro (covE_mp rfl (Nat.le_of_ble_eq_true rfl) rfl rfl) ?_ | refine And.intro (covE_some rfl (Nat.le_of_ble_eq_true rfl) (by first | exact wf_ints _ _ | simp [C.wf]) rfl (by first | exact (ren_ints _ _).trans (congrArg some (by rw [hsucc]; rfl)) | exact ren_ints _ _ | rfl)) ?_)
    · have hkn : k = cs.length := by omega
      subst hkn
      repeat ((conv => whnf); first | (refine And.intro (by first | omega | exact Nat.le_of_ble_eq_true rfl | (dsimp only [inK]; omega) | (simp only [mulS_eq]; omega) | (simp only [mulS_eq, setL_length]; omega) | (simp only [setL_length, List.length_map]; omega) | exact ⟨by omega, by omega, by first | exact Nat.le_of_ble_eq_true rfl | (dsimp only; omega) | (simp only [setL_length]; omega) | (simp only [setL_length, List.length_map]; omega)⟩ | exact ⟨by omega, by first | rfl | omega, by omega, Nat.le_of_ble_eq_true rfl, Nat.le_of_ble_eq_true rfl⟩ | exact ⟨rfl, rfl, rfl, Nat.le_of_ble_eq_true rfl, by first | rfl | omega | exact Nat.le_of_ble_eq_true rfl | (dsimp only; omega) | (simp; done) | (simp; omega), by first | rfl | omega | exact Nat.le_of_ble_eq_true rfl | (dsimp only; omega) | (simp; done) | (simp; omega), by omega, Nat.le_of_ble_eq_true rfl⟩ | exact Eq.refl true) ?_) | (refine Exists.intro _ (And.intro rfl ?_)) | (refine And.intro (And.intro rfl (chk_rowI _ _ _ _)) ?_) | (refine br_t (by omega) ?_) | (refine br_f (by omega) ?_) | (refine bs_t (by omega) ?_) | (refine bs_f (by omega) ?_) | (refine fun (K' : K3) hK' => ?_) | (refine hK' _ _ _ ?_; clear hK' K') | (refine draw_auto tok mixed (by kernel_rfl) ?_) | (refine bs_bt (Eq.refl true) ?_) | (refine bs_bf (Eq.refl false) ?_) | (refine br_bt (Eq.refl true) ?_) | (refine br_bf (Eq.refl false) ?_) | (refine CallK.m ?_) | (refine And.intro (And.intro rfl rfl) ?_))
      exact ⟨7, by rw [chgL_len]; rfl, rfl⟩

set_option maxHeartbeats 4000000 in
theorem changed_turn (W H : Int) (cs : List Int)  (hl : cs.length ≤ 300) (hok : CO W H cs) :
    Spec Try.prog 65 [chV W H cs.length, V.c (.fn 70 [(2, 0)])] [⟨0, .ro 0, cs.map C.i⟩, ⟨2, .ro 0, [C.i W, C.i H, .sl 0 cs.length]⟩] 4 (fun v L' _ => chgR W H (chgL cs (turnG W H cs)) v L') := by
  have hlm : (cs.map C.i).length = cs.length := by simp
  refine Spec.of tok Try.func65 rfl rfl rfl fun n0 cx => vc_ok tok ?_
  repeat ((conv => whnf); first | (refine And.intro (by first | omega | exact Nat.le_of_ble_eq_true rfl | (dsimp only [inK]; omega) | (simp only [mulS_eq]; omega) | (simp only [mulS_eq, setL_length]; omega) | (simp only [setL_length, List.length_map]; omega) | exact ⟨by omega, by omega, by first | exact Nat.le_of_ble_eq_true rfl | (dsimp only; omega) | (simp only [setL_length]; omega) | (simp only [setL_length, List.length_map]; omega)⟩ | exact ⟨by omega, by first | rfl | omega, by omega, Nat.le_of_ble_eq_true rfl, Nat.le_of_ble_eq_true rfl⟩ | exact ⟨rfl, rfl, rfl, Nat.le_of_ble_eq_true rfl, by first | rfl | omega | exact Nat.le_of_ble_eq_true rfl | (dsimp only; omega) | (simp; done) | (simp; omega), by first | rfl | omega | exact Nat.le_of_ble_eq_true rfl | (dsimp only; omega) | (simp; done) | (simp; omega), by omega, Nat.le_of_ble_eq_true rfl⟩ | exact Eq.refl true) ?_) | (refine Exists.intro _ (And.intro rfl ?_)) | (refine And.intro (And.intro rfl (chk_rowI _ _ _ _)) ?_) | (refine br_t (by omega) ?_) | (refine br_f (by omega) ?_) | (refine bs_t (by omega) ?_) | (refine bs_f (by omega) ?_) | (refine fun (K' : K3) hK' => ?_) | (refine hK' _ _ _ ?_; clear hK' K') | (refine draw_auto tok mixed (by kernel_rfl) ?_) | (refine bs_bt (Eq.refl true) ?_) | (refine bs_bf (Eq.refl false) ?_) | (refine br_bt (Eq.refl true) ?_) | (refine br_bf (Eq.refl false) ?_) | (refine CallK.m ?_) | (refine And.intro (And.intro rfl rfl) ?_))
  refine Tri.loop (γ := Nat) (fun k => k ≤ cs.length) (fun k => [(1, V.c (.fn 70 [(2, 0)])), (2, V.c (.ptr 4 0)), (4, V.c (.ptr 5 0)), (5, V.c (.ptr 6 0)), (17, V.i cs.length), (18, V.i (k : Nat))])
    (fun k => [⟨7, .vec 3 1, (chgK (turnG W H cs) k).map C.i⟩, ⟨6, .own 24, [C.i W, C.i H, .sl 7 k]⟩, ⟨5, .own 24, [C.i 0, C.i 0, .nil]⟩, ⟨4, .own 65, [C.i W, C.i H, .sl 0 cs.length, .mp 1]⟩, ⟨0, .ro 0, cs.map C.i⟩, ⟨2, .ro 0, [C.i W, C.i H, .sl 0 cs.length]⟩]) 8 (fun k => cs.length - k) 0 (R0 := [(7, none)]) ?_ ?_ ?_
  · omega
  · refine ⟨?_, ?_, rfl, rfl, Nat.le_of_ble_eq_true rfl⟩
    · repeat (first | exact trivial | refine And.intro (covS_syn rfl rfl (by first | exact trivial | exact Nat.le_of_ble_eq_true rfl | exact fn_wf3 rfl)) ?_)
    · repeat (first | exact trivial | refine And.intro (covE_nil rfl (Nat.le_of_ble_eq_true rfl) rfl rfl) ?_ | refine And.intro (covE_mp rfl (Nat.le_of_ble_eq_true rfl) rfl rfl) ?_ | refine And.intro (covE_some rfl (Nat.le_of_ble_eq_true rfl) (by first | exact wf_ints _ _ | simp [C.wf]) rfl (by first | exact ren_ints _ _ | rfl)) ?_)
  · intro k hk
    refine vc_ok tok ?_
    by_cases hlt : k < cs.length
    · have hsp := turn1_spec W H cs k hok hlt
      have hrow : ((chgK (turnG W H cs) k).map C.i).length = k := by simp [chgK]
      have hsucc := chgK_succ (turnG W H cs) k
      obtain ⟨x, hx⟩ : ∃ x, x = (turnG W H cs) (k : Int) := ⟨_, rfl⟩
      rw [← hx] at hsp hsucc
      repeat ((conv => whnf); first | (refine And.intro (by first | omega | exact Nat.le_of_ble_eq_true rfl | (dsimp only [inK]; omega) | (simp only [mulS_eq]; omega) | (simp only [mulS_eq, setL_length]; omega) | (simp only [setL_length, List.length_map]; omega) | exact ⟨by omega, by omega, by first | exact Nat.le_of_ble_eq_true rfl | (dsimp only; omega) | (simp only [setL_length]; omega) | (simp only [setL_length, List.length_map]; omega)⟩ | exact ⟨by omega, by first | rfl | omega, by omega, Nat.le_of_ble_eq_true rfl, Nat.le_of_ble_eq_true rfl⟩ | exact ⟨rfl, rfl, rfl, Nat.le_of_ble_eq_true rfl, by first | rfl | omega | exact Nat.le_of_ble_eq_true rfl | (dsimp only; omega) | (simp; done) | (simp; omega), by first | rfl | omega | exact Nat.le_of_ble_eq_true rfl | (dsimp only; omega) | (simp; done) | (simp; omega), by omega, Nat.le_of_ble_eq_true rfl⟩ | exact Eq.refl true) ?_) | (refine Exists.intro _ (And.intro rfl ?_)) | (refine And.intro (And.intro rfl (chk_rowI _ _ _ _)) ?_) | (refine br_t (by omega) ?_) | (refine br_f (by omega) ?_) | (refine bs_t (by omega) ?_) | (refine bs_f (by omega) ?_) | (refine fun (K' : K3) hK' => ?_) | (refine hK' _ _ _ ?_; clear hK' K') | (refine draw_kill [7] tok mixed (by decide +kernel) ?_) | (refine draw_auto tok mixed (by kernel_rfl) ?_) | (refine HD_mk (fun _ h => CallK.val (R := []) hsp (by kernel_rfl) rfl (by simp [V.wf, A.wf, C.wf]) ⟨roE_ints (l := 0) rfl (by omega) rfl (.inl rfl), ⟨by show 2 < 4; omega, by simp [C.wf], _, _, rfl, .inl rfl, rfl⟩, trivial⟩ rfl rfl trivial h) ?_) | (refine And.intro (And.intro rfl (chk_rowA _ _ _ _ _)) ?_) | (refine And.intro (by refine ⟨rfl, rfl, rfl, Nat.le_of_ble_eq_true rfl, ?_, by simp, by omega, Nat.le_of_ble_eq_true rfl⟩; (try dsimp only); rw [hrow]; omega) ?_) | (refine bs_bt (Eq.refl true) ?_) | (refine bs_bf (Eq.refl false) ?_) | (refine br_bt (Eq.refl true) ?_) | (refine br_bf (Eq.refl false) ?_) | (refine CallK.m ?_) | (refine And.intro (And.intro rfl rfl) ?_))
      refine ⟨k + 1, [(7, some 9)], by omega, by omega, ?_⟩
      refine ⟨?_, ?_, rfl, rfl, Nat.le_of_ble_eq_true rfl⟩
      · repeat (first | exact trivial | refine And.intro (covS_syn (by first | rfl | (refine congrArg some (congrArg V.i ?_); omega)) rfl (by first | exact trivial | exact Nat.le_of_ble_eq_true rfl | exact fn_wf3 rfl)) ?_)
      · repeat (first | exact trivial | refine And.intro (covE_mp rfl (Nat.le_of_ble_eq_true rfl) rfl rfl) ?_ | refine And.intro (covE_some rfl (Nat.le_of_ble_eq_true rfl) (by first | exact wf_ints _ _ | simp [C.wf]) rfl (by first | exact (ren_ints _ _).trans (congrArg some (by rw [hsucc]; rfl)) | exact ren_ints _ _ | rfl)) ?_)
    · have hkn : k = cs.length := by omega
      subst hkn
      repeat ((conv => whnf); first | (refine And.intro (by first | omega | exact Nat.le_of_ble_eq_true rfl | (dsimp only [inK]; omega) | (simp only [mulS_eq]; omega) | (simp only [mulS_eq, setL_length]; omega) | (simp only [setL_length, List.length_map]; omega) | exact ⟨by omega, by omega, by first | exact Nat.le_of_ble_eq_true rfl | (dsimp only; omega) | (simp only [setL_length]; omega) | (simp only [setL_length, List.length_map]; omega)⟩ | exact ⟨by omega, by first | rfl | omega, by omega, Nat.le_of_ble_eq_true rfl, Nat.le_of_ble_eq_true rfl⟩ | exact ⟨rfl, rfl, rfl, Nat.le_of_ble_eq_true rfl, by first | rfl | omega | exact Nat.le_of_ble_eq_true rfl | (dsimp only; omega) | (simp; done) | (simp; omega), by first | rfl | omega | exact Nat.le_of_ble_eq_true rfl | (dsimp only; omega) | (simp; done) | (simp; omega), by omega, Nat.le_of_ble_eq_true rfl⟩ | exact Eq.refl true) ?_) | (refine Exists.intro _ (And.intro rfl ?_)) | (refine And.intro (And.intro rfl (chk_rowI _ _ _ _)) ?_) | (refine br_t (by omega) ?_) | (refine br_f (by omega) ?_) | (refine bs_t (by omega) ?_) | (refine bs_f (by omega) ?_) | (refine fun (K' : K3) hK' => ?_) | (refine hK' _ _ _ ?_; clear hK' K') | (refine draw_auto tok mixed (by kernel_rfl) ?_) | (refine bs_bt (Eq.refl true) ?_) | (refine bs_bf (Eq.refl false) ?_) | (refine br_bt (Eq.refl true) ?_) | (refine br_bf (Eq.refl false) ?_) | (refine CallK.m ?_) | (refine And.intro (And.intro rfl rfl) ?_))
      exact ⟨7, by rw [chgL_len]; rfl, rfl⟩

set_option maxHeartbeats 4000000 in
theorem changed_str (W H : Int) (cs : List Int) (most : Int) (hl : cs.length ≤ 300) :
    Spec Try.prog 65 [chV W H cs.length, V.c (.fn 72 [(2, 0), (3, 0)])] [⟨0, .ro 0, cs.map C.i⟩, ⟨2, .ro 0, [C.i W, C.i H, .sl 0 cs.length]⟩, ⟨3, .ro 0, [C.i most]⟩] 4 (fun v L' _ => chgR W H (chgL cs (strG cs most)) v L') := by
  have hlm : (cs.map C.i).length = cs.length := by simp
  refine Spec.of tok Try.func65 rfl rfl rfl fun n0 cx => vc_ok tok ?_
  repeat ((conv => whnf); first | (refine And.intro (by first | omega | exact Nat.le_of_ble_eq_true rfl | (dsimp only [inK]; omega) | (simp only [mulS_eq]; omega) | (simp only [mulS_eq, setL_length]; omega) | (simp only [setL_length, List.length_map]; omega) | exact ⟨by omega, by omega, by first | exact Nat.le_of_ble_eq_true rfl | (dsimp only; omega) | (simp only [setL_length]; omega) | (simp only [setL_length, List.length_map]; omega)⟩ | exact ⟨by omega, by first | rfl | omega, by omega, Nat.le_of_ble_eq_true rfl, Nat.le_of_ble_eq_true rfl⟩ | exact ⟨rfl, rfl, rfl, Nat.le_of_ble_eq_true rfl, by first | rfl | omega | exact Nat.le_of_ble_eq_true rfl | (dsimp only; omega) | (simp; done) | (simp; omega), by first | rfl | omega | exact Nat.le_of_ble_eq_true rfl | (dsimp only; omega) | (simp; done) | (simp; omega), by omega, Nat.le_of_ble_eq_true rfl⟩ | exact Eq.refl true) ?_) | (refine Exists.intro _ (And.intro rfl ?_)) | (refine And.intro (And.intro rfl (chk_rowI _ _ _ _)) ?_) | (refine br_t (by omega) ?_) | (refine br_f (by omega) ?_) | (refine bs_t (by omega) ?_) | (refine bs_f (by omega) ?_) | (refine fun (K' : K3) hK' => ?_) | (refine hK' _ _ _ ?_; clear hK' K') | (refine draw_auto tok mixed (by kernel_rfl) ?_) | (refine bs_bt (Eq.refl true) ?_) | (refine bs_bf (Eq.refl false) ?_) | (refine br_bt (Eq.refl true) ?_) | (refine br_bf (Eq.refl false) ?_) | (refine CallK.m ?_) | (refine And.intro (And.intro rfl rfl) ?_))
  refine Tri.loop (γ := Nat) (fun k => k ≤ cs.length) (fun k => [(1, V.c (.fn 72 [(2, 0), (3, 0)])), (2, V.c (.ptr 4 0)), (4, V.c (.ptr 5 0)), (5, V.c (.ptr 6 0)), (17, V.i cs.length), (18, V.i (k : Nat))])
    (fun k => [⟨7, .vec 3 1, (chgK (strG cs most) k).map C.i⟩, ⟨6, .own 24, [C.i W, C.i H, .sl 7 k]⟩, ⟨5, .own 24, [C.i 0, C.i 0, .nil]⟩, ⟨4, .own 65, [C.i W, C.i H, .sl 0 cs.length, .mp 1]⟩, ⟨0, .ro 0, cs.map C.i⟩, ⟨2, .ro 0, [C.i W, C.i H, .sl 0 cs.length]⟩, ⟨3, .ro 0, [C.i most]⟩]) 8 (fun k => cs.length - k) 0 (R0 := [(7, none)]) ?_ ?_ ?_
  · omega
  · refine ⟨?_, ?_, rfl, rfl, Nat.le_of_ble_eq_true rfl⟩
    · repeat (first | exact trivial | refine And.intro (covS_syn rfl rfl (by first | exact trivial | exact Nat.le_of_ble_eq_true rfl | exact fn_wf3 rfl)) ?_)
    · repeat (first | exact trivial | refine And.intro (covE_nil rfl (Nat.le_of_ble_eq_true rfl) rfl rfl) ?_ | refine And.intro (covE_mp rfl (Nat.le_of_ble_eq_true rfl) rfl rfl) ?_ | refine And.intro (covE_some rfl (Nat.le_of_ble_eq_true rfl) (by first | exact wf_ints _ _ | simp [C.wf]) rfl (by first | exact ren_ints _ _ | rfl)) ?_)
  · intro k hk
    refine vc_ok tok ?_
    by_cases hlt : k < cs.length
    · have hsp := str1_spec W H cs most k hlt hl
      have hrow : ((chgK (strG cs most) k).map C.i).length = k := by simp [chgK]
      have hsucc := chgK_succ (strG cs most) k
      obtain ⟨x, hx⟩ : ∃ x, x = (strG cs most) (k : Int) := ⟨_, rfl⟩
      rw [← hx] at hsp hsucc
      repeat ((conv => whnf); first | (refine And.intro (by first | omega | exact Nat.le_of_ble_eq_true rfl | (dsimp only [inK]; omega) | (simp only [mulS_eq]; omega) | (simp only [mulS_eq, setL_length]; omega) | (simp only [setL_length, List.length_map]; omega) | exact ⟨by omega, by omega, by first | exact Nat.le_of_ble_eq_true rfl | (dsimp only; omega) | (simp only [setL_length]; omega) | (simp only [setL_length, List.length_map]; omega)⟩ | exact ⟨by omega, by first | rfl | omega, by omega, Nat.le_of_ble_eq_true rfl, Nat.le_of_ble_eq_true rfl⟩ | exact ⟨rfl, rfl, rfl, Nat.le_of_ble_eq_true rfl, by first | rfl | omega | exact Nat.le_of_ble_eq_true rfl | (dsimp only; omega) | (simp; done) | (simp; omega), by first | rfl | omega | exact Nat.le_of_ble_eq_true rfl | (dsimp only; omega) | (simp; done) | (simp; omega), by omega, Nat.le_of_ble_eq_true rfl⟩ | exact Eq.refl true) ?_) | (refine Exists.intro _ (And.intro rfl ?_)) | (refine And.intro (And.intro rfl (chk_rowI _ _ _ _)) ?_) | (refine br_t (by omega) ?_) | (refine br_f (by omega) ?_) | (refine bs_t (by omega) ?_) | (refine bs_f (by omega) ?_) | (refine fun (K' : K3) hK' => ?_) | (refine hK' _ _ _ ?_; clear hK' K') | (refine draw_kill [7] tok mixed (by decide +kernel) ?_) | (refine draw_auto tok mixed (by kernel_rfl) ?_) | (refine HD_mk (fun _ h => CallK.val (R := []) hsp (by kernel_rfl) rfl (by simp [V.wf, A.wf, C.wf]) ⟨roE_ints (l := 0) rfl (by omega) rfl (.inl rfl), ⟨by show 2 < 4; omega, by simp [C.wf], _, _, rfl, .inl rfl, rfl⟩, ⟨by show 3 < 4; omega, by simp [C.wf], _, _, rfl, .inl rfl, rfl⟩, trivial⟩ rfl rfl trivial h) ?_) | (refine And.intro (And.intro rfl (chk_rowA _ _ _ _ _)) ?_) | (refine And.intro (by refine ⟨rfl, rfl, rfl, Nat.le_of_ble_eq_true rfl, ?_, by simp, by omega, Nat.le_of_ble_eq_true rfl⟩; (try dsimp only); rw [hrow]; omega) ?_) | (refine bs_bt (Eq.refl true) ?_) | (refine bs_bf (Eq.refl false) ?_) | (refine br_bt (Eq.refl true) ?_) | (refine br_bf (Eq.refl false) ?_) | (refine CallK.m ?_) | (refine And.intro (And.intro rfl rfl) ?_))
      refine ⟨k + 1, [(7, some 9)], by omega, by omega, ?_⟩
      refine ⟨?_, ?_, rfl, rfl, Nat.le_of_ble_eq_true rfl⟩
      · repeat (first | exact trivial | refine And.intro (covS_syn (by first | rfl | (refine congrArg some (congrArg V.i ?_); omega)) rfl (by first | exact trivial | exact Nat.le_of_ble_eq_true rfl | exact fn_wf3 rfl)) ?_)
      · repeat (first | exact trivial | refine And.intro (covE_mp rfl (Nat.le_of_ble_eq_true rfl) rfl rfl) ?_ | refine And.intro (covE_some rfl (Nat.le_of_ble_eq_true rfl) (by first | exact wf_ints _ _ | simp [C.wf]) rfl (by first | exact (ren_ints _ _).trans (congrArg some (by rw [hsucc]; rfl)) | exact ren_ints _ _ | rfl)) ?_)
    · have hkn : k = cs.length := by omega
      subst hkn
      repeat ((conv => whnf); first | (refine And.intro (by first | omega | exact Nat.le_of_ble_eq_true rfl | (dsimp only [inK]; omega) | (simp only [mulS_eq]; omega) | (simp only [mulS_eq, setL_length]; omega) | (simp only [setL_length, List.length_map]; omega) | exact ⟨by omega, by omega, by first | exact Nat.le_of_ble_eq_true rfl | (dsimp only; omega) | (simp only [setL_length]; omega) | (simp only [setL_length, List.length_map]; omega)⟩ | exact ⟨by omega, by first | rfl | omega, by omega, Nat.le_of_ble_eq_true rfl, Nat.le_of_ble_eq_true rfl⟩ | exact ⟨rfl, rfl, rfl, Nat.le_of_ble_eq_true rfl, by first | rfl | omega | exact Nat.le_of_ble_eq_true rfl | (dsimp only; omega) | (simp; done) | (simp; omega), by first | rfl | omega | exact Nat.le_of_ble_eq_true rfl | (dsimp only; omega) | (simp; done) | (simp; omega), by omega, Nat.le_of_ble_eq_true rfl⟩ | exact Eq.refl true) ?_) | (refine Exists.intro _ (And.intro rfl ?_)) | (refine And.intro (And.intro rfl (chk_rowI _ _ _ _)) ?_) | (refine br_t (by omega) ?_) | (refine br_f (by omega) ?_) | (refine bs_t (by omega) ?_) | (refine bs_f (by omega) ?_) | (refine fun (K' : K3) hK' => ?_) | (refine hK' _ _ _ ?_; clear hK' K') | (refine draw_auto tok mixed (by kernel_rfl) ?_) | (refine bs_bt (Eq.refl true) ?_) | (refine bs_bf (Eq.refl false) ?_) | (refine br_bt (Eq.refl true) ?_) | (refine br_bf (Eq.refl false) ?_) | (refine CallK.m ?_) | (refine And.intro (And.intro rfl rfl) ?_))
      exact ⟨7, by rw [chgL_len]; rfl, rfl⟩
end Go.Proofs.Ytbhpnhcdjmcaoaa

/- Boom, plain: barriers of the charts that are upside down, with dead cells, with dry booms. -/
namespace Go.Proofs.Ytbhpnhcdjmcaoaa
open Go.RowKit
set_option linter.unusedVariables false
set_option linter.unusedSimpArgs false
theorem chgL_get {cs : List Int} (g : Int → Int) {i : Int} (h0 : 0 ≤ i) (h : i < cs.length) : (chgL cs g).getD i.toNat 0 = g i := by
  have hk : i.toNat < cs.length := by omega
  unfold chgL
  rw [List.getD_eq_getElem?_getD, List.getElem?_map, List.getElem?_eq_getElem (by simpa using hk)]
  simp only [Option.map_some, Option.getD_some, List.getElem_range]
  congr 1; omega
section
variable {W H : Int} {cs : List Int}
theorem CO.chg (hok : CO W H cs) {g : Int → Int} (hg : ∀ i : Int, 0 ≤ i → i < cs.length → -1 ≤ g i ∧ g i ≤ 100) : CO W H (chgL cs g) :=
  ⟨hok.w, hok.h, by rw [chgL_len]; exact hok.len, fun x hx => by
    unfold chgL at hx
    obtain ⟨i, hi, rfl⟩ := List.mem_map.1 hx
    have := List.mem_range.1 hi
    exact hg _ (by omega) (by omega)⟩
theorem CO.get (hok : CO W H cs) {i : Int} (h0 : 0 ≤ i) (h : i < cs.length) : -1 ≤ cs.getD i.toNat 0 ∧ cs.getD i.toNat 0 ≤ 100 := by
  have hk : i.toNat < cs.length := by omega
  rw [List.getD_eq_getElem?_getD, List.getElem?_eq_getElem hk]
  exact hok.cost _ (List.getElem_mem hk)
theorem CO.turn (hok : CO W H cs) : CO W H (chgL cs (turnG W H cs)) := hok.chg fun i h0 h => by
  have hw := hok.w
  have := turnI_bd (W := W) (H := H) (by omega) h0 (by have := hok.len; omega)
  exact hok.get this.1 (by have := hok.len; omega)
theorem CO.str (hok : CO W H cs) (most : Int) : CO W H (chgL cs (strG cs most)) := hok.chg fun i h0 h => by
  have := hok.get h0 h
  unfold strG; split <;> omega
theorem CO.dry (hok : CO W H cs) (bs : List Cell) : CO W H (chgL cs (dryG W H cs bs)) := hok.chg fun i h0 h => by
  have := hok.get h0 h
  unfold dryG; split <;> omega
def tp (H : Int) (p : Cell) : Cell := (p.1, H - 1 - p.2)
theorem tp_on {p : Cell} (h : onB W H p.1 p.2 = true) : onB W H (tp H p).1 (tp H p).2 = true := by
  have ho := onB_t h
  simp only [onB, tp, Bool.and_eq_true]
  exact ⟨dd_t ho.1.1, dd_t ho.1.2, dd_t (by omega), dd_t (by omega)⟩
theorem tp_tp (p : Cell) : tp H (tp H p) = p := Prod.ext rfl (by simp only [tp]; omega)
theorem tp_idx (hok : CO W H cs) {p : Cell} (h : onB W H p.1 p.2 = true) : turnI W H (idxU W p) = idxU W (tp H p) := by
  obtain ⟨_, _, h3, h4⟩ := idxU_in hok h
  unfold turnI; rw [h3, h4]; rfl
theorem turn_at (hok : CO W H cs) {p : Cell} (h : onB W H p.1 p.2 = true) : (chgL cs (turnG W H cs)).getD (idxU W (tp H p)).toNat 0 = cs.getD (idxU W p).toNat 0 := by
  have h1 := idxU_in hok (tp_on h)
  rw [chgL_get _ h1.1 h1.2.1]
  unfold turnG
  rw [tp_idx hok (tp_on h), tp_tp]
theorem getD_rev {l : List Cell} {j : Nat} (hj : j < l.length) : (l.map (tp H)).reverse.getD j cz = tp H (l.getD (l.length - 1 - j) cz) := by
  rw [List.getD_eq_getElem?_getD, List.getElem?_reverse (by simpa using hj), List.getElem?_map, List.length_map, List.getElem?_eq_getElem (by omega), List.getD_eq_getElem?_getD, List.getElem?_eq_getElem (by omega)]
  rfl
theorem adj_tp {e : Bool} {p q : Cell} (h : adj e p q) : adj e (tp H p) (tp H q) := by
  obtain ⟨h1, h2, h3, h4⟩ := h
  refine ⟨h1, by simp only [tp]; omega, fun hh => h3 ⟨hh.1, by have := hh.2; simp only [tp] at this; omega⟩, ?_⟩
  rcases h4 with h4 | h4 | h4
  · exact .inl h4
  · exact .inr (.inl h4)
  · exact .inr (.inr (by simp only [tp]; omega))
/-- A barrier upside down. -/
theorem bar_turn (hok : CO W H cs) {l : List Cell} (hb : BarP W H cs l) : BarP W H (chgL cs (turnG W H cs)) (l.map (tp H)).reverse := by
  have hl : (l.map (tp H)).reverse.length = l.length := by simp
  refine ⟨fun j hj => ?_, fun j i hj hi he => ?_, by rw [hl]; exact hb.len, fun j hj => ?_, fun j hj => ?_, fun j hj => ?_, fun j hj => ?_⟩
  · rw [hl] at hj; rw [getD_rev hj]; exact tp_on (hb.on _ (by omega))
  · rw [hl] at hj
    rw [getD_rev hj, getD_rev (by omega)] at he
    have he' := congrArg (tp H) he
    rw [tp_tp, tp_tp] at he'
    exact hb.nd (l.length - 1 - i) (l.length - 1 - j) (by omega) (by omega) he'.symm
  · rw [hl] at hj
    rw [getD_rev hj, getD_rev (by omega)]
    have := hb.adj (l.length - 1 - (j + 1)) (by omega)
    rw [show l.length - 1 - (j + 1) + 1 = l.length - 1 - j from by omega] at this
    exact adj_tp (adj_symm this)
  · rw [hl] at hj
    rw [getD_rev hj, turn_at hok (hb.on _ (by omega))]
    exact hb.hold _ (by omega)
  · rw [hl] at hj
    rw [getD_rev hj]
    have := hb.bot (l.length - 1 - j) (by omega)
    simp only [tp]
    constructor
    · intro h; have := this.1 (by omega); omega
    · intro h; have := this.2 (by omega); omega
  · rw [hl] at hj ⊢
    rw [getD_rev hj]
    have := hb.top (l.length - 1 - j) (by omega)
    simp only [tp]
    constructor
    · intro h; have := this.1 (by omega); omega
    · intro h; have := this.2 (by omega); omega
theorem cst_at {cs cs' : List Int} {i j : Int} (h : cs.getD i.toNat 0 = cs'.getD j.toNat 0) : cstI cs i = cstI cs' j := by unfold cstI; rw [h]
theorem sumC_eq (W : Int) (cs : List Int) (l : List Cell) : sumC W cs l = (l.map fun p => cstI cs (idxU W p)).sum := by unfold sumC sumK; rw [List.take_length]
theorem BarP.mem {l : List Cell} (hb : BarP W H cs l) {p : Cell} (h : p ∈ l) : onB W H p.1 p.2 = true ∧ ¬ cs.getD (idxU W p).toNat 0 = 0 := by
  obtain ⟨j, hj, rfl⟩ := List.mem_iff_getElem.1 h
  have h1 := hb.on j hj
  have h2 := hb.hold j hj
  have hg : l.getD j cz = l[j] := by rw [List.getD_eq_getElem?_getD, List.getElem?_eq_getElem hj]; rfl
  rw [hg] at h1 h2
  exact ⟨h1, h2⟩
theorem sum_turn (hok : CO W H cs) {l : List Cell} (hb : BarP W H cs l) : sumC W (chgL cs (turnG W H cs)) (l.map (tp H)).reverse = sumC W cs l := by
  rw [sumC_eq, sumC_eq, List.map_reverse, List.sum_reverse, List.map_map]
  congr 1
  refine List.map_congr_left fun p hp => ?_
  exact cst_at (turn_at hok (hb.mem hp).1)
theorem turn_turn (hok : CO W H cs) : chgL (chgL cs (turnG W H cs)) (turnG W H (chgL cs (turnG W H cs))) = cs := by
  have hW := hok.w
  have hl := hok.len
  refine List.ext_getElem (by rw [chgL_len, chgL_len]) fun k h1 h2 => ?_
  have hk : (0 : Int) ≤ k ∧ (k : Int) < W * H := by omega
  have hc := cellI_idx (W := W) (H := H) (i := k) (by omega) hk.1 hk.2
  have e1 := chgL_get (cs := chgL cs (turnG W H cs)) (turnG W H (chgL cs (turnG W H cs))) (i := (k : Int)) (by omega) (by rw [chgL_len]; omega)
  rw [List.getD_eq_getElem?_getD, List.getElem?_eq_getElem (by simpa using h1)] at e1
  simp only [Int.toNat_natCast, Option.getD_some] at e1
  rw [e1]
  unfold turnG
  rw [← hc.2, tp_idx hok hc.1, ]
  have := turn_at hok hc.1
  unfold turnG at this
  rw [this, hc.2, List.getD_eq_getElem?_getD, List.getElem?_eq_getElem (by simpa using h2)]
  rfl
/-- The chart upside down has as cheap a barrier. -/
theorem turn_cost (hok : CO W H cs) : (barO W H (chgL cs (turnG W H cs))).map (fun p => p.2.1) = (barO W H cs).map fun p => p.2.1 := by
  have hok' := hok.turn
  cases h : barO W H cs with
  | none =>
    cases h' : barO W H (chgL cs (turnG W H cs)) with
    | none => rfl
    | some q =>
      obtain ⟨l, w⟩ := q
      have hb := bar_turn hok' (bar_is hok' h').1
      rw [turn_turn hok] at hb
      obtain ⟨_, _, he, _⟩ := bar_least hok hb
      rw [h] at he; cases he
  | some q =>
    obtain ⟨l, w⟩ := q
    have hi := bar_is hok h
    obtain ⟨l', w', he, hle⟩ := bar_least hok' (bar_turn hok hi.1)
    rw [sum_turn hok hi.1] at hle
    have hi' := bar_is hok' he
    have hb := bar_turn hok' hi'.1
    have hs := sum_turn hok' hi'.1
    rw [turn_turn hok] at hb hs
    obtain ⟨l2, w2, he2, hle2⟩ := bar_least hok hb
    rw [h] at he2; cases he2
    rw [he]
    simp only [Option.map_some, Option.some.injEq]
    omega
/-- The chart without costly cells has no cheaper one. -/
theorem str_cost (hok : CO W H cs) (most : Int) {l : List Int} {w : Way} (h : barO W H (chgL cs (strG cs most)) = some (l, w)) : ∃ l' w', barO W H cs = some (l', w') ∧ w'.1 ≤ w.1 := by
  have hok' := hok.str most
  obtain ⟨hb, hs, _⟩ := bar_is hok' h
  have key : ∀ p ∈ cellsL W l, (chgL cs (strG cs most)).getD (idxU W p).toNat 0 = cs.getD (idxU W p).toNat 0 := fun p hp => by
    obtain ⟨h1, h2⟩ := hb.mem hp
    have h3 := idxU_in hok h1
    rw [chgL_get _ h3.1 h3.2.1] at h2 ⊢
    unfold strG at h2 ⊢
    split
    · rename_i hh; rw [if_pos hh] at h2; exact absurd rfl h2
    · rfl
  have hb' : BarP W H cs (cellsL W l) := ⟨hb.on, hb.nd, hb.len, hb.adj, fun j hj => by
    have h1 := hb.hold j hj
    rw [key _ (by rw [List.getD_eq_getElem?_getD, List.getElem?_eq_getElem hj]; exact List.getElem_mem hj)] at h1
    exact h1, hb.top, hb.bot⟩
  obtain ⟨l', w', he, hle⟩ := bar_least hok hb'
  refine ⟨l', w', he, ?_⟩
  have : sumC W cs (cellsL W l) = sumC W (chgL cs (strG cs most)) (cellsL W l) := by
    rw [sumC_eq, sumC_eq]
    congr 1
    exact List.map_congr_left fun p hp => (cst_at (key p hp)).symm
  omega
end
end Go.Proofs.Ytbhpnhcdjmcaoaa

/- Boom: Dry, Turned, Strong. -/
namespace Go.Proofs.Ytbhpnhcdjmcaoaa
open Go.RowKit
set_option linter.unusedVariables false
set_option linter.unusedSimpArgs false
section
variable {P : Program} {n0 nx nac : Nat} {f : FuncId} {vs vs' : List V} {Lc L : List E} {R : Rn} {K : V → List E → Nat → Prop}
theorem CallK.chg {W H : Int} {l : List Int} (spec : Spec P f vs Lc nac (fun v L' _ => chgR W H l v L')) (hok : callB P f = true)
    (hv : renVs R vs = some vs') (hvw : ∀ v ∈ vs, v.wf nac) (hL : roL R nac L Lc) (hLc : injB [] Lc = true)
    (hK : K (V.agg [C.i W, C.i H, .sl nx l.length]) [⟨nx, .vec 3 1, l.map C.i⟩] (nx + 1)) : CallK P n0 f vs' L nx K := by
  refine CallK.mk' hok spec hv hvw hL hLc ?_
  rintro v L' nx' hw ⟨lab, rfl, hf⟩
  refine ⟨V.agg [C.i W, C.i H, .sl nx l.length], [⟨nx, .vec 3 1, l.map C.i⟩], nx + 1, [(nx, some lab)], ⟨Nat.le_succ _, ?_, ?_, ⟨covE_some (renL_one _ _) (Nat.lt_succ_self nx) (wf_ints _ _) hf (ren_ints _ _), trivial⟩, rfl, ?_⟩, hK⟩
  · simp [V.ren, A.ren, C.ren, renL_one, C.i, seqO]
  · simp [V.chk, A.chk, C.chk, inLab_one, C.i]
  · simp only [List.all_cons, List.all_nil, Bool.and_true, inLab_one, Kd.isRo, Bool.not_false, Bool.true_and]
    exact chk_ints _ _
/-- A chart and an error. -/
def chrE (o : Option (List Int)) (W H Er : Int) (v : V) (L' : List E) : Prop := match o with
  | none => v = V.tup [A.agg [C.i 0, C.i 0, .nil], A.c (C.i Er)]
  | some l => ∃ lab, v = V.tup [A.agg [C.i W, C.i H, .sl lab l.length], A.c (C.i 0)] ∧ find L' lab = some ⟨lab, .vec 3 1, l.map C.i⟩
theorem CallK.chN {o : Option (List Int)} {W H Er : Int} (ho : o = none) (spec : Spec P f vs Lc nac (fun v L' _ => chrE o W H Er v L')) (hok : callB P f = true)
    (hv : renVs R vs = some vs') (hvw : ∀ v ∈ vs, v.wf nac) (hL : roL R nac L Lc) (hLc : injB [] Lc = true)
    (hK : K (V.tup [A.agg [C.i 0, C.i 0, .nil], A.c (C.i Er)]) [] nx) : CallK P n0 f vs' L nx K := by
  refine CallK.mk' hok spec hv hvw hL hLc ?_
  intro v L' nx' hw hq
  subst ho
  have hq : v = V.tup [A.agg [C.i 0, C.i 0, .nil], A.c (C.i Er)] := hq
  subst hq
  exact ⟨V.tup [A.agg [C.i 0, C.i 0, .nil], A.c (C.i Er)], [], nx, [], ⟨Nat.le_refl _, rfl, rfl, trivial, rfl, rfl⟩, hK⟩
theorem CallK.chS {o : Option (List Int)} {W H Er : Int} {l : List Int} (ho : o = some l) (spec : Spec P f vs Lc nac (fun v L' _ => chrE o W H Er v L')) (hok : callB P f = true)
    (hv : renVs R vs = some vs') (hvw : ∀ v ∈ vs, v.wf nac) (hL : roL R nac L Lc) (hLc : injB [] Lc = true)
    (hK : K (V.tup [A.agg [C.i W, C.i H, .sl nx l.length], A.c (C.i 0)]) [⟨nx, .vec 3 1, l.map C.i⟩] (nx + 1)) : CallK P n0 f vs' L nx K := by
  refine CallK.mk' hok spec hv hvw hL hLc ?_
  intro v L' nx' hw hq
  subst ho
  obtain ⟨lab, rfl, hf⟩ := hq
  refine ⟨V.tup [A.agg [C.i W, C.i H, .sl nx l.length], A.c (C.i 0)], [⟨nx, .vec 3 1, l.map C.i⟩], nx + 1, [(nx, some lab)], ⟨Nat.le_succ _, ?_, ?_, ⟨covE_some (renL_one _ _) (Nat.lt_succ_self nx) (wf_ints _ _) hf (ren_ints _ _), trivial⟩, rfl, ?_⟩, hK⟩
  · simp [V.ren, A.ren, C.ren, renL_one, seqO, C.i]
  · simp [V.chk, A.chk, C.chk, inLab_one, C.i]
  · simp only [List.all_cons, List.all_nil, Bool.and_true, inLab_one, Kd.isRo, Bool.not_false, Bool.true_and]
    exact chk_ints _ _
end
def dryO (W H : Int) (cs : List Int) (bs : List Cell) : Option (List Int) := if okC W H cs = true ∧ okB W H cs bs = true then some (chgL cs (dryG W H cs bs)) else none
def dryE (W H : Int) (cs : List Int) (bs : List Cell) : Int := if okC W H cs = true then (if okB W H cs bs = true then 0 else 2) else 30
def turnO (W H : Int) (cs : List Int) : Option (List Int) := if okC W H cs = true then some (chgL cs (turnG W H cs)) else none
def turnE (W H : Int) (cs : List Int) : Int := if okC W H cs = true then 0 else 30
def strO (W H : Int) (cs : List Int) (most : Int) : Option (List Int) := if okC W H cs = true ∧ (0 ≤ most ∧ most ≤ 100) then some (chgL cs (strG cs most)) else none
def strE (W H : Int) (cs : List Int) (most : Int) : Int := if okC W H cs = true then (if 0 ≤ most ∧ most ≤ 100 then 0 else 2) else 30
set_option maxHeartbeats 4000000 in
theorem dry_spec (W H : Int) (cs : List Int) (bs : List Cell) (hl : cs.length ≤ 300) (hb : bs.length ≤ 300) :
    Spec Try.prog 24 [chR W H cs.length, V.c (.sl 1 bs.length)] [⟨0, .ro 0, cs.map C.i⟩, ⟨1, .ro 0, cellC bs⟩] 2 (fun v L' _ => chrE (dryO W H cs bs) W H (dryE W H cs bs) v L') := by
  refine Spec.of tok Try.func24 rfl rfl rfl fun n0 cx => vc_ok tok ?_
  cases hv : okC W H cs with
  | false =>
    have r1 : dryO W H cs bs = none := by unfold dryO; rw [hv]; rfl
    have r2 : dryE W H cs bs = 30 := by unfold dryE; rw [hv]; rfl
    rw [r1, r2]
    repeat ((conv => whnf); first | (refine And.intro (by first | omega | exact Nat.le_of_ble_eq_true rfl | (dsimp only [inK]; omega) | (simp only [mulS_eq]; omega) | (simp only [mulS_eq, setL_length]; omega) | (simp only [setL_length, List.length_map]; omega) | exact ⟨by omega, by omega, by first | exact Nat.le_of_ble_eq_true rfl | (dsimp only; omega) | (simp only [setL_length]; omega) | (simp only [setL_length, List.length_map]; omega)⟩ | exact ⟨by omega, by first | rfl | omega, by omega, Nat.le_of_ble_eq_true rfl, Nat.le_of_ble_eq_true rfl⟩ | exact ⟨rfl, rfl, rfl, Nat.le_of_ble_eq_true rfl, by first | rfl | omega | exact Nat.le_of_ble_eq_true rfl | (dsimp only; omega) | (simp; done) | (simp; omega), by first | rfl | omega | exact Nat.le_of_ble_eq_true rfl | (dsimp only; omega) | (simp; done) | (simp; omega), by omega, Nat.le_of_ble_eq_true rfl⟩ | exact Eq.refl true) ?_) | (refine Exists.intro _ (And.intro rfl ?_)) | (refine And.intro (And.intro rfl (chk_rowI _ _ _ _)) ?_) | (refine br_t (by omega) ?_) | (refine br_f (by omega) ?_) | (refine bs_t (by omega) ?_) | (refine bs_f (by omega) ?_) | (refine fun (K' : K3) hK' => ?_) | (refine hK' _ _ _ ?_; clear hK' K') | (refine draw_auto tok mixed (by kernel_rfl) ?_) | (refine CallK.newNo (a := 0) (bs := bs) (R := []) 30 hl hb (.inl ⟨hv, rfl⟩) rfl rfl ⟨roE_ints (l := 0) rfl (by omega) rfl (.inl rfl), roE_cells (l := 1) rfl (by omega) rfl (.inl rfl), trivial⟩ ?_) | (refine bs_bt (Eq.refl true) ?_) | (refine bs_bf (Eq.refl false) ?_) | (refine br_bt (Eq.refl true) ?_) | (refine br_bf (Eq.refl false) ?_) | (refine CallK.m ?_) | (refine And.intro (And.intro rfl rfl) ?_))
    rfl
  | true =>
    cases hB : okB W H cs bs with
    | false =>
      have r1 : dryO W H cs bs = none := by unfold dryO; rw [hv, hB]; rfl
      have r2 : dryE W H cs bs = 2 := by unfold dryE; rw [hv, hB]; rfl
      rw [r1, r2]
      repeat ((conv => whnf); first | (refine And.intro (by first | omega | exact Nat.le_of_ble_eq_true rfl | (dsimp only [inK]; omega) | (simp only [mulS_eq]; omega) | (simp only [mulS_eq, setL_length]; omega) | (simp only [setL_length, List.length_map]; omega) | exact ⟨by omega, by omega, by first | exact Nat.le_of_ble_eq_true rfl | (dsimp only; omega) | (simp only [setL_length]; omega) | (simp only [setL_length, List.length_map]; omega)⟩ | exact ⟨by omega, by first | rfl | omega, by omega, Nat.le_of_ble_eq_true rfl, Nat.le_of_ble_eq_true rfl⟩ | exact ⟨rfl, rfl, rfl, Nat.le_of_ble_eq_true rfl, by first | rfl | omega | exact Nat.le_of_ble_eq_true rfl | (dsimp only; omega) | (simp; done) | (simp; omega), by first | rfl | omega | exact Nat.le_of_ble_eq_true rfl | (dsimp only; omega) | (simp; done) | (simp; omega), by omega, Nat.le_of_ble_eq_true rfl⟩ | exact Eq.refl true) ?_) | (refine Exists.intro _ (And.intro rfl ?_)) | (refine And.intro (And.intro rfl (chk_rowI _ _ _ _)) ?_) | (refine br_t (by omega) ?_) | (refine br_f (by omega) ?_) | (refine bs_t (by omega) ?_) | (refine bs_f (by omega) ?_) | (refine fun (K' : K3) hK' => ?_) | (refine hK' _ _ _ ?_; clear hK' K') | (refine draw_auto tok mixed (by kernel_rfl) ?_) | (refine CallK.newNo (a := 0) (bs := bs) (R := []) 2 hl hb (.inr ⟨hv, hB, rfl⟩) rfl rfl ⟨roE_ints (l := 0) rfl (by omega) rfl (.inl rfl), roE_cells (l := 1) rfl (by omega) rfl (.inl rfl), trivial⟩ ?_) | (refine bs_bt (Eq.refl true) ?_) | (refine bs_bf (Eq.refl false) ?_) | (refine br_bt (Eq.refl true) ?_) | (refine br_bf (Eq.refl false) ?_) | (refine CallK.m ?_) | (refine And.intro (And.intro rfl rfl) ?_))
      rfl
    | true =>
      have r1 : dryO W H cs bs = some (chgL cs (dryG W H cs bs)) := by unfold dryO; rw [hv, hB]; rfl
      have hch := changed_dry W H cs bs hl
      rw [r1]
      repeat ((conv => whnf); first | (refine And.intro (by first | omega | exact Nat.le_of_ble_eq_true rfl | (dsimp only [inK]; omega) | (simp only [mulS_eq]; omega) | (simp only [mulS_eq, setL_length]; omega) | (simp only [setL_length, List.length_map]; omega) | exact ⟨by omega, by omega, by first | exact Nat.le_of_ble_eq_true rfl | (dsimp only; omega) | (simp only [setL_length]; omega) | (simp only [setL_length, List.length_map]; omega)⟩ | exact ⟨by omega, by first | rfl | omega, by omega, Nat.le_of_ble_eq_true rfl, Nat.le_of_ble_eq_true rfl⟩ | exact ⟨rfl, rfl, rfl, Nat.le_of_ble_eq_true rfl, by first | rfl | omega | exact Nat.le_of_ble_eq_true rfl | (dsimp only; omega) | (simp; done) | (simp; omega), by first | rfl | omega | exact Nat.le_of_ble_eq_true rfl | (dsimp only; omega) | (simp; done) | (simp; omega), by omega, Nat.le_of_ble_eq_true rfl⟩ | exact Eq.refl true) ?_) | (refine Exists.intro _ (And.intro rfl ?_)) | (refine And.intro (And.intro rfl (chk_rowI _ _ _ _)) ?_) | (refine br_t (by omega) ?_) | (refine br_f (by omega) ?_) | (refine bs_t (by omega) ?_) | (refine bs_f (by omega) ?_) | (refine fun (K' : K3) hK' => ?_) | (refine hK' _ _ _ ?_; clear hK' K') | (refine draw_auto tok mixed (by kernel_rfl) ?_) | (refine CallK.newOk (a := 0) (bs := bs) (R := []) hl hb hv hB rfl rfl (by omega) ⟨roE_ints (l := 0) rfl (by omega) rfl (.inl rfl), roE_cells (l := 1) rfl (by omega) rfl (.inl rfl), trivial⟩ ?_) | (refine CallK.chg (R := [(1, some 4), (3, some 5)]) hch (by kernel_rfl) rfl (by intro v hv; simp only [List.mem_cons, List.not_mem_nil, or_false] at hv; rcases hv with rfl | rfl; simp [V.wf, A.wf, C.wf]; exact fn_wf3 rfl) ⟨roE_ints (l := 0) rfl (by omega) rfl (.inl rfl), ⟨by show 1 < 4; omega, rfl, _, rfl⟩, ⟨by show 2 < 4; omega, by simp [C.wf], _, _, rfl, .inl rfl, rfl⟩, ⟨by show 3 < 4; omega, by simp [C.wf], _, _, rfl, .inl rfl, rfl⟩, trivial⟩ rfl ?_) | (refine bs_bt (Eq.refl true) ?_) | (refine bs_bf (Eq.refl false) ?_) | (refine br_bt (Eq.refl true) ?_) | (refine br_bf (Eq.refl false) ?_) | (refine CallK.m ?_) | (refine And.intro (And.intro rfl rfl) ?_))
      rfl
set_option maxHeartbeats 4000000 in
theorem turned_spec (W H : Int) (cs : List Int) (hl : cs.length ≤ 300) :
    Spec Try.prog 27 [chR W H cs.length] [⟨0, .ro 0, cs.map C.i⟩] 1 (fun v L' _ => chrE (turnO W H cs) W H (turnE W H cs) v L') := by
  refine Spec.of tok Try.func27 rfl rfl rfl fun n0 cx => vc_ok tok ?_
  cases hv : okC W H cs with
  | false =>
    have r1 : turnO W H cs = none := by unfold turnO; rw [hv]; rfl
    have r2 : turnE W H cs = 30 := by unfold turnE; rw [hv]; rfl
    rw [r1, r2]
    repeat ((conv => whnf); first | (refine And.intro (by first | omega | exact Nat.le_of_ble_eq_true rfl | (dsimp only [inK]; omega) | (simp only [mulS_eq]; omega) | (simp only [mulS_eq, setL_length]; omega) | (simp only [setL_length, List.length_map]; omega) | exact ⟨by omega, by omega, by first | exact Nat.le_of_ble_eq_true rfl | (dsimp only; omega) | (simp only [setL_length]; omega) | (simp only [setL_length, List.length_map]; omega)⟩ | exact ⟨by omega, by first | rfl | omega, by omega, Nat.le_of_ble_eq_true rfl, Nat.le_of_ble_eq_true rfl⟩ | exact ⟨rfl, rfl, rfl, Nat.le_of_ble_eq_true rfl, by first | rfl | omega | exact Nat.le_of_ble_eq_true rfl | (dsimp only; omega) | (simp; done) | (simp; omega), by first | rfl | omega | exact Nat.le_of_ble_eq_true rfl | (dsimp only; omega) | (simp; done) | (simp; omega), by omega, Nat.le_of_ble_eq_true rfl⟩ | exact Eq.refl true) ?_) | (refine Exists.intro _ (And.intro rfl ?_)) | (refine And.intro (And.intro rfl (chk_rowI _ _ _ _)) ?_) | (refine br_t (by omega) ?_) | (refine br_f (by omega) ?_) | (refine bs_t (by omega) ?_) | (refine bs_f (by omega) ?_) | (refine fun (K' : K3) hK' => ?_) | (refine hK' _ _ _ ?_; clear hK' K') | (refine draw_auto tok mixed (by kernel_rfl) ?_) | (refine CallK.newNo (a := 0) (bs := []) (R := [(1, none)]) 30 hl (by simp) (.inl ⟨hv, rfl⟩) rfl rfl (roNil rfl) ?_) | (refine bs_bt (Eq.refl true) ?_) | (refine bs_bf (Eq.refl false) ?_) | (refine br_bt (Eq.refl true) ?_) | (refine br_bf (Eq.refl false) ?_) | (refine CallK.m ?_) | (refine And.intro (And.intro rfl rfl) ?_))
    rfl
  | true =>
    have r1 : turnO W H cs = some (chgL cs (turnG W H cs)) := by unfold turnO; rw [hv]; rfl
    have hch := changed_turn W H cs hl (okC_iff.1 hv)
    rw [r1]
    repeat ((conv => whnf); first | (refine And.intro (by first | omega | exact Nat.le_of_ble_eq_true rfl | (dsimp only [inK]; omega) | (simp only [mulS_eq]; omega) | (simp only [mulS_eq, setL_length]; omega) | (simp only [setL_length, List.length_map]; omega) | exact ⟨by omega, by omega, by first | exact Nat.le_of_ble_eq_true rfl | (dsimp only; omega) | (simp only [setL_length]; omega) | (simp only [setL_length, List.length_map]; omega)⟩ | exact ⟨by omega, by first | rfl | omega, by omega, Nat.le_of_ble_eq_true rfl, Nat.le_of_ble_eq_true rfl⟩ | exact ⟨rfl, rfl, rfl, Nat.le_of_ble_eq_true rfl, by first | rfl | omega | exact Nat.le_of_ble_eq_true rfl | (dsimp only; omega) | (simp; done) | (simp; omega), by first | rfl | omega | exact Nat.le_of_ble_eq_true rfl | (dsimp only; omega) | (simp; done) | (simp; omega), by omega, Nat.le_of_ble_eq_true rfl⟩ | exact Eq.refl true) ?_) | (refine Exists.intro _ (And.intro rfl ?_)) | (refine And.intro (And.intro rfl (chk_rowI _ _ _ _)) ?_) | (refine br_t (by omega) ?_) | (refine br_f (by omega) ?_) | (refine bs_t (by omega) ?_) | (refine bs_f (by omega) ?_) | (refine fun (K' : K3) hK' => ?_) | (refine hK' _ _ _ ?_; clear hK' K') | (refine draw_auto tok mixed (by kernel_rfl) ?_) | (refine CallK.newOk (a := 0) (bs := []) (R := [(1, none)]) hl (by simp) hv (okB_nil _ _ _) rfl rfl (by omega) (roNil rfl) ?_) | (refine CallK.chg (R := [(1, some 3), (2, some 1)]) hch (by kernel_rfl) rfl (by intro v hv; simp only [List.mem_cons, List.not_mem_nil, or_false] at hv; rcases hv with rfl | rfl; simp [V.wf, A.wf, C.wf]; exact fn_wf3 rfl) ⟨roE_ints (l := 0) rfl (by omega) rfl (.inl rfl), ⟨by show 2 < 4; omega, by simp [C.wf], _, _, rfl, .inl rfl, rfl⟩, trivial⟩ rfl ?_) | (refine bs_bt (Eq.refl true) ?_) | (refine bs_bf (Eq.refl false) ?_) | (refine br_bt (Eq.refl true) ?_) | (refine br_bf (Eq.refl false) ?_) | (refine CallK.m ?_) | (refine And.intro (And.intro rfl rfl) ?_))
    rfl
set_option maxHeartbeats 4000000 in
theorem strong_spec (W H : Int) (cs : List Int) (most : Int) (hl : cs.length ≤ 300) :
    Spec Try.prog 29 [chR W H cs.length, V.i most] [⟨0, .ro 0, cs.map C.i⟩] 1 (fun v L' _ => chrE (strO W H cs most) W H (strE W H cs most) v L') := by
  have hbt := between_spec 0 most 100
  refine Spec.of tok Try.func29 rfl rfl rfl fun n0 cx => vc_ok tok ?_
  cases hv : okC W H cs with
  | false =>
    have r1 : strO W H cs most = none := by unfold strO; rw [hv]; rfl
    have r2 : strE W H cs most = 30 := by unfold strE; rw [hv]; rfl
    rw [r1, r2]
    repeat ((conv => whnf); first | (refine And.intro (by first | omega | exact Nat.le_of_ble_eq_true rfl | (dsimp only [inK]; omega) | (simp only [mulS_eq]; omega) | (simp only [mulS_eq, setL_length]; omega) | (simp only [setL_length, List.length_map]; omega) | exact ⟨by omega, by omega, by first | exact Nat.le_of_ble_eq_true rfl | (dsimp only; omega) | (simp only [setL_length]; omega) | (simp only [setL_length, List.length_map]; omega)⟩ | exact ⟨by omega, by first | rfl | omega, by omega, Nat.le_of_ble_eq_true rfl, Nat.le_of_ble_eq_true rfl⟩ | exact ⟨rfl, rfl, rfl, Nat.le_of_ble_eq_true rfl, by first | rfl | omega | exact Nat.le_of_ble_eq_true rfl | (dsimp only; omega) | (simp; done) | (simp; omega), by first | rfl | omega | exact Nat.le_of_ble_eq_true rfl | (dsimp only; omega) | (simp; done) | (simp; omega), by omega, Nat.le_of_ble_eq_true rfl⟩ | exact Eq.refl true) ?_) | (refine Exists.intro _ (And.intro rfl ?_)) | (refine And.intro (And.intro rfl (chk_rowI _ _ _ _)) ?_) | (refine br_t (by omega) ?_) | (refine br_f (by omega) ?_) | (refine bs_t (by omega) ?_) | (refine bs_f (by omega) ?_) | (refine fun (K' : K3) hK' => ?_) | (refine hK' _ _ _ ?_; clear hK' K') | (refine draw_auto tok mixed (by kernel_rfl) ?_) | (refine CallK.newNo (a := 0) (bs := []) (R := [(1, none)]) 30 hl (by simp) (.inl ⟨hv, rfl⟩) rfl rfl (roNil rfl) ?_) | (refine bs_bt (Eq.refl true) ?_) | (refine bs_bf (Eq.refl false) ?_) | (refine br_bt (Eq.refl true) ?_) | (refine br_bf (Eq.refl false) ?_) | (refine CallK.m ?_) | (refine And.intro (And.intro rfl rfl) ?_))
    rfl
  | true =>
    by_cases hm : 0 ≤ most ∧ most ≤ 100
    · have r1 : strO W H cs most = some (chgL cs (strG cs most)) := by unfold strO; rw [hv, if_pos ⟨rfl, hm⟩]
      have hch := changed_str W H cs most hl
      rw [r1]
      repeat ((conv => whnf); first | (refine And.intro (by first | omega | exact Nat.le_of_ble_eq_true rfl | (dsimp only [inK]; omega) | (simp only [mulS_eq]; omega) | (simp only [mulS_eq, setL_length]; omega) | (simp only [setL_length, List.length_map]; omega) | exact ⟨by omega, by omega, by first | exact Nat.le_of_ble_eq_true rfl | (dsimp only; omega) | (simp only [setL_length]; omega) | (simp only [setL_length, List.length_map]; omega)⟩ | exact ⟨by omega, by first | rfl | omega, by omega, Nat.le_of_ble_eq_true rfl, Nat.le_of_ble_eq_true rfl⟩ | exact ⟨rfl, rfl, rfl, Nat.le_of_ble_eq_true rfl, by first | rfl | omega | exact Nat.le_of_ble_eq_true rfl | (dsimp only; omega) | (simp; done) | (simp; omega), by first | rfl | omega | exact Nat.le_of_ble_eq_true rfl | (dsimp only; omega) | (simp; done) | (simp; omega), by omega, Nat.le_of_ble_eq_true rfl⟩ | exact Eq.refl true) ?_) | (refine Exists.intro _ (And.intro rfl ?_)) | (refine And.intro (And.intro rfl (chk_rowI _ _ _ _)) ?_) | (refine br_t (by omega) ?_) | (refine br_f (by omega) ?_) | (refine bs_t (by omega) ?_) | (refine bs_f (by omega) ?_) | (refine fun (K' : K3) hK' => ?_) | (refine hK' _ _ _ ?_; clear hK' K') | (refine draw_auto tok mixed (by kernel_rfl) ?_) | (refine CallK.newOk (a := 0) (bs := []) (R := [(1, none)]) hl (by simp) hv (okB_nil _ _ _) rfl rfl (by omega) (roNil rfl) ?_) | (refine CallK.val (R := []) hbt (by kernel_rfl) rfl (by simp [V.wf, A.wf, C.wf]) trivial rfl rfl trivial ?_) | (refine bs_bf (nd_f hm) ?_) | (refine br_bf (nd_f hm) ?_) | (refine CallK.chg (R := [(1, some 4), (2, some 1), (3, some 2)]) hch (by kernel_rfl) rfl (by intro v hv; simp only [List.mem_cons, List.not_mem_nil, or_false] at hv; rcases hv with rfl | rfl; simp [V.wf, A.wf, C.wf]; exact fn_wf3 rfl) ⟨roE_ints (l := 0) rfl (by omega) rfl (.inl rfl), ⟨by show 2 < 4; omega, by simp [C.wf], _, _, rfl, .inl rfl, rfl⟩, ⟨by show 3 < 4; omega, by simp [C.wf], _, _, rfl, .inl rfl, rfl⟩, trivial⟩ rfl ?_) | (refine bs_bt (Eq.refl true) ?_) | (refine bs_bf (Eq.refl false) ?_) | (refine br_bt (Eq.refl true) ?_) | (refine br_bf (Eq.refl false) ?_) | (refine CallK.m ?_) | (refine And.intro (And.intro rfl rfl) ?_))
      rfl
    · have r1 : strO W H cs most = none := by unfold strO; rw [if_neg (fun h => hm h.2)]
      have r2 : strE W H cs most = 2 := by unfold strE; rw [hv, if_pos rfl, if_neg hm]
      rw [r1, r2]
      repeat ((conv => whnf); first | (refine And.intro (by first | omega | exact Nat.le_of_ble_eq_true rfl | (dsimp only [inK]; omega) | (simp only [mulS_eq]; omega) | (simp only [mulS_eq, setL_length]; omega) | (simp only [setL_length, List.length_map]; omega) | exact ⟨by omega, by omega, by first | exact Nat.le_of_ble_eq_true rfl | (dsimp only; omega) | (simp only [setL_length]; omega) | (simp only [setL_length, List.length_map]; omega)⟩ | exact ⟨by omega, by first | rfl | omega, by omega, Nat.le_of_ble_eq_true rfl, Nat.le_of_ble_eq_true rfl⟩ | exact ⟨rfl, rfl, rfl, Nat.le_of_ble_eq_true rfl, by first | rfl | omega | exact Nat.le_of_ble_eq_true rfl | (dsimp only; omega) | (simp; done) | (simp; omega), by first | rfl | omega | exact Nat.le_of_ble_eq_true rfl | (dsimp only; omega) | (simp; done) | (simp; omega), by omega, Nat.le_of_ble_eq_true rfl⟩ | exact Eq.refl true) ?_) | (refine Exists.intro _ (And.intro rfl ?_)) | (refine And.intro (And.intro rfl (chk_rowI _ _ _ _)) ?_) | (refine br_t (by omega) ?_) | (refine br_f (by omega) ?_) | (refine bs_t (by omega) ?_) | (refine bs_f (by omega) ?_) | (refine fun (K' : K3) hK' => ?_) | (refine hK' _ _ _ ?_; clear hK' K') | (refine draw_auto tok mixed (by kernel_rfl) ?_) | (refine CallK.newOk (a := 0) (bs := []) (R := [(1, none)]) hl (by simp) hv (okB_nil _ _ _) rfl rfl (by omega) (roNil rfl) ?_) | (refine CallK.val (R := []) hbt (by kernel_rfl) rfl (by simp [V.wf, A.wf, C.wf]) trivial rfl rfl trivial ?_) | (refine bs_bt (nd_t hm) ?_) | (refine br_bt (nd_t hm) ?_) | (refine bs_bt (Eq.refl true) ?_) | (refine bs_bf (Eq.refl false) ?_) | (refine br_bt (Eq.refl true) ?_) | (refine br_bf (Eq.refl false) ?_) | (refine CallK.m ?_) | (refine And.intro (And.intro rfl rfl) ?_))
      rfl
end Go.Proofs.Ytbhpnhcdjmcaoaa

