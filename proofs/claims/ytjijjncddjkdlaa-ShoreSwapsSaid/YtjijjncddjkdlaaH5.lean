/- Texts of the proof, part 5: U20, U21, U22, U23, U24, V4, O1, U25, V5, U26. -/
import Derived.Test.YtjijjncddjkdlaaH4
import Derived.WalkKit
import Derived.Below
import Derived.Laws.OwnMore
import Derived.Maps.AppendAt
import Derived.Laws.IdiomCopy
import Derived.Laws.CopyRow
import Derived.IntWalk
import Derived.StillTail
import Derived.Scope
import Derived.ChangeKeysEq
import Derived.Laws.Small
import Derived.OrdersIn
import Derived.TacticsIn
import Derived.OwnWalkIn
import Derived.RangeFuncNested
import Derived.RangeFuncLeaves
import Derived.RangeFuncRecord
import Derived.Test.YtjijjncddjkdlaaRows
import Derived.KernelRfl
import Derived.ProofKit
import Derived.OpenShut
import Derived.Lib.SmallJoins
import Derived.Deep.Slices
import Derived.PlainAid
import Derived.StillTailTactics
import Derived.WalkSpells
import Derived.OwnWalk
/- Shore: results that are rows; Least; Sane. -/
namespace Go.Proofs.Ytjijjncddjkdlaa
open Go.RowKit
set_option linter.unusedVariables false
set_option linter.unusedSimpArgs false
theorem renL_one (nx : Nat) (o : Option Nat) : renL [(nx, o)] nx = o := by simp [renL]
theorem inLab_one (nx : Nat) : inLab nx (nx + 1) nx = true := by simp [inLab, Nat.ble_eq, Nat.blt_eq]
/-- A callee that gives numbers, nil if there are none. -/
theorem CallK.ints {P : Program} {n0 nx nac : Nat} {f : FuncId} {vs vs' : List V} {Lc L : List E} {R : Rn} {K : V → List E → Nat → Prop} {l : List Int} (spec : Spec P f vs Lc nac (fun v L' _ => intsR l v L')) (hok : callB P f = true)
    (hv : renVs R vs = some vs') (hvw : ∀ v ∈ vs, v.wf nac) (hL : roL R nac L Lc) (hLc : injB [] Lc = true)
    (hK : K (V.c (.sl nx l.length)) [⟨nx, .vec 3 1, l.map C.i⟩] (nx + 1)) : CallK P n0 f vs' L nx K := by
  refine CallK.mk' hok spec hv hvw hL hLc ?_
  rintro v L' nx' hw (⟨rfl, rfl⟩ | ⟨lab, rfl, hf⟩)
  · refine ⟨V.c (.sl nx 0), [⟨nx, .vec 3 1, []⟩], nx + 1, [(nx, none)], ⟨Nat.le_succ _, ?_, ?_, ⟨covE_nil (renL_one _ _) (Nat.lt_succ_self nx) rfl rfl, trivial⟩, rfl, ?_⟩, hK⟩
    · simp only [V.ren, A.ren, C.ren, renL_one]
    · simp only [V.chk, A.chk, C.chk]; exact inLab_one nx
    · simp only [List.all_cons, List.all_nil, Bool.and_true, inLab_one, Kd.isRo, Bool.not_false]
  · refine ⟨V.c (.sl nx l.length), [⟨nx, .vec 3 1, l.map C.i⟩], nx + 1, [(nx, some lab)], ⟨Nat.le_succ _, ?_, ?_, ⟨covE_some (renL_one _ _) (Nat.lt_succ_self nx) (wf_ints _ _) hf (ren_ints _ _), trivial⟩, rfl, ?_⟩, hK⟩
    · simp only [V.ren, A.ren, C.ren, renL_one]
    · simp only [V.chk, A.chk, C.chk]; exact inLab_one nx
    · simp only [List.all_cons, List.all_nil, Bool.and_true, inLab_one, Kd.isRo, Bool.not_false, Bool.true_and]
      exact chk_ints _ _
/-- Numbers and an error. -/
def intsX (l : List Int) (Er : Int) (v : V) (L' : List E) : Prop :=
  ∃ o : C, v = V.tup [A.c o, A.c (C.i Er)] ∧ ((o = C.nil ∧ l = []) ∨ ∃ lab, o = C.sl lab l.length ∧ find L' lab = some ⟨lab, .vec 3 1, l.map C.i⟩)
theorem CallK.intsE {P : Program} {n0 nx nac : Nat} {f : FuncId} {vs vs' : List V} {Lc L : List E} {R : Rn} {K : V → List E → Nat → Prop} {l : List Int} {Er : Int} (spec : Spec P f vs Lc nac (fun v L' _ => intsX l Er v L')) (hok : callB P f = true)
    (hv : renVs R vs = some vs') (hvw : ∀ v ∈ vs, v.wf nac) (hL : roL R nac L Lc) (hLc : injB [] Lc = true)
    (hK : K (V.tup [A.c (.sl nx l.length), A.c (C.i Er)]) [⟨nx, .vec 3 1, l.map C.i⟩] (nx + 1)) : CallK P n0 f vs' L nx K := by
  refine CallK.mk' hok spec hv hvw hL hLc ?_
  rintro v L' nx' hw ⟨o, rfl, ⟨rfl, rfl⟩ | ⟨lab, rfl, hf⟩⟩
  · refine ⟨V.tup [A.c (.sl nx 0), A.c (C.i Er)], [⟨nx, .vec 3 1, []⟩], nx + 1, [(nx, none)], ⟨Nat.le_succ _, ?_, ?_, ⟨covE_nil (renL_one _ _) (Nat.lt_succ_self nx) rfl rfl, trivial⟩, rfl, ?_⟩, hK⟩
    · simp [V.ren, A.ren, C.ren, renL_one, C.i, seqO]
    · simp [V.chk, A.chk, C.chk, inLab_one, C.i]
    · simp only [List.all_cons, List.all_nil, Bool.and_true, inLab_one, Kd.isRo, Bool.not_false]
  · refine ⟨V.tup [A.c (.sl nx l.length), A.c (C.i Er)], [⟨nx, .vec 3 1, l.map C.i⟩], nx + 1, [(nx, some lab)], ⟨Nat.le_succ _, ?_, ?_, ⟨covE_some (renL_one _ _) (Nat.lt_succ_self nx) (wf_ints _ _) hf (ren_ints _ _), trivial⟩, rfl, ?_⟩, hK⟩
    · simp [V.ren, A.ren, C.ren, renL_one, C.i, seqO]
    · simp [V.chk, A.chk, C.chk, inLab_one, C.i]
    · simp only [List.all_cons, List.all_nil, Bool.and_true, inLab_one, Kd.isRo, Bool.not_false, Bool.true_and]
      exact chk_ints _ _
theorem validL_many {j : Coast} (hv : validL j = true) : manyN j j.length ≤ 12 := by
  simp only [validL, Bool.and_eq_true, decide_eq_true_eq] at hv; omega
def leastO (j : Coast) : Int := harmO j (natsC (bestO j)) (natsC (bestO j)).length
theorem HasC.roO {L : List E} {j : Coast} {o : List Int} {a : Nat} {k : Kd} (h : HasC L j) (hj : Sized j) (ho : find L a = some ⟨a, k, o.map C.i⟩) : roL [(21, some a)] 32 L (⟨0, .ro 1, slsC 1 j⟩ :: ⟨21, .ro 0, o.map C.i⟩ :: entC 1 j) := by
  have := hj.len
  refine ⟨⟨Nat.le_of_ble_eq_true rfl, wf_sls _ _ _ (by omega), .ro 1, slsC 1 j, h.sl, .inr rfl, ren_sls_of (fun l hl => by simp [renL, beq_ne (show 21 ≠ l by omega)]) (by omega)⟩, ⟨Nat.le_of_ble_eq_true rfl, wf_ints _ _, k, o.map C.i, ho, .inl rfl, ren_ints _ _⟩, roL_all fun e he => ?_⟩
  obtain ⟨i, hi, rfl⟩ := entC_mem he
  have hr : renL [(21, some a)] (1 + i) = some (1 + i) := by simp [renL, beq_ne (show 21 ≠ 1 + i by omega)]
  unfold roE
  simp only [hr]
  exact ⟨by omega, wf_jobs _ _, .ro 2, _, h.be i hi, .inr rfl, ren_jobs _ _⟩
theorem least_spec (j : Coast) (hj : Sized j) : Spec Try.prog 19 [V.c (.sl 0 j.length)] (⟨0, .ro 1, slsC 1 j⟩ :: entC 1 j) 32 (Is (if validL j then .tup [.c (.i (leastO j)), .c (.i 0)] else .tup [.c (.i 0), .c (.i 60)])) := by
  have hj20 := hj.len
  have hC : HasC (⟨0, .ro 1, slsC 1 j⟩ :: entC 1 j) j := ⟨rfl, fun k hk => by (repeat (first | rw [find_skip (by omega)] | rw [find_hi (by omega) (by rfl)])); exact entC_find hk⟩
  refine Spec.of tok Try.func19 rfl rfl rfl fun n0 cx => vc_ok tok ?_
  cases hv : validL j with
  | true =>
    have hm := validL_many hv
    have hc := validL_coast hj hv
    repeat ((conv => whnf); first
        | (refine And.intro (by first | omega | exact Nat.le_of_ble_eq_true rfl | (dsimp only [inK]; omega) | (simp only [mulS_eq]; omega) | (simp only [mulS_eq, setL_length]; omega) | (simp only [setL_length, List.length_map]; omega) | exact ⟨by omega, by omega, by first | exact Nat.le_of_ble_eq_true rfl | (dsimp only; omega) | (simp only [setL_length]; omega) | (simp only [setL_length, List.length_map]; omega)⟩ | exact ⟨by omega, by first | rfl | omega, by omega, Nat.le_of_ble_eq_true rfl, Nat.le_of_ble_eq_true rfl⟩ | exact ⟨rfl, rfl, rfl, Nat.le_of_ble_eq_true rfl, by first | rfl | omega | exact Nat.le_of_ble_eq_true rfl | (dsimp only; omega) | (simp; done) | (simp; omega), by first | rfl | omega | exact Nat.le_of_ble_eq_true rfl | (dsimp only; omega) | (simp; done) | (simp; omega), by omega, Nat.le_of_ble_eq_true rfl⟩ | exact Eq.refl true) ?_)
        | (refine Exists.intro _ (And.intro rfl ?_))
        | (refine And.intro (And.intro rfl (chk_rowI _ _ _ _)) ?_)
        | (refine br_t (by omega) ?_)
        | (refine br_f (by omega) ?_)
        | (refine bs_t (by omega) ?_)
        | (refine bs_f (by omega) ?_)
        | (refine fun (K' : K3) hK' => ?_)
        | (refine hK' _ _ _ ?_; clear hK' K')
        | (refine CallM.eq (by kernel_rfl) (open_spec j hj _ _ hC) ?_)
        | (refine draw_auto tok mixed (by kernel_rfl) ?_)
        | (rw [hv])
        | (refine CallK.ints (R := []) (best_spec j hc hj (by omega)) (by kernel_rfl) rfl (by simp [V.wf, A.wf, C.wf]) (hC.ro hj) (injC hj) ?_)
        | (refine CallK.val (R := [(21, some 32)]) (harm_spec j (natsC (bestO j)) hc (natsC_ok (by omega) (bestO_ord hc))) (by kernel_rfl) rfl (by simp [V.wf, A.wf, C.wf]) (HasC.roO ⟨rfl, fun k hk => by (repeat (first | rw [find_skip (by omega)] | rw [find_hi (by omega) (by rfl)])); exact entC_find hk⟩ hj rfl) (injO hj) rfl trivial ?_)
        | (refine bs_bt (Eq.refl true) ?_)
        | (refine bs_bf (Eq.refl false) ?_)
        | (refine br_bt (Eq.refl true) ?_)
        | (refine br_bf (Eq.refl false) ?_)
        | (refine CallK.m ?_)
        | (refine And.intro (And.intro rfl rfl) ?_))
    intro ρ; rfl
  | false =>
    repeat ((conv => whnf); first
        | (refine And.intro (by first | omega | exact Nat.le_of_ble_eq_true rfl | (dsimp only [inK]; omega) | (simp only [mulS_eq]; omega) | (simp only [mulS_eq, setL_length]; omega) | (simp only [setL_length, List.length_map]; omega) | exact ⟨by omega, by omega, by first | exact Nat.le_of_ble_eq_true rfl | (dsimp only; omega) | (simp only [setL_length]; omega) | (simp only [setL_length, List.length_map]; omega)⟩ | exact ⟨by omega, by first | rfl | omega, by omega, Nat.le_of_ble_eq_true rfl, Nat.le_of_ble_eq_true rfl⟩ | exact ⟨rfl, rfl, rfl, Nat.le_of_ble_eq_true rfl, by first | rfl | omega | exact Nat.le_of_ble_eq_true rfl | (dsimp only; omega) | (simp; done) | (simp; omega), by first | rfl | omega | exact Nat.le_of_ble_eq_true rfl | (dsimp only; omega) | (simp; done) | (simp; omega), by omega, Nat.le_of_ble_eq_true rfl⟩ | exact Eq.refl true) ?_)
        | (refine Exists.intro _ (And.intro rfl ?_))
        | (refine And.intro (And.intro rfl (chk_rowI _ _ _ _)) ?_)
        | (refine br_t (by omega) ?_)
        | (refine br_f (by omega) ?_)
        | (refine bs_t (by omega) ?_)
        | (refine bs_f (by omega) ?_)
        | (refine fun (K' : K3) hK' => ?_)
        | (refine hK' _ _ _ ?_; clear hK' K')
        | (refine CallM.eq (by kernel_rfl) (open_spec j hj _ _ hC) ?_)
        | (refine draw_auto tok mixed (by kernel_rfl) ?_)
        | (rw [hv])
        | (refine bs_bt (Eq.refl true) ?_)
        | (refine bs_bf (Eq.refl false) ?_)
        | (refine br_bt (Eq.refl true) ?_)
        | (refine br_bf (Eq.refl false) ?_)
        | (refine CallK.m ?_)
        | (refine And.intro (And.intro rfl rfl) ?_))
    intro ρ; rfl
end Go.Proofs.Ytjijjncddjkdlaa

/- Shore: Sane, Long. -/
namespace Go.Proofs.Ytjijjncddjkdlaa
open Go.RowKit
set_option linter.unusedVariables false
set_option linter.unusedSimpArgs false
def saneJ : Coast := [[(2, 6)], [(1, 1), (1, 9)]]
theorem sane_least : leastO saneJ = 43 := by decide +kernel
theorem sane_valid : validL saneJ = true := by decide +kernel
theorem sane_sized : Sized saneJ := ⟨by decide, by decide⟩
theorem sane_spec : Spec Try.prog 15 [] [] 0 (Is (V.c (.bool true))) := by
  refine Spec.of tok Try.func15 rfl rfl rfl fun n0 cx => vc_ok tok ?_
  repeat ((conv => whnf); first
      | (refine And.intro (by first | omega | exact Nat.le_of_ble_eq_true rfl | (dsimp only [inK]; omega) | (simp only [mulS_eq]; omega) | (simp only [mulS_eq, setL_length]; omega) | (simp only [setL_length, List.length_map]; omega) | exact ⟨by omega, by omega, by first | exact Nat.le_of_ble_eq_true rfl | (dsimp only; omega) | (simp only [setL_length]; omega) | (simp only [setL_length, List.length_map]; omega)⟩ | exact ⟨by omega, by first | rfl | omega, by omega, Nat.le_of_ble_eq_true rfl, Nat.le_of_ble_eq_true rfl⟩ | exact ⟨rfl, rfl, rfl, Nat.le_of_ble_eq_true rfl, by first | rfl | omega | exact Nat.le_of_ble_eq_true rfl | (dsimp only; omega) | (simp; done) | (simp; omega), by first | rfl | omega | exact Nat.le_of_ble_eq_true rfl | (dsimp only; omega) | (simp; done) | (simp; omega), by omega, Nat.le_of_ble_eq_true rfl⟩ | exact Eq.refl true) ?_)
      | (refine Exists.intro _ (And.intro rfl ?_))
      | (refine And.intro (And.intro rfl (chk_rowI _ _ _ _)) ?_)
      | (refine br_t (by omega) ?_)
      | (refine br_f (by omega) ?_)
      | (refine bs_t (by omega) ?_)
      | (refine bs_f (by omega) ?_)
      | (refine fun (K' : K3) hK' => ?_)
      | (refine hK' _ _ _ ?_; clear hK' K')
      | (refine draw_auto tok mixed (by kernel_rfl) ?_)
      | (refine CallK.val (R := [(0, some 2), (1, some 0), (2, some 1)]) (least_spec saneJ sane_sized) (by kernel_rfl) rfl (by simp [V.wf, A.wf, C.wf]) ⟨⟨by simp only; omega, by simp [slsC, saneJ, C.wf], _, _, rfl, .inr rfl, rfl⟩, ⟨by simp only; omega, by simp [jobC, C.i, C.wf], _, _, rfl, .inr rfl, rfl⟩, ⟨by simp only; omega, by simp [jobC, C.i, C.wf], _, _, rfl, .inr rfl, rfl⟩, trivial⟩ rfl (by rw [sane_valid]; rfl) (by rw [sane_valid]; simp [V.wf, A.wf, C.wf]) ?_)
      | (rw [sane_valid, sane_least])
      | (refine bs_bt (Eq.refl true) ?_)
      | (refine bs_bf (Eq.refl false) ?_)
      | (refine br_bt (Eq.refl true) ?_)
      | (refine br_bf (Eq.refl false) ?_)
      | (refine CallK.m ?_)
      | (refine And.intro (And.intro rfl rfl) ?_))
  intro ρ; rfl
def longB (j : Coast) : Bool := (j.any fun b => decide (100 < b.length)) || decide (20 < j.length)
theorem longB_sized {j : Coast} (h : longB j = false) : Sized j := by
  simp only [longB, Bool.or_eq_false_iff, decide_eq_false_iff_not] at h
  refine ⟨by omega, fun k hk => ?_⟩
  have := List.any_eq_false.1 h.1 _ (List.getElem_mem hk)
  rw [List.getD_eq_getElem?_getD, List.getElem?_eq_getElem hk]
  simpa using this
theorem long_any (j : Coast) (hj : j.length < 9223372036854775808) : Spec Try.prog 14 [V.c (.sl 0 j.length)] [⟨0, .ro 1, slsC 1 j⟩] (j.length + 32) (Is (V.c (.bool (longB j)))) := by
  have hlen := slsC_len (b := 1) (j := j)
  refine Spec.of tok Try.func14 rfl rfl rfl fun n0 cx => vc_ok tok ?_
  repeat ((conv => whnf); first
      | (refine And.intro (by first | omega | exact Nat.le_of_ble_eq_true rfl | (dsimp only [inK]; omega) | (simp only [mulS_eq]; omega) | (simp only [mulS_eq, setL_length]; omega) | (simp only [setL_length, List.length_map]; omega) | exact ⟨by omega, by omega, by first | exact Nat.le_of_ble_eq_true rfl | (dsimp only; omega) | (simp only [setL_length]; omega) | (simp only [setL_length, List.length_map]; omega)⟩ | exact ⟨by omega, by first | rfl | omega, by omega, Nat.le_of_ble_eq_true rfl, Nat.le_of_ble_eq_true rfl⟩ | exact ⟨rfl, rfl, rfl, Nat.le_of_ble_eq_true rfl, by first | rfl | omega | exact Nat.le_of_ble_eq_true rfl | (dsimp only; omega) | (simp; done) | (simp; omega), by first | rfl | omega | exact Nat.le_of_ble_eq_true rfl | (dsimp only; omega) | (simp; done) | (simp; omega), by omega, Nat.le_of_ble_eq_true rfl⟩ | exact Eq.refl true) ?_)
      | (refine Exists.intro _ (And.intro rfl ?_))
      | (refine And.intro (And.intro rfl (chk_rowI _ _ _ _)) ?_)
      | (refine br_t (by omega) ?_)
      | (refine br_f (by omega) ?_)
      | (refine bs_t (by omega) ?_)
      | (refine bs_f (by omega) ?_)
      | (refine fun (K' : K3) hK' => ?_)
      | (refine hK' _ _ _ ?_; clear hK' K')
      | (refine draw_auto tok mixed (by kernel_rfl) ?_)
      | (refine bs_bt (Eq.refl true) ?_)
      | (refine bs_bf (Eq.refl false) ?_)
      | (refine br_bt (Eq.refl true) ?_)
      | (refine br_bf (Eq.refl false) ?_)
      | (refine CallK.m ?_)
      | (refine And.intro (And.intro rfl rfl) ?_))
  refine Tri.loop (γ := Nat) (fun k => k ≤ j.length ∧ ∀ i, i < k → ¬ 100 < (j.getD i []).length) (fun k => [(0, V.c (.sl 0 j.length)), (3, V.i (k : Nat))])
    (fun k => [⟨0, .ro 1, slsC 1 j⟩]) (j.length + 32) (fun k => j.length - k) 0 (R0 := []) ?_ ?_ ?_
  · exact ⟨by omega, by omega⟩
  · skip
    refine ⟨?_, ?_, rfl, rfl, by first | exact Nat.le_of_ble_eq_true rfl | exact Nat.le_refl _ | omega⟩
    · repeat (first | exact trivial | refine And.intro (covS_syn (by first | rfl) rfl (by first | exact trivial | exact Nat.le_of_ble_eq_true rfl | exact hy | exact (fun p hp => nomatch hp) | (show (_ : Nat) < _; omega))) ?_ | refine And.intro (covS_bool rfl rfl (by first | rfl)) ?_)
    · repeat (first | exact trivial | refine And.intro (covE_id (Nat.le_of_ble_eq_true rfl) (by first | exact wf_ints _ _ | exact wf_bools _ _ | first | exact wf_sls _ _ _ (by omega) | exact wf_jobs _ _ | simp [C.wf]) rfl (by first | rfl)) ?_)
  · rintro k ⟨hk, hb⟩
    refine vc_ok tok ?_
    by_cases hlt : k < j.length
    · by_cases hbig : 100 < (j.getD k []).length
      · repeat ((conv => whnf); first
            | (refine And.intro (by first | omega | exact Nat.le_of_ble_eq_true rfl | (dsimp only [inK]; omega) | (simp only [mulS_eq]; omega) | (simp only [mulS_eq, setL_length]; omega) | (simp only [setL_length, List.length_map]; omega) | exact ⟨by omega, by omega, by first | exact Nat.le_of_ble_eq_true rfl | (dsimp only; omega) | (simp only [setL_length]; omega) | (simp only [setL_length, List.length_map]; omega)⟩ | exact ⟨by omega, by first | rfl | omega, by omega, Nat.le_of_ble_eq_true rfl, Nat.le_of_ble_eq_true rfl⟩ | exact ⟨rfl, rfl, rfl, Nat.le_of_ble_eq_true rfl, by first | rfl | omega | exact Nat.le_of_ble_eq_true rfl | (dsimp only; omega) | (simp; done) | (simp; omega), by first | rfl | omega | exact Nat.le_of_ble_eq_true rfl | (dsimp only; omega) | (simp; done) | (simp; omega), by omega, Nat.le_of_ble_eq_true rfl⟩ | exact Eq.refl true) ?_)
            | (with_reducible refine ld (slL hlt) ?_)
            | (refine Exists.intro _ (And.intro rfl ?_))
            | (refine And.intro (And.intro rfl (chk_rowI _ _ _ _)) ?_)
            | (refine br_t (by omega) ?_)
            | (refine br_f (by omega) ?_)
            | (refine bs_t (by omega) ?_)
            | (refine bs_f (by omega) ?_)
            | (refine fun (K' : K3) hK' => ?_)
            | (refine hK' _ _ _ ?_; clear hK' K')
            | (refine draw_auto tok mixed (by kernel_rfl) ?_)
            | (refine br_t (by omega) ?_)
            | (refine bs_bt (Eq.refl true) ?_)
            | (refine bs_bf (Eq.refl false) ?_)
            | (refine br_bt (Eq.refl true) ?_)
            | (refine br_bf (Eq.refl false) ?_)
            | (refine CallK.m ?_)
            | (refine And.intro (And.intro rfl rfl) ?_))
        intro ρ; show Value.bool _ = Value.bool _
        congr 1
        symm
        have : (j.any fun b => decide (100 < b.length)) = true := by
          refine List.any_eq_true.2 ⟨j[k], List.getElem_mem hlt, ?_⟩
          rw [List.getD_eq_getElem?_getD, List.getElem?_eq_getElem hlt] at hbig
          simpa using hbig
        simp [longB, this]
      · repeat ((conv => whnf); first
            | (refine And.intro (by first | omega | exact Nat.le_of_ble_eq_true rfl | (dsimp only [inK]; omega) | (simp only [mulS_eq]; omega) | (simp only [mulS_eq, setL_length]; omega) | (simp only [setL_length, List.length_map]; omega) | exact ⟨by omega, by omega, by first | exact Nat.le_of_ble_eq_true rfl | (dsimp only; omega) | (simp only [setL_length]; omega) | (simp only [setL_length, List.length_map]; omega)⟩ | exact ⟨by omega, by first | rfl | omega, by omega, Nat.le_of_ble_eq_true rfl, Nat.le_of_ble_eq_true rfl⟩ | exact ⟨rfl, rfl, rfl, Nat.le_of_ble_eq_true rfl, by first | rfl | omega | exact Nat.le_of_ble_eq_true rfl | (dsimp only; omega) | (simp; done) | (simp; omega), by first | rfl | omega | exact Nat.le_of_ble_eq_true rfl | (dsimp only; omega) | (simp; done) | (simp; omega), by omega, Nat.le_of_ble_eq_true rfl⟩ | exact Eq.refl true) ?_)
            | (with_reducible refine ld (slL hlt) ?_)
            | (refine Exists.intro _ (And.intro rfl ?_))
            | (refine And.intro (And.intro rfl (chk_rowI _ _ _ _)) ?_)
            | (refine br_t (by omega) ?_)
            | (refine br_f (by omega) ?_)
            | (refine bs_t (by omega) ?_)
            | (refine bs_f (by omega) ?_)
            | (refine fun (K' : K3) hK' => ?_)
            | (refine hK' _ _ _ ?_; clear hK' K')
            | (refine draw_auto tok mixed (by kernel_rfl) ?_)
            | (refine br_f (by omega) ?_)
            | (refine bs_bt (Eq.refl true) ?_)
            | (refine bs_bf (Eq.refl false) ?_)
            | (refine br_bt (Eq.refl true) ?_)
            | (refine br_bf (Eq.refl false) ?_)
            | (refine CallK.m ?_)
            | (refine And.intro (And.intro rfl rfl) ?_))
        refine ⟨k + 1, [], ⟨by omega, fun i hi => ?_⟩, by omega, ?_⟩
        · by_cases h : i = k
          · rw [h]; exact hbig
          · exact hb i (by omega)
        refine ⟨?_, ?_, rfl, rfl, by first | exact Nat.le_of_ble_eq_true rfl | exact Nat.le_refl _ | omega⟩
        · repeat (first | exact trivial | refine And.intro (covS_syn (by first | rfl | (refine congrArg some (congrArg V.i ?_); omega)) rfl (by first | exact trivial | exact Nat.le_of_ble_eq_true rfl | exact hy | exact (fun p hp => nomatch hp) | (show (_ : Nat) < _; omega))) ?_ | refine And.intro (covS_bool rfl rfl (by first | rfl)) ?_)
        · repeat (first | exact trivial | refine And.intro (covE_id (Nat.le_of_ble_eq_true rfl) (by first | exact wf_ints _ _ | exact wf_bools _ _ | first | exact wf_sls _ _ _ (by omega) | exact wf_jobs _ _ | simp [C.wf]) rfl (by first | rfl)) ?_)
    · repeat ((conv => whnf); first
          | (refine And.intro (by first | omega | exact Nat.le_of_ble_eq_true rfl | (dsimp only [inK]; omega) | (simp only [mulS_eq]; omega) | (simp only [mulS_eq, setL_length]; omega) | (simp only [setL_length, List.length_map]; omega) | exact ⟨by omega, by omega, by first | exact Nat.le_of_ble_eq_true rfl | (dsimp only; omega) | (simp only [setL_length]; omega) | (simp only [setL_length, List.length_map]; omega)⟩ | exact ⟨by omega, by first | rfl | omega, by omega, Nat.le_of_ble_eq_true rfl, Nat.le_of_ble_eq_true rfl⟩ | exact ⟨rfl, rfl, rfl, Nat.le_of_ble_eq_true rfl, by first | rfl | omega | exact Nat.le_of_ble_eq_true rfl | (dsimp only; omega) | (simp; done) | (simp; omega), by first | rfl | omega | exact Nat.le_of_ble_eq_true rfl | (dsimp only; omega) | (simp; done) | (simp; omega), by omega, Nat.le_of_ble_eq_true rfl⟩ | exact Eq.refl true) ?_)
          | (refine Exists.intro _ (And.intro rfl ?_))
          | (refine And.intro (And.intro rfl (chk_rowI _ _ _ _)) ?_)
          | (refine br_t (by omega) ?_)
          | (refine br_f (by omega) ?_)
          | (refine bs_t (by omega) ?_)
          | (refine bs_f (by omega) ?_)
          | (refine fun (K' : K3) hK' => ?_)
          | (refine hK' _ _ _ ?_; clear hK' K')
          | (refine draw_auto tok mixed (by kernel_rfl) ?_)
          | (refine bs_bt (Eq.refl true) ?_)
          | (refine bs_bf (Eq.refl false) ?_)
          | (refine br_bt (Eq.refl true) ?_)
          | (refine br_bf (Eq.refl false) ?_)
          | (refine CallK.m ?_)
          | (refine And.intro (And.intro rfl rfl) ?_))
      intro ρ; show Value.bool _ = Value.bool _
      congr 1
      have : (j.any fun b => decide (100 < b.length)) = false := by
        refine Bool.eq_false_iff.2 fun h => ?_
        obtain ⟨x, hx, h2⟩ := List.any_eq_true.1 h
        obtain ⟨i, hi, rfl⟩ := List.mem_iff_getElem.1 hx
        have := hb i (by omega)
        rw [List.getD_eq_getElem?_getD, List.getElem?_eq_getElem hi] at this
        exact this (by simpa using h2)
      simp only [longB, this, Bool.false_or]
      congr 1
      simp only [gt_iff_lt, eq_iff_iff]
      omega
end Go.Proofs.Ytjijjncddjkdlaa

/- Shore: Lead. -/
namespace Go.Proofs.Ytjijjncddjkdlaa
open Go.RowKit
set_option linter.unusedVariables false
set_option linter.unusedSimpArgs false
/-- What Lead gives: the last job of a lead, and its rate. -/
def leadG (p : Pc) : Int := (Nat.gcd p.1.toNat p.2.1.toNat : Nat)
def leadV (j : Coast) (b f : Int) : V :=
  if validL j then
    if 0 ≤ b ∧ b ≤ (j.length : Int) - 1 ∧ 0 ≤ f ∧ f ≤ ((j.getD b.toNat []).length : Int) - 1 then
      .tup [.c (.i (leadS (j.getD b.toNat []) f.toNat).2.2), .agg [.i ((leadS (j.getD b.toNat []) f.toNat).2.1 / leadG (leadS (j.getD b.toNat []) f.toNat)), .i ((leadS (j.getD b.toNat []) f.toNat).1 / leadG (leadS (j.getD b.toNat []) f.toNat))], .c (.i 0)]
    else .tup [.c (.i 0), .agg [.i 0, .i 0], .c (.i 2)]
  else .tup [.c (.i 0), .agg [.i 0, .i 0], .c (.i 60)]
set_option maxRecDepth 100000 in
theorem Lead_spec (j : Coast) (hj : Sized j) (b f : Int) (hbb : -9223372036854775808 ≤ b ∧ b ≤ 9223372036854775807) (hff : -9223372036854775808 ≤ f ∧ f ≤ 9223372036854775807) :
    Spec Try.prog 16 [V.c (.sl 0 j.length), V.i b, V.i f] (⟨0, .ro 1, slsC 1 j⟩ :: entC 1 j) 32 (Is (leadV j b f)) := by
  have hj20 := hj.len
  have hlen := slsC_len (b := 1) (j := j)
  have hC : HasC (⟨32, .own 26, [C.i 0, C.i 0]⟩ :: ⟨0, .ro 1, slsC 1 j⟩ :: entC 1 j) j := ⟨rfl, fun k hk => by (repeat (first | rw [find_skip (by omega)] | rw [find_hi (by omega) (by rfl)])); exact entC_find hk⟩
  cases hv : validL j with
  | false =>
    simp only [leadV, hv, Bool.false_eq_true, if_false]
    refine Spec.of tok Try.func16 rfl rfl rfl fun n0 cx => vc_ok tok ?_
    repeat ((conv => whnf); first
        | (refine And.intro (by first | omega | exact Nat.le_of_ble_eq_true rfl | (dsimp only [inK]; omega) | (simp only [mulS_eq]; omega) | (simp only [mulS_eq, setL_length]; omega) | (simp only [setL_length, List.length_map]; omega) | exact ⟨by omega, by omega, by first | exact Nat.le_of_ble_eq_true rfl | (dsimp only; omega) | (simp only [setL_length]; omega) | (simp only [setL_length, List.length_map]; omega)⟩ | exact ⟨by omega, by first | rfl | omega, by omega, Nat.le_of_ble_eq_true rfl, Nat.le_of_ble_eq_true rfl⟩ | exact ⟨rfl, rfl, rfl, Nat.le_of_ble_eq_true rfl, by first | rfl | omega | exact Nat.le_of_ble_eq_true rfl | (dsimp only; omega) | (simp; done) | (simp; omega), by first | rfl | omega | exact Nat.le_of_ble_eq_true rfl | (dsimp only; omega) | (simp; done) | (simp; omega), by omega, Nat.le_of_ble_eq_true rfl⟩ | exact Eq.refl true) ?_)
        | (refine Exists.intro _ (And.intro rfl ?_))
        | (refine And.intro (And.intro rfl (chk_rowI _ _ _ _)) ?_)
        | (refine br_t (by omega) ?_)
        | (refine br_f (by omega) ?_)
        | (refine bs_t (by omega) ?_)
        | (refine bs_f (by omega) ?_)
        | (refine fun (K' : K3) hK' => ?_)
        | (refine hK' _ _ _ ?_; clear hK' K')
        | (refine CallM.eq (by kernel_rfl) (open_spec j hj _ _ hC) ?_)
        | (refine draw_auto tok mixed (by kernel_rfl) ?_)
        | (rw [hv])
        | (with_reducible refine updK_ent (by omega) ?_)
        | (refine bs_bt (Eq.refl true) ?_)
        | (refine bs_bf (Eq.refl false) ?_)
        | (refine br_bt (Eq.refl true) ?_)
        | (refine br_bf (Eq.refl false) ?_)
        | (refine CallK.m ?_)
        | (refine And.intro (And.intro rfl rfl) ?_))
    intro ρ; rfl
  | true =>
    have hc := validL_coast hj hv
    simp only [leadV, hv, if_true]
    by_cases hb : 0 ≤ b ∧ b ≤ (j.length : Int) - 1
    case neg =>
      rw [if_neg (by omega)]
      refine Spec.of tok Try.func16 rfl rfl rfl fun n0 cx => vc_ok tok ?_
      repeat ((conv => whnf); first
          | (refine And.intro (by first | omega | exact Nat.le_of_ble_eq_true rfl | (dsimp only [inK]; omega) | (simp only [mulS_eq]; omega) | (simp only [mulS_eq, setL_length]; omega) | (simp only [setL_length, List.length_map]; omega) | exact ⟨by omega, by omega, by first | exact Nat.le_of_ble_eq_true rfl | (dsimp only; omega) | (simp only [setL_length]; omega) | (simp only [setL_length, List.length_map]; omega)⟩ | exact ⟨by omega, by first | rfl | omega, by omega, Nat.le_of_ble_eq_true rfl, Nat.le_of_ble_eq_true rfl⟩ | exact ⟨rfl, rfl, rfl, Nat.le_of_ble_eq_true rfl, by first | rfl | omega | exact Nat.le_of_ble_eq_true rfl | (dsimp only; omega) | (simp; done) | (simp; omega), by first | rfl | omega | exact Nat.le_of_ble_eq_true rfl | (dsimp only; omega) | (simp; done) | (simp; omega), by omega, Nat.le_of_ble_eq_true rfl⟩ | exact Eq.refl true) ?_)
          | (refine Exists.intro _ (And.intro rfl ?_))
          | (refine And.intro (And.intro rfl (chk_rowI _ _ _ _)) ?_)
          | (refine br_t (by omega) ?_)
          | (refine br_f (by omega) ?_)
          | (refine bs_t (by omega) ?_)
          | (refine bs_f (by omega) ?_)
          | (refine fun (K' : K3) hK' => ?_)
          | (refine hK' _ _ _ ?_; clear hK' K')
          | (refine CallM.eq (by kernel_rfl) (open_spec j hj _ _ hC) ?_)
          | (refine draw_auto tok mixed (by kernel_rfl) ?_)
          | (rw [hv])
          | (with_reducible refine updK_ent (by omega) ?_)
          | (refine CallK.val (R := []) (between_spec _ _ _) (by kernel_rfl) rfl (by simp [V.wf, A.wf, C.wf, V.i]) trivial rfl rfl trivial ?_)
          | (refine bs_bt (by rw [decide_eq_false hb]; rfl) ?_)
          | (refine br_bt (by rw [decide_eq_false hb]; rfl) ?_)
          | (refine bs_bt (Eq.refl true) ?_)
          | (refine bs_bf (Eq.refl false) ?_)
          | (refine br_bt (Eq.refl true) ?_)
          | (refine br_bf (Eq.refl false) ?_)
          | (refine CallK.m ?_)
          | (refine And.intro (And.intro rfl rfl) ?_))
      intro ρ; rfl
    obtain ⟨bN, rfl⟩ : ∃ n : Nat, b = n := ⟨b.toNat, by omega⟩
    have hbl : bN < j.length := by omega
    have hjb := hc.jobs bN hbl
    rw [Int.toNat_natCast]
    by_cases hf : 0 ≤ f ∧ f ≤ ((j.getD bN []).length : Int) - 1
    case neg =>
      rw [if_neg (by omega)]
      refine Spec.of tok Try.func16 rfl rfl rfl fun n0 cx => vc_ok tok ?_
      repeat ((conv => whnf); first
          | (refine And.intro (by first | omega | exact Nat.le_of_ble_eq_true rfl | (dsimp only [inK]; omega) | (simp only [mulS_eq]; omega) | (simp only [mulS_eq, setL_length]; omega) | (simp only [setL_length, List.length_map]; omega) | exact ⟨by omega, by omega, by first | exact Nat.le_of_ble_eq_true rfl | (dsimp only; omega) | (simp only [setL_length]; omega) | (simp only [setL_length, List.length_map]; omega)⟩ | exact ⟨by omega, by first | rfl | omega, by omega, Nat.le_of_ble_eq_true rfl, Nat.le_of_ble_eq_true rfl⟩ | exact ⟨rfl, rfl, rfl, Nat.le_of_ble_eq_true rfl, by first | rfl | omega | exact Nat.le_of_ble_eq_true rfl | (dsimp only; omega) | (simp; done) | (simp; omega), by first | rfl | omega | exact Nat.le_of_ble_eq_true rfl | (dsimp only; omega) | (simp; done) | (simp; omega), by omega, Nat.le_of_ble_eq_true rfl⟩ | exact Eq.refl true) ?_)
          | (with_reducible refine ld (slL hbl) ?_)
          | (refine Exists.intro _ (And.intro rfl ?_))
          | (refine And.intro (And.intro rfl (chk_rowI _ _ _ _)) ?_)
          | (refine br_t (by omega) ?_)
          | (refine br_f (by omega) ?_)
          | (refine bs_t (by omega) ?_)
          | (refine bs_f (by omega) ?_)
          | (refine fun (K' : K3) hK' => ?_)
          | (refine hK' _ _ _ ?_; clear hK' K')
          | (refine CallM.eq (by kernel_rfl) (open_spec j hj _ _ hC) ?_)
          | (refine draw_auto tok mixed (by kernel_rfl) ?_)
          | (rw [hv])
          | (with_reducible refine updK_ent (by omega) ?_)
          | (refine CallK.val (R := []) (between_spec _ _ _) (by kernel_rfl) rfl (by simp [V.wf, A.wf, C.wf, V.i]) trivial rfl rfl trivial ?_)
          | (refine bs_bf (by rw [decide_eq_true hb]; rfl) ?_)
          | (refine br_bt (by rw [decide_eq_false hf]; rfl) ?_)
          | (refine bs_bt (Eq.refl true) ?_)
          | (refine bs_bf (Eq.refl false) ?_)
          | (refine br_bt (Eq.refl true) ?_)
          | (refine br_bf (Eq.refl false) ?_)
          | (refine CallK.m ?_)
          | (refine And.intro (And.intro rfl rfl) ?_))
      intro ρ; rfl
    obtain ⟨fN, rfl⟩ : ∃ n : Nat, f = n := ⟨f.toNat, by omega⟩
    have hfl : fN < (j.getD bN []).length := by omega
    rw [if_pos ⟨hb.1, hb.2, hf⟩, Int.toNat_natCast]
    have hp := leadS_pos hjb.1 hfl
    have hbd := leadS_bd hjb.1 (Nat.le_of_lt hfl) hjb.2
    have hls := leadS_spec (j.getD bN []) fN hjb.2 (Nat.le_of_lt hfl) hjb.1
    generalize leadS (j.getD bN []) fN = p at *
    obtain ⟨hh, ww, la⟩ := p
    simp only at hp hbd hls
    obtain ⟨hN, rfl⟩ : ∃ n : Nat, hh = n := ⟨hh.toNat, by omega⟩
    obtain ⟨wN, rfl⟩ : ∃ n : Nat, ww = n := ⟨ww.toNat, by omega⟩
    have hg : leadG ((hN : Int), (wN : Int), la) = (Nat.gcd hN wN : Nat) := by simp [leadG]
    rw [hg]
    have hgp : 0 < Nat.gcd hN wN := Nat.gcd_pos_of_pos_left _ (by omega)
    refine Spec.of tok Try.func16 rfl rfl rfl fun n0 cx => vc_ok tok ?_
    repeat ((conv => whnf); first
        | (refine And.intro (by first | omega | exact Nat.le_of_ble_eq_true rfl | (dsimp only [inK]; omega) | (simp only [mulS_eq]; omega) | (simp only [mulS_eq, setL_length]; omega) | (simp only [setL_length, List.length_map]; omega) | exact ⟨by omega, by omega, by first | exact Nat.le_of_ble_eq_true rfl | (dsimp only; omega) | (simp only [setL_length]; omega) | (simp only [setL_length, List.length_map]; omega)⟩ | exact ⟨by omega, by first | rfl | omega, by omega, Nat.le_of_ble_eq_true rfl, Nat.le_of_ble_eq_true rfl⟩ | exact ⟨rfl, rfl, rfl, Nat.le_of_ble_eq_true rfl, by first | rfl | omega | exact Nat.le_of_ble_eq_true rfl | (dsimp only; omega) | (simp; done) | (simp; omega), by first | rfl | omega | exact Nat.le_of_ble_eq_true rfl | (dsimp only; omega) | (simp; done) | (simp; omega), by omega, Nat.le_of_ble_eq_true rfl⟩ | exact Eq.refl true) ?_)
        | (with_reducible refine ld (slL hbl) ?_)
        | (refine Exists.intro _ (And.intro rfl ?_))
        | (refine And.intro (And.intro rfl (chk_rowI _ _ _ _)) ?_)
        | (refine br_t (by omega) ?_)
        | (refine br_f (by omega) ?_)
        | (refine bs_t (by omega) ?_)
        | (refine bs_f (by omega) ?_)
        | (refine fun (K' : K3) hK' => ?_)
        | (refine hK' _ _ _ ?_; clear hK' K')
        | (refine CallM.eq (by kernel_rfl) (open_spec j hj _ _ hC) ?_)
        | (refine draw_auto tok mixed (by kernel_rfl) ?_)
        | (rw [hv])
        | (with_reducible refine updK_ent (by omega) ?_)
        | (refine CallK.val (R := []) (between_spec _ _ _) (by kernel_rfl) rfl (by simp [V.wf, A.wf, C.wf, V.i]) trivial rfl rfl trivial ?_)
        | (refine bs_bf (by rw [decide_eq_true hb]; rfl) ?_)
        | (refine br_bf (by rw [decide_eq_true hf]; rfl) ?_)
        | (refine CallK.val (R := [(0, some (1 + bN))]) hls (by kernel_rfl) rfl (by simp [V.wf, A.wf, C.wf, V.i]) (roE_beach (by omega) (by ((try (conv => lhs; arg 1; whnf)); (repeat (first | rw [find_skip (by omega)] | rw [find_hi (by omega) (by rfl)])); exact entC_find hbl)) (.inr rfl)) rfl rfl (by simp [V.wf, A.wf, C.wf]) ?_)
        | (refine bs_bt (Eq.refl true) ?_)
        | (refine bs_bf (Eq.refl false) ?_)
        | (refine br_bt (Eq.refl true) ?_)
        | (refine br_bf (Eq.refl false) ?_)
        | (refine CallK.m ?_)
        | (refine And.intro (And.intro rfl rfl) ?_))
    refine Tri.loop (γ := Nat × Nat) (fun g => Nat.gcd g.1 g.2 = Nat.gcd hN wN ∧ g.1 ≤ 20000 ∧ g.2 ≤ 20000) (fun g => [(7, V.c (.ptr 32 0)), (11, V.c (.ptr 33 0)), (12, V.i (g.1 : Nat)), (13, V.i (g.2 : Nat))])
      (fun g => ⟨33, .own 62, [C.i (hN : Nat), C.i (wN : Nat), C.i la]⟩ :: ⟨32, .own 26, [C.i 0, C.i 0]⟩ :: ⟨0, .ro 1, slsC 1 j⟩ :: entC 1 j) 34 (fun g => g.2) (hN, wN) (R0 := []) ?_ ?_ ?_
    · exact ⟨rfl, by simp only; omega, by simp only; omega⟩
    · skip
      refine ⟨?_, ?_, injB_ent (p := [_, _, _]) (by omega) rfl rfl, rfl, by first | exact Nat.le_of_ble_eq_true rfl | exact Nat.le_refl _ | omega⟩
      · repeat (first | exact trivial | refine And.intro (covS_syn (by first | rfl) rfl (by first | exact trivial | exact Nat.le_of_ble_eq_true rfl | exact hy | exact (fun p hp => nomatch hp) | (show (_ : Nat) < _; omega))) ?_ | refine And.intro (covS_bool rfl rfl (by first | rfl)) ?_)
      · repeat (first | exact trivial | (exact covL_ent (by omega) (fun k hk => by (try simp only [flatN]); (repeat (first | rw [find_skip (by omega)] | rw [find_hi (by omega) (by rfl)])))) | refine And.intro (covE_id (Nat.le_of_ble_eq_true rfl) (by first | exact wf_ints _ _ | exact wf_bools _ _ | first | exact wf_sls _ _ _ (by omega) | exact wf_jobs _ _ | simp [C.wf]) rfl (by first | rfl)) ?_)
    · rintro ⟨x, y⟩ ⟨h1, h2, h3⟩
      refine vc_ok tok ?_
      simp only at h1 h2 h3
      by_cases hy : (y : Int) > 0
      · repeat ((conv => whnf); first
            | (refine And.intro (by first | omega | exact Nat.le_of_ble_eq_true rfl | (dsimp only [inK]; omega) | (simp only [mulS_eq]; omega) | (simp only [mulS_eq, setL_length]; omega) | (simp only [setL_length, List.length_map]; omega) | exact ⟨by omega, by omega, by first | exact Nat.le_of_ble_eq_true rfl | (dsimp only; omega) | (simp only [setL_length]; omega) | (simp only [setL_length, List.length_map]; omega)⟩ | exact ⟨by omega, by first | rfl | omega, by omega, Nat.le_of_ble_eq_true rfl, Nat.le_of_ble_eq_true rfl⟩ | exact ⟨rfl, rfl, rfl, Nat.le_of_ble_eq_true rfl, by first | rfl | omega | exact Nat.le_of_ble_eq_true rfl | (dsimp only; omega) | (simp; done) | (simp; omega), by first | rfl | omega | exact Nat.le_of_ble_eq_true rfl | (dsimp only; omega) | (simp; done) | (simp; omega), by omega, Nat.le_of_ble_eq_true rfl⟩ | exact Eq.refl true) ?_)
            | (refine Exists.intro _ (And.intro rfl ?_))
            | (refine And.intro (And.intro rfl (chk_rowI _ _ _ _)) ?_)
            | (refine br_t (by omega) ?_)
            | (refine br_f (by omega) ?_)
            | (refine bs_t (by omega) ?_)
            | (refine bs_f (by omega) ?_)
            | (refine fun (K' : K3) hK' => ?_)
            | (refine hK' _ _ _ ?_; clear hK' K')
            | (refine draw_auto tok mixed (by kernel_rfl) ?_)
            | (refine bs_bt (Eq.refl true) ?_)
            | (refine bs_bf (Eq.refl false) ?_)
            | (refine br_bt (Eq.refl true) ?_)
            | (refine br_bf (Eq.refl false) ?_)
            | (refine CallK.m ?_)
            | (refine And.intro (And.intro rfl rfl) ?_))
        refine ⟨(y, x % y), [], ⟨?_, by omega, ?_⟩, ?_, ?_⟩
        · simp only; rw [← h1, Nat.gcd_comm x y, Nat.gcd_rec y x, Nat.gcd_comm]
        · have := Nat.mod_lt x (show y > 0 by omega); simp only; omega
        · exact Nat.mod_lt x (show y > 0 by omega)
        refine ⟨?_, ?_, injB_ent (p := [_, _, _]) (by omega) rfl rfl, rfl, by first | exact Nat.le_of_ble_eq_true rfl | exact Nat.le_refl _ | omega⟩
        · repeat (first | exact trivial | refine And.intro (covS_syn (by first | rfl | (refine congrArg some (congrArg V.i ?_); exact (Int.natCast_emod x y).symm) | (refine congrArg some (congrArg V.i ?_); omega)) rfl (by first | exact trivial | exact Nat.le_of_ble_eq_true rfl | exact hy | exact (fun p hp => nomatch hp) | (show (_ : Nat) < _; omega))) ?_ | refine And.intro (covS_bool rfl rfl (by first | rfl)) ?_)
        · repeat (first | exact trivial | (exact covL_ent (by omega) (fun k hk => by (try simp only [flatN]); (repeat (first | rw [find_skip (by omega)] | rw [find_hi (by omega) (by rfl)])))) | refine And.intro (covE_id (Nat.le_of_ble_eq_true rfl) (by first | exact wf_ints _ _ | exact wf_bools _ _ | first | exact wf_sls _ _ _ (by omega) | exact wf_jobs _ _ | simp [C.wf]) rfl (by first | rfl)) ?_)
      · have hy0 : y = 0 := by omega
        subst hy0
        rw [Nat.gcd_zero_right] at h1
        subst h1
        have q1 : 0 ≤ (wN : Int) / (Nat.gcd hN wN : Nat) ∧ (wN : Int) / (Nat.gcd hN wN : Nat) ≤ wN := ⟨Int.ediv_nonneg (by omega) (by omega), Int.ediv_le_self _ (by omega)⟩
        have q2 : 0 ≤ (hN : Int) / (Nat.gcd hN wN : Nat) ∧ (hN : Int) / (Nat.gcd hN wN : Nat) ≤ hN := ⟨Int.ediv_nonneg (by omega) (by omega), Int.ediv_le_self _ (by omega)⟩
        repeat ((conv => whnf); first
            | (refine And.intro (by first | omega | exact Nat.le_of_ble_eq_true rfl | (dsimp only [inK]; omega) | (simp only [mulS_eq]; omega) | (simp only [mulS_eq, setL_length]; omega) | (simp only [setL_length, List.length_map]; omega) | exact ⟨by omega, by omega, by first | exact Nat.le_of_ble_eq_true rfl | (dsimp only; omega) | (simp only [setL_length]; omega) | (simp only [setL_length, List.length_map]; omega)⟩ | exact ⟨by omega, by first | rfl | omega, by omega, Nat.le_of_ble_eq_true rfl, Nat.le_of_ble_eq_true rfl⟩ | exact ⟨rfl, rfl, rfl, Nat.le_of_ble_eq_true rfl, by first | rfl | omega | exact Nat.le_of_ble_eq_true rfl | (dsimp only; omega) | (simp; done) | (simp; omega), by first | rfl | omega | exact Nat.le_of_ble_eq_true rfl | (dsimp only; omega) | (simp; done) | (simp; omega), by omega, Nat.le_of_ble_eq_true rfl⟩ | exact Eq.refl true) ?_)
            | (refine Exists.intro _ (And.intro rfl ?_))
            | (refine And.intro (And.intro rfl (chk_rowI _ _ _ _)) ?_)
            | (refine br_t (by omega) ?_)
            | (refine br_f (by omega) ?_)
            | (refine bs_t (by omega) ?_)
            | (refine bs_f (by omega) ?_)
            | (refine fun (K' : K3) hK' => ?_)
            | (refine hK' _ _ _ ?_; clear hK' K')
            | (refine draw_auto tok mixed (by kernel_rfl) ?_)
            | (with_reducible refine updK_ent (by omega) ?_)
            | (refine bs_bt (Eq.refl true) ?_)
            | (refine bs_bf (Eq.refl false) ?_)
            | (refine br_bt (Eq.refl true) ?_)
            | (refine br_bf (Eq.refl false) ?_)
            | (refine CallK.m ?_)
            | (refine And.intro (And.intro rfl rfl) ?_))
        intro ρ; rfl
end Go.Proofs.Ytjijjncddjkdlaa

/- Shore: the reference's ratio and Lead. -/
namespace Go.Proofs.Ytjijjncddjkdlaa
open Go.RowKit
set_option linter.unusedVariables false
set_option linter.unusedSimpArgs false
theorem beach_many {j : Coast} {b : Nat} (hb : b < j.length) : (j.getD b []).length ≤ manyN j j.length := by
  have key : ∀ k, k ≤ j.length → b < k → (j.getD b []).length ≤ manyN j k := by
    intro k
    induction k with
    | zero => intro _ h; omega
    | succ k ih =>
      intro hk hbk
      rw [manyN_succ (by omega)]
      by_cases h : b = k
      · subst h; omega
      · have := ih (by omega) (by omega); omega
  exact key j.length (Nat.le_refl _) hb
theorem runRS {l : List Job} {f : Nat} (hj : JobsOk l) : ∀ n, f + n ≤ l.length → (runR l f n).1.1 = (runS l f n).1.2.1 ∧ (runR l f n).1.2.1 = (runS l f n).1.1 ∧ (runR l f n).2.1 = (runS l f n).2.2.1 ∧ (runR l f n).2.2.1 = (runS l f n).2.1 ∧ (runR l f n).2.2.2 = (runS l f n).2.2.2
  | 0, _ => by simp [runR, runS]
  | n + 1, h => by
    obtain ⟨h1, h2, h3, h4, h5⟩ := runRS (f := f) hj n (by omega)
    have hb := hj (f + n) (by omega)
    have hbd := runS_bd (f := f) hj n (by omega)
    have hpos : 0 < (runS l f n).1.1 + (l.getD (f + n) (0, 0)).1 := by omega
    simp only [runR, runS]
    rw [h1, h2, h3, h4]
    refine ⟨rfl, rfl, ?_⟩
    by_cases hn : n = 0
    · subst hn
      have hab : aboveB (runS l f 0).2 ((runS l f 0).1.1 + (l.getD (f + 0) (0, 0)).1, (runS l f 0).1.2.1 + (l.getD (f + 0) (0, 0)).2, ((f + 0 : Nat) : Int)) = false := by
        simp only [aboveB, Bool.or_eq_false_iff, decide_eq_false_iff_not]
        refine ⟨by omega, ?_⟩
        simp only [runS]; omega
      rw [if_pos (.inl (by omega)), hab]
      exact ⟨rfl, rfl, rfl⟩
    · cases hab : aboveB (runS l f n).2 ((runS l f n).1.1 + (l.getD (f + n) (0, 0)).1, (runS l f n).1.2.1 + (l.getD (f + n) (0, 0)).2, ((f + n : Nat) : Int)) with
      | true =>
        simp only [aboveB, Bool.or_eq_true, decide_eq_true_eq] at hab
        rw [if_neg (by rintro (e | e) <;> omega), if_pos rfl]
        exact ⟨h3, h4, h5⟩
      | false =>
        simp only [aboveB, Bool.or_eq_false_iff, decide_eq_false_iff_not] at hab
        rw [if_pos (.inr (by omega))]
        exact ⟨rfl, rfl, rfl⟩
theorem rleadS_spec (l : List Job) (f : Nat) (hl : l.length ≤ 12) (hf : f ≤ l.length) (hj : JobsOk l) :
    Spec Try.prog 54 [V.c (.sl 0 l.length), V.i f] [⟨0, .ro 2, jobC l⟩] 1 (Is (V.agg [C.i (leadS l f).2.1, C.i (leadS l f).1, C.i (leadS l f).2.2])) := by
  have h := rlead_spec l f hl hf hj
  obtain ⟨_, _, h3, h4, h5⟩ := runRS (f := f) hj (l.length - f) (by omega)
  rw [h3, h4, h5] at h
  exact h
theorem ratio_spec (n d : Nat) (hn : n ≤ 20000) (hd1 : 1 ≤ d) (hd : d ≤ 20000) : Spec Try.prog 55 [V.i n, V.i d] [] 0 (Is (V.agg [C.i ((n : Int) / (Nat.gcd n d : Nat)), C.i ((d : Int) / (Nat.gcd n d : Nat))])) := by
  refine Spec.of tok Try.func55 rfl rfl rfl fun n0 cx => vc_ok tok ?_
  repeat ((conv => whnf); first
      | (refine And.intro (by first | omega | exact Nat.le_of_ble_eq_true rfl | (dsimp only [inK]; omega) | (simp only [mulS_eq]; omega) | (simp only [mulS_eq, setL_length]; omega) | (simp only [setL_length, List.length_map]; omega) | exact ⟨by omega, by omega, by first | exact Nat.le_of_ble_eq_true rfl | (dsimp only; omega) | (simp only [setL_length]; omega) | (simp only [setL_length, List.length_map]; omega)⟩ | exact ⟨by omega, by first | rfl | omega, by omega, Nat.le_of_ble_eq_true rfl, Nat.le_of_ble_eq_true rfl⟩ | exact ⟨rfl, rfl, rfl, Nat.le_of_ble_eq_true rfl, by first | rfl | omega | exact Nat.le_of_ble_eq_true rfl | (dsimp only; omega) | (simp; done) | (simp; omega), by first | rfl | omega | exact Nat.le_of_ble_eq_true rfl | (dsimp only; omega) | (simp; done) | (simp; omega), by omega, Nat.le_of_ble_eq_true rfl⟩ | exact Eq.refl true) ?_)
      | (refine Exists.intro _ (And.intro rfl ?_))
      | (refine And.intro (And.intro rfl (chk_rowI _ _ _ _)) ?_)
      | (refine br_t (by omega) ?_)
      | (refine br_f (by omega) ?_)
      | (refine bs_t (by omega) ?_)
      | (refine bs_f (by omega) ?_)
      | (refine fun (K' : K3) hK' => ?_)
      | (refine hK' _ _ _ ?_; clear hK' K')
      | (refine draw_auto tok mixed (by kernel_rfl) ?_)
      | (refine bs_bt (Eq.refl true) ?_)
      | (refine bs_bf (Eq.refl false) ?_)
      | (refine br_bt (Eq.refl true) ?_)
      | (refine br_bf (Eq.refl false) ?_)
      | (refine CallK.m ?_)
      | (refine And.intro (And.intro rfl rfl) ?_))
  refine Tri.loop (γ := Nat × Nat × Nat × Nat) (fun g => g.1 * g.2.2.2 = n ∧ g.2.1 * g.2.2.2 = d ∧ 1 ≤ g.2.1 ∧ 1 ≤ g.2.2.2 ∧ 2 ≤ g.2.2.1 ∧ g.2.2.1 ≤ d + 1 + 1 ∧ ∀ q, 2 ≤ q → q < g.2.2.1 → ¬ (q ∣ g.1 ∧ q ∣ g.2.1))
    (fun g => [(0, V.i (g.1 : Nat)), (1, V.i (g.2.1 : Nat)), (4, V.c (.ptr 0 0)), (5, V.i (g.2.2.1 : Nat))]) (fun g => [⟨0, .own 26, [C.i 0, C.i 0]⟩]) 1 (fun g => d + 2 - g.2.2.1) (n, d, 2, 1) (R0 := []) ?_ ?_ ?_
  · exact ⟨by simp, by simp, hd1, by simp, by simp, by simp only; omega, fun q h1 h2 => by simp only at h2; omega⟩
  · skip
    refine ⟨?_, ?_, rfl, rfl, by first | exact Nat.le_of_ble_eq_true rfl | exact Nat.le_refl _ | omega⟩
    · repeat (first | exact trivial | refine And.intro (covS_syn (by first | rfl) rfl (by first | exact trivial | exact Nat.le_of_ble_eq_true rfl | exact hy | exact (fun p hp => nomatch hp) | (show (_ : Nat) < _; omega))) ?_ | refine And.intro (covS_bool rfl rfl (by first | rfl)) ?_)
    · repeat (first | exact trivial | refine And.intro (covE_id (Nat.le_of_ble_eq_true rfl) (by first | exact wf_ints _ _ | exact wf_bools _ _ | first | exact wf_sls _ _ _ (by omega) | exact wf_jobs _ _ | simp [C.wf]) rfl (by first | rfl)) ?_)
  · rintro ⟨x, y, k, e⟩ ⟨h1, h2, h3, h4, h5, h6, h7⟩
    refine vc_ok tok ?_
    simp only at h1 h2 h3 h4 h5 h6 h7
    have hx : x ≤ n := by rw [← h1]; exact Nat.le_mul_of_pos_right _ h4
    have hy : y ≤ d := by rw [← h2]; exact Nat.le_mul_of_pos_right _ h4
    by_cases hk : (k : Int) ≤ y
    · repeat ((conv => whnf); first
          | (refine And.intro (by first | omega | exact Nat.le_of_ble_eq_true rfl | (dsimp only [inK]; omega) | (simp only [mulS_eq]; omega) | (simp only [mulS_eq, setL_length]; omega) | (simp only [setL_length, List.length_map]; omega) | exact ⟨by omega, by omega, by first | exact Nat.le_of_ble_eq_true rfl | (dsimp only; omega) | (simp only [setL_length]; omega) | (simp only [setL_length, List.length_map]; omega)⟩ | exact ⟨by omega, by first | rfl | omega, by omega, Nat.le_of_ble_eq_true rfl, Nat.le_of_ble_eq_true rfl⟩ | exact ⟨rfl, rfl, rfl, Nat.le_of_ble_eq_true rfl, by first | rfl | omega | exact Nat.le_of_ble_eq_true rfl | (dsimp only; omega) | (simp; done) | (simp; omega), by first | rfl | omega | exact Nat.le_of_ble_eq_true rfl | (dsimp only; omega) | (simp; done) | (simp; omega), by omega, Nat.le_of_ble_eq_true rfl⟩ | exact Eq.refl true) ?_)
          | (refine Exists.intro _ (And.intro rfl ?_))
          | (refine And.intro (And.intro rfl (chk_rowI _ _ _ _)) ?_)
          | (refine br_t (by omega) ?_)
          | (refine br_f (by omega) ?_)
          | (refine bs_t (by omega) ?_)
          | (refine bs_f (by omega) ?_)
          | (refine fun (K' : K3) hK' => ?_)
          | (refine hK' _ _ _ ?_; clear hK' K')
          | (refine draw_auto tok mixed (by kernel_rfl) ?_)
          | (refine bs_bt (Eq.refl true) ?_)
          | (refine bs_bf (Eq.refl false) ?_)
          | (refine br_bt (Eq.refl true) ?_)
          | (refine br_bf (Eq.refl false) ?_)
          | (refine CallK.m ?_)
          | (refine And.intro (And.intro rfl rfl) ?_))
      refine Tri.loop (γ := Nat × Nat × Nat) (fun g => g.1 * g.2.2 = n ∧ g.2.1 * g.2.2 = d ∧ 1 ≤ g.2.1 ∧ 1 ≤ g.2.2 ∧ g.2.1 ≤ y ∧ ∀ q, 2 ≤ q → q < k → ¬ (q ∣ g.1 ∧ q ∣ g.2.1))
        (fun g => [(0, V.i (g.1 : Nat)), (1, V.i (g.2.1 : Nat)), (4, V.c (.ptr 0 0)), (5, V.i (k : Nat))]) (fun g => [⟨0, .own 26, [C.i 0, C.i 0]⟩]) 1 (fun g => g.2.1) (x, y, e) (R0 := []) ?_ ?_ ?_
      · exact ⟨h1, h2, h3, h4, Nat.le_refl _, h7⟩
      · skip
        refine ⟨?_, ?_, rfl, rfl, by first | exact Nat.le_of_ble_eq_true rfl | exact Nat.le_refl _ | omega⟩
        · repeat (first | exact trivial | refine And.intro (covS_syn (by first | rfl) rfl (by first | exact trivial | exact Nat.le_of_ble_eq_true rfl | exact hy | exact (fun p hp => nomatch hp) | (show (_ : Nat) < _; omega))) ?_ | refine And.intro (covS_bool rfl rfl (by first | rfl)) ?_)
        · repeat (first | exact trivial | refine And.intro (covE_id (Nat.le_of_ble_eq_true rfl) (by first | exact wf_ints _ _ | exact wf_bools _ _ | first | exact wf_sls _ _ _ (by omega) | exact wf_jobs _ _ | simp [C.wf]) rfl (by first | rfl)) ?_)
      · rintro ⟨x, y, e⟩ ⟨h1, h2, h3, h4, hyy, h7⟩
        refine vc_ok tok ?_
        simp only at h1 h2 h3 h4 h7 hyy
        have hx : x ≤ n := by rw [← h1]; exact Nat.le_mul_of_pos_right _ h4
        have q1 : 0 ≤ (x : Int) / k ∧ (x : Int) / k ≤ x := ⟨Int.ediv_nonneg (by omega) (by omega), Int.ediv_le_self _ (by omega)⟩
        have q2 : 0 ≤ (y : Int) / k ∧ (y : Int) / k ≤ y := ⟨Int.ediv_nonneg (by omega) (by omega), Int.ediv_le_self _ (by omega)⟩
        by_cases hxk : (x : Int) % k = 0
        · by_cases hyk : (y : Int) % k = 0
          · repeat ((conv => whnf); first
                | (refine And.intro (by first | omega | exact Nat.le_of_ble_eq_true rfl | (dsimp only [inK]; omega) | (simp only [mulS_eq]; omega) | (simp only [mulS_eq, setL_length]; omega) | (simp only [setL_length, List.length_map]; omega) | exact ⟨by omega, by omega, by first | exact Nat.le_of_ble_eq_true rfl | (dsimp only; omega) | (simp only [setL_length]; omega) | (simp only [setL_length, List.length_map]; omega)⟩ | exact ⟨by omega, by first | rfl | omega, by omega, Nat.le_of_ble_eq_true rfl, Nat.le_of_ble_eq_true rfl⟩ | exact ⟨rfl, rfl, rfl, Nat.le_of_ble_eq_true rfl, by first | rfl | omega | exact Nat.le_of_ble_eq_true rfl | (dsimp only; omega) | (simp; done) | (simp; omega), by first | rfl | omega | exact Nat.le_of_ble_eq_true rfl | (dsimp only; omega) | (simp; done) | (simp; omega), by omega, Nat.le_of_ble_eq_true rfl⟩ | exact Eq.refl true) ?_)
                | (refine Exists.intro _ (And.intro rfl ?_))
                | (refine And.intro (And.intro rfl (chk_rowI _ _ _ _)) ?_)
                | (refine br_t (by omega) ?_)
                | (refine br_f (by omega) ?_)
                | (refine bs_t (by omega) ?_)
                | (refine bs_f (by omega) ?_)
                | (refine fun (K' : K3) hK' => ?_)
                | (refine hK' _ _ _ ?_; clear hK' K')
                | (refine draw_auto tok mixed (by kernel_rfl) ?_)
                | (refine bs_t hxk ?_)
                | (refine br_t hyk ?_)
                | (refine bs_bt (Eq.refl true) ?_)
                | (refine bs_bf (Eq.refl false) ?_)
                | (refine br_bt (Eq.refl true) ?_)
                | (refine br_bf (Eq.refl false) ?_)
                | (refine CallK.m ?_)
                | (refine And.intro (And.intro rfl rfl) ?_))
            have dx : k ∣ x := Nat.dvd_of_mod_eq_zero (by omega)
            have dy : k ∣ y := Nat.dvd_of_mod_eq_zero (by omega)
            have ex : x / k * k = x := Nat.div_mul_cancel dx
            have ey : y / k * k = y := Nat.div_mul_cancel dy
            refine ⟨(x / k, y / k, k * e), [], ⟨?_, ?_, ?_, ?_, ?_, ?_⟩, ?_, ?_⟩
            · simp only; rw [← Nat.mul_assoc, ex]; exact h1
            · simp only; rw [← Nat.mul_assoc, ey]; exact h2
            · rcases Nat.eq_zero_or_pos (y / k) with hz | hz
              · rw [hz] at ey; omega
              · exact hz
            · exact Nat.mul_pos (by omega) h4
            · exact Nat.le_trans (Nat.div_le_self _ _) hyy
            · intro q hq1 hq2 hq3
              refine h7 q hq1 hq2 ⟨?_, ?_⟩
              · rw [← ex]; exact Nat.dvd_mul_right_of_dvd hq3.1 _
              · rw [← ey]; exact Nat.dvd_mul_right_of_dvd hq3.2 _
            · exact Nat.div_lt_self (by omega) (by omega)
            refine ⟨?_, ?_, rfl, rfl, by first | exact Nat.le_of_ble_eq_true rfl | exact Nat.le_refl _ | omega⟩
            · repeat (first | exact trivial | refine And.intro (covS_syn (by first | rfl | (refine congrArg some (congrArg V.i ?_); exact (Int.natCast_ediv _ _).symm)) rfl (by first | exact trivial | exact Nat.le_of_ble_eq_true rfl | exact hy | exact (fun p hp => nomatch hp) | (show (_ : Nat) < _; omega))) ?_ | refine And.intro (covS_bool rfl rfl (by first | rfl)) ?_)
            · repeat (first | exact trivial | refine And.intro (covE_id (Nat.le_of_ble_eq_true rfl) (by first | exact wf_ints _ _ | exact wf_bools _ _ | first | exact wf_sls _ _ _ (by omega) | exact wf_jobs _ _ | simp [C.wf]) rfl (by first | rfl)) ?_)
          · repeat ((conv => whnf); first
                | (refine And.intro (by first | omega | exact Nat.le_of_ble_eq_true rfl | (dsimp only [inK]; omega) | (simp only [mulS_eq]; omega) | (simp only [mulS_eq, setL_length]; omega) | (simp only [setL_length, List.length_map]; omega) | exact ⟨by omega, by omega, by first | exact Nat.le_of_ble_eq_true rfl | (dsimp only; omega) | (simp only [setL_length]; omega) | (simp only [setL_length, List.length_map]; omega)⟩ | exact ⟨by omega, by first | rfl | omega, by omega, Nat.le_of_ble_eq_true rfl, Nat.le_of_ble_eq_true rfl⟩ | exact ⟨rfl, rfl, rfl, Nat.le_of_ble_eq_true rfl, by first | rfl | omega | exact Nat.le_of_ble_eq_true rfl | (dsimp only; omega) | (simp; done) | (simp; omega), by first | rfl | omega | exact Nat.le_of_ble_eq_true rfl | (dsimp only; omega) | (simp; done) | (simp; omega), by omega, Nat.le_of_ble_eq_true rfl⟩ | exact Eq.refl true) ?_)
                | (refine Exists.intro _ (And.intro rfl ?_))
                | (refine And.intro (And.intro rfl (chk_rowI _ _ _ _)) ?_)
                | (refine br_t (by omega) ?_)
                | (refine br_f (by omega) ?_)
                | (refine bs_t (by omega) ?_)
                | (refine bs_f (by omega) ?_)
                | (refine fun (K' : K3) hK' => ?_)
                | (refine hK' _ _ _ ?_; clear hK' K')
                | (refine draw_auto tok mixed (by kernel_rfl) ?_)
                | (refine bs_t hxk ?_)
                | (refine br_f hyk ?_)
                | (refine bs_bt (Eq.refl true) ?_)
                | (refine bs_bf (Eq.refl false) ?_)
                | (refine br_bt (Eq.refl true) ?_)
                | (refine br_bf (Eq.refl false) ?_)
                | (refine CallK.m ?_)
                | (refine And.intro (And.intro rfl rfl) ?_))
            refine ⟨(x, y, k + 1, e), [], ⟨h1, h2, h3, h4, by simp only; omega, by simp only; omega, ?_⟩, by simp only; omega, ?_⟩
            · intro q hq1 hq2
              simp only at hq2
              by_cases hqk : q = k
              · subst hqk
                rintro ⟨_, e2⟩
                exact hyk (by rw [← Int.natCast_emod, Nat.mod_eq_zero_of_dvd e2]; rfl)
              · exact h7 q hq1 (by omega)
            refine ⟨?_, ?_, rfl, rfl, by first | exact Nat.le_of_ble_eq_true rfl | exact Nat.le_refl _ | omega⟩
            · repeat (first | exact trivial | refine And.intro (covS_syn (by first | rfl | (refine congrArg some (congrArg V.i ?_); omega)) rfl (by first | exact trivial | exact Nat.le_of_ble_eq_true rfl | exact hy | exact (fun p hp => nomatch hp) | (show (_ : Nat) < _; omega))) ?_ | refine And.intro (covS_bool rfl rfl (by first | rfl)) ?_)
            · repeat (first | exact trivial | refine And.intro (covE_id (Nat.le_of_ble_eq_true rfl) (by first | exact wf_ints _ _ | exact wf_bools _ _ | first | exact wf_sls _ _ _ (by omega) | exact wf_jobs _ _ | simp [C.wf]) rfl (by first | rfl)) ?_)
        · repeat ((conv => whnf); first
              | (refine And.intro (by first | omega | exact Nat.le_of_ble_eq_true rfl | (dsimp only [inK]; omega) | (simp only [mulS_eq]; omega) | (simp only [mulS_eq, setL_length]; omega) | (simp only [setL_length, List.length_map]; omega) | exact ⟨by omega, by omega, by first | exact Nat.le_of_ble_eq_true rfl | (dsimp only; omega) | (simp only [setL_length]; omega) | (simp only [setL_length, List.length_map]; omega)⟩ | exact ⟨by omega, by first | rfl | omega, by omega, Nat.le_of_ble_eq_true rfl, Nat.le_of_ble_eq_true rfl⟩ | exact ⟨rfl, rfl, rfl, Nat.le_of_ble_eq_true rfl, by first | rfl | omega | exact Nat.le_of_ble_eq_true rfl | (dsimp only; omega) | (simp; done) | (simp; omega), by first | rfl | omega | exact Nat.le_of_ble_eq_true rfl | (dsimp only; omega) | (simp; done) | (simp; omega), by omega, Nat.le_of_ble_eq_true rfl⟩ | exact Eq.refl true) ?_)
              | (refine Exists.intro _ (And.intro rfl ?_))
              | (refine And.intro (And.intro rfl (chk_rowI _ _ _ _)) ?_)
              | (refine br_t (by omega) ?_)
              | (refine br_f (by omega) ?_)
              | (refine bs_t (by omega) ?_)
              | (refine bs_f (by omega) ?_)
              | (refine fun (K' : K3) hK' => ?_)
              | (refine hK' _ _ _ ?_; clear hK' K')
              | (refine draw_auto tok mixed (by kernel_rfl) ?_)
              | (refine bs_f hxk ?_)
              | (refine br_f hxk ?_)
              | (refine bs_bt (Eq.refl true) ?_)
              | (refine bs_bf (Eq.refl false) ?_)
              | (refine br_bt (Eq.refl true) ?_)
              | (refine br_bf (Eq.refl false) ?_)
              | (refine CallK.m ?_)
              | (refine And.intro (And.intro rfl rfl) ?_))
          refine ⟨(x, y, k + 1, e), [], ⟨h1, h2, h3, h4, by simp only; omega, by simp only; omega, ?_⟩, by simp only; omega, ?_⟩
          · intro q hq1 hq2
            simp only at hq2
            by_cases hqk : q = k
            · subst hqk
              rintro ⟨e1, _⟩
              exact hxk (by rw [← Int.natCast_emod, Nat.mod_eq_zero_of_dvd e1]; rfl)
            · exact h7 q hq1 (by omega)
          refine ⟨?_, ?_, rfl, rfl, by first | exact Nat.le_of_ble_eq_true rfl | exact Nat.le_refl _ | omega⟩
          · repeat (first | exact trivial | refine And.intro (covS_syn (by first | rfl | (refine congrArg some (congrArg V.i ?_); omega)) rfl (by first | exact trivial | exact Nat.le_of_ble_eq_true rfl | exact hy | exact (fun p hp => nomatch hp) | (show (_ : Nat) < _; omega))) ?_ | refine And.intro (covS_bool rfl rfl (by first | rfl)) ?_)
          · repeat (first | exact trivial | refine And.intro (covE_id (Nat.le_of_ble_eq_true rfl) (by first | exact wf_ints _ _ | exact wf_bools _ _ | first | exact wf_sls _ _ _ (by omega) | exact wf_jobs _ _ | simp [C.wf]) rfl (by first | rfl)) ?_)
    · have hg : Nat.gcd x y = 1 := by
        have hgp : 0 < Nat.gcd x y := Nat.gcd_pos_of_pos_right _ (by omega)
        have hgl : Nat.gcd x y ≤ y := Nat.le_of_dvd (by omega) (Nat.gcd_dvd_right _ _)
        rcases Nat.lt_or_ge (Nat.gcd x y) 2 with h | h
        · omega
        · exact absurd ⟨Nat.gcd_dvd_left _ _, Nat.gcd_dvd_right _ _⟩ (h7 _ h (by omega))
      have hG : Nat.gcd n d = e := by rw [← h1, ← h2, Nat.gcd_mul_right, hg, Nat.one_mul]
      have e1 : (n : Int) / (Nat.gcd n d : Nat) = x := by
        rw [hG, ← h1]; rw [Int.natCast_mul, Int.mul_ediv_cancel _ (by omega)]
      have e2 : (d : Int) / (Nat.gcd n d : Nat) = y := by
        rw [hG, ← h2]; rw [Int.natCast_mul, Int.mul_ediv_cancel _ (by omega)]
      rw [e1, e2]
      repeat ((conv => whnf); first
          | (refine And.intro (by first | omega | exact Nat.le_of_ble_eq_true rfl | (dsimp only [inK]; omega) | (simp only [mulS_eq]; omega) | (simp only [mulS_eq, setL_length]; omega) | (simp only [setL_length, List.length_map]; omega) | exact ⟨by omega, by omega, by first | exact Nat.le_of_ble_eq_true rfl | (dsimp only; omega) | (simp only [setL_length]; omega) | (simp only [setL_length, List.length_map]; omega)⟩ | exact ⟨by omega, by first | rfl | omega, by omega, Nat.le_of_ble_eq_true rfl, Nat.le_of_ble_eq_true rfl⟩ | exact ⟨rfl, rfl, rfl, Nat.le_of_ble_eq_true rfl, by first | rfl | omega | exact Nat.le_of_ble_eq_true rfl | (dsimp only; omega) | (simp; done) | (simp; omega), by first | rfl | omega | exact Nat.le_of_ble_eq_true rfl | (dsimp only; omega) | (simp; done) | (simp; omega), by omega, Nat.le_of_ble_eq_true rfl⟩ | exact Eq.refl true) ?_)
          | (refine Exists.intro _ (And.intro rfl ?_))
          | (refine And.intro (And.intro rfl (chk_rowI _ _ _ _)) ?_)
          | (refine br_t (by omega) ?_)
          | (refine br_f (by omega) ?_)
          | (refine bs_t (by omega) ?_)
          | (refine bs_f (by omega) ?_)
          | (refine fun (K' : K3) hK' => ?_)
          | (refine hK' _ _ _ ?_; clear hK' K')
          | (refine draw_auto tok mixed (by kernel_rfl) ?_)
          | (refine bs_bt (Eq.refl true) ?_)
          | (refine bs_bf (Eq.refl false) ?_)
          | (refine br_bt (Eq.refl true) ?_)
          | (refine br_bf (Eq.refl false) ?_)
          | (refine CallK.m ?_)
          | (refine And.intro (And.intro rfl rfl) ?_))
      intro ρ; rfl
set_option maxRecDepth 100000 in
theorem rLead_spec (j : Coast) (hj : Sized j) (b f : Int) (hbb : -9223372036854775808 ≤ b ∧ b ≤ 9223372036854775807) (hff : -9223372036854775808 ≤ f ∧ f ≤ 9223372036854775807) :
    Spec Try.prog 17 [V.c (.sl 0 j.length), V.i b, V.i f] (⟨0, .ro 1, slsC 1 j⟩ :: entC 1 j) 32 (Is (leadV j b f)) := by
  have hj20 := hj.len
  have hlen := slsC_len (b := 1) (j := j)
  cases hv : validL j with
  | false =>
    simp only [leadV, hv, Bool.false_eq_true, if_false]
    refine Spec.of tok Try.func17 rfl rfl rfl fun n0 cx => vc_ok tok ?_
    repeat ((conv => whnf); first
        | (refine And.intro (by first | omega | exact Nat.le_of_ble_eq_true rfl | (dsimp only [inK]; omega) | (simp only [mulS_eq]; omega) | (simp only [mulS_eq, setL_length]; omega) | (simp only [setL_length, List.length_map]; omega) | exact ⟨by omega, by omega, by first | exact Nat.le_of_ble_eq_true rfl | (dsimp only; omega) | (simp only [setL_length]; omega) | (simp only [setL_length, List.length_map]; omega)⟩ | exact ⟨by omega, by first | rfl | omega, by omega, Nat.le_of_ble_eq_true rfl, Nat.le_of_ble_eq_true rfl⟩ | exact ⟨rfl, rfl, rfl, Nat.le_of_ble_eq_true rfl, by first | rfl | omega | exact Nat.le_of_ble_eq_true rfl | (dsimp only; omega) | (simp; done) | (simp; omega), by first | rfl | omega | exact Nat.le_of_ble_eq_true rfl | (dsimp only; omega) | (simp; done) | (simp; omega), by omega, Nat.le_of_ble_eq_true rfl⟩ | exact Eq.refl true) ?_)
        | (refine Exists.intro _ (And.intro rfl ?_))
        | (refine And.intro (And.intro rfl (chk_rowI _ _ _ _)) ?_)
        | (refine br_t (by omega) ?_)
        | (refine br_f (by omega) ?_)
        | (refine bs_t (by omega) ?_)
        | (refine bs_f (by omega) ?_)
        | (refine fun (K' : K3) hK' => ?_)
        | (refine hK' _ _ _ ?_; clear hK' K')
        | (refine draw_auto tok mixed (by kernel_rfl) ?_)
        | (refine CallK.val (R := []) (rvalid_spec j hj) (by kernel_rfl) rfl (by simp [V.wf, A.wf, C.wf]) (HasC.ro ⟨rfl, fun k hk => by (repeat (first | rw [find_skip (by omega)] | rw [find_hi (by omega) (by rfl)])); exact entC_find hk⟩ hj) (injC hj) rfl trivial ?_)
        | (refine br_bt (by rw [hv]; rfl) ?_)
        | (with_reducible refine updK_ent (by omega) ?_)
        | (refine bs_bt (Eq.refl true) ?_)
        | (refine bs_bf (Eq.refl false) ?_)
        | (refine br_bt (Eq.refl true) ?_)
        | (refine br_bf (Eq.refl false) ?_)
        | (refine CallK.m ?_)
        | (refine And.intro (And.intro rfl rfl) ?_))
    intro ρ; rfl
  | true =>
    have hc := validL_coast hj hv
    have hm12 := validL_many hv
    simp only [leadV, hv, if_true]
    by_cases hb0 : b < 0
    · rw [if_neg (by omega)]
      refine Spec.of tok Try.func17 rfl rfl rfl fun n0 cx => vc_ok tok ?_
      repeat ((conv => whnf); first
          | (refine And.intro (by first | omega | exact Nat.le_of_ble_eq_true rfl | (dsimp only [inK]; omega) | (simp only [mulS_eq]; omega) | (simp only [mulS_eq, setL_length]; omega) | (simp only [setL_length, List.length_map]; omega) | exact ⟨by omega, by omega, by first | exact Nat.le_of_ble_eq_true rfl | (dsimp only; omega) | (simp only [setL_length]; omega) | (simp only [setL_length, List.length_map]; omega)⟩ | exact ⟨by omega, by first | rfl | omega, by omega, Nat.le_of_ble_eq_true rfl, Nat.le_of_ble_eq_true rfl⟩ | exact ⟨rfl, rfl, rfl, Nat.le_of_ble_eq_true rfl, by first | rfl | omega | exact Nat.le_of_ble_eq_true rfl | (dsimp only; omega) | (simp; done) | (simp; omega), by first | rfl | omega | exact Nat.le_of_ble_eq_true rfl | (dsimp only; omega) | (simp; done) | (simp; omega), by omega, Nat.le_of_ble_eq_true rfl⟩ | exact Eq.refl true) ?_)
          | (refine Exists.intro _ (And.intro rfl ?_))
          | (refine And.intro (And.intro rfl (chk_rowI _ _ _ _)) ?_)
          | (refine br_t (by omega) ?_)
          | (refine br_f (by omega) ?_)
          | (refine bs_t (by omega) ?_)
          | (refine bs_f (by omega) ?_)
          | (refine fun (K' : K3) hK' => ?_)
          | (refine hK' _ _ _ ?_; clear hK' K')
          | (refine draw_auto tok mixed (by kernel_rfl) ?_)
          | (refine CallK.val (R := []) (rvalid_spec j hj) (by kernel_rfl) rfl (by simp [V.wf, A.wf, C.wf]) (HasC.ro ⟨rfl, fun k hk => by (repeat (first | rw [find_skip (by omega)] | rw [find_hi (by omega) (by rfl)])); exact entC_find hk⟩ hj) (injC hj) rfl trivial ?_)
          | (refine br_bf (by rw [hv]; rfl) ?_)
          | (with_reducible refine updK_ent (by omega) ?_)
          | (refine bs_bt (Eq.refl true) ?_)
          | (refine bs_bf (Eq.refl false) ?_)
          | (refine br_bt (Eq.refl true) ?_)
          | (refine br_bf (Eq.refl false) ?_)
          | (refine CallK.m ?_)
          | (refine And.intro (And.intro rfl rfl) ?_))
      intro ρ; rfl
    by_cases hb1 : b ≥ (j.length : Int)
    · rw [if_neg (by omega)]
      refine Spec.of tok Try.func17 rfl rfl rfl fun n0 cx => vc_ok tok ?_
      repeat ((conv => whnf); first
          | (refine And.intro (by first | omega | exact Nat.le_of_ble_eq_true rfl | (dsimp only [inK]; omega) | (simp only [mulS_eq]; omega) | (simp only [mulS_eq, setL_length]; omega) | (simp only [setL_length, List.length_map]; omega) | exact ⟨by omega, by omega, by first | exact Nat.le_of_ble_eq_true rfl | (dsimp only; omega) | (simp only [setL_length]; omega) | (simp only [setL_length, List.length_map]; omega)⟩ | exact ⟨by omega, by first | rfl | omega, by omega, Nat.le_of_ble_eq_true rfl, Nat.le_of_ble_eq_true rfl⟩ | exact ⟨rfl, rfl, rfl, Nat.le_of_ble_eq_true rfl, by first | rfl | omega | exact Nat.le_of_ble_eq_true rfl | (dsimp only; omega) | (simp; done) | (simp; omega), by first | rfl | omega | exact Nat.le_of_ble_eq_true rfl | (dsimp only; omega) | (simp; done) | (simp; omega), by omega, Nat.le_of_ble_eq_true rfl⟩ | exact Eq.refl true) ?_)
          | (refine Exists.intro _ (And.intro rfl ?_))
          | (refine And.intro (And.intro rfl (chk_rowI _ _ _ _)) ?_)
          | (refine br_t (by omega) ?_)
          | (refine br_f (by omega) ?_)
          | (refine bs_t (by omega) ?_)
          | (refine bs_f (by omega) ?_)
          | (refine fun (K' : K3) hK' => ?_)
          | (refine hK' _ _ _ ?_; clear hK' K')
          | (refine draw_auto tok mixed (by kernel_rfl) ?_)
          | (refine CallK.val (R := []) (rvalid_spec j hj) (by kernel_rfl) rfl (by simp [V.wf, A.wf, C.wf]) (HasC.ro ⟨rfl, fun k hk => by (repeat (first | rw [find_skip (by omega)] | rw [find_hi (by omega) (by rfl)])); exact entC_find hk⟩ hj) (injC hj) rfl trivial ?_)
          | (refine br_bf (by rw [hv]; rfl) ?_)
          | (with_reducible refine updK_ent (by omega) ?_)
          | (refine bs_bt (Eq.refl true) ?_)
          | (refine bs_bf (Eq.refl false) ?_)
          | (refine br_bt (Eq.refl true) ?_)
          | (refine br_bf (Eq.refl false) ?_)
          | (refine CallK.m ?_)
          | (refine And.intro (And.intro rfl rfl) ?_))
      intro ρ; rfl
    obtain ⟨bN, rfl⟩ : ∃ n : Nat, b = n := ⟨b.toNat, by omega⟩
    have hbl : bN < j.length := by omega
    have hjb := hc.jobs bN hbl
    rw [Int.toNat_natCast]
    by_cases hf0 : f < 0
    · rw [if_neg (by omega)]
      refine Spec.of tok Try.func17 rfl rfl rfl fun n0 cx => vc_ok tok ?_
      repeat ((conv => whnf); first
          | (refine And.intro (by first | omega | exact Nat.le_of_ble_eq_true rfl | (dsimp only [inK]; omega) | (simp only [mulS_eq]; omega) | (simp only [mulS_eq, setL_length]; omega) | (simp only [setL_length, List.length_map]; omega) | exact ⟨by omega, by omega, by first | exact Nat.le_of_ble_eq_true rfl | (dsimp only; omega) | (simp only [setL_length]; omega) | (simp only [setL_length, List.length_map]; omega)⟩ | exact ⟨by omega, by first | rfl | omega, by omega, Nat.le_of_ble_eq_true rfl, Nat.le_of_ble_eq_true rfl⟩ | exact ⟨rfl, rfl, rfl, Nat.le_of_ble_eq_true rfl, by first | rfl | omega | exact Nat.le_of_ble_eq_true rfl | (dsimp only; omega) | (simp; done) | (simp; omega), by first | rfl | omega | exact Nat.le_of_ble_eq_true rfl | (dsimp only; omega) | (simp; done) | (simp; omega), by omega, Nat.le_of_ble_eq_true rfl⟩ | exact Eq.refl true) ?_)
          | (refine Exists.intro _ (And.intro rfl ?_))
          | (refine And.intro (And.intro rfl (chk_rowI _ _ _ _)) ?_)
          | (refine br_t (by omega) ?_)
          | (refine br_f (by omega) ?_)
          | (refine bs_t (by omega) ?_)
          | (refine bs_f (by omega) ?_)
          | (refine fun (K' : K3) hK' => ?_)
          | (refine hK' _ _ _ ?_; clear hK' K')
          | (refine draw_auto tok mixed (by kernel_rfl) ?_)
          | (refine CallK.val (R := []) (rvalid_spec j hj) (by kernel_rfl) rfl (by simp [V.wf, A.wf, C.wf]) (HasC.ro ⟨rfl, fun k hk => by (repeat (first | rw [find_skip (by omega)] | rw [find_hi (by omega) (by rfl)])); exact entC_find hk⟩ hj) (injC hj) rfl trivial ?_)
          | (refine br_bf (by rw [hv]; rfl) ?_)
          | (with_reducible refine updK_ent (by omega) ?_)
          | (refine bs_bt (Eq.refl true) ?_)
          | (refine bs_bf (Eq.refl false) ?_)
          | (refine br_bt (Eq.refl true) ?_)
          | (refine br_bf (Eq.refl false) ?_)
          | (refine CallK.m ?_)
          | (refine And.intro (And.intro rfl rfl) ?_))
      intro ρ; rfl
    by_cases hf1 : f ≥ ((j.getD bN []).length : Int)
    · rw [if_neg (by omega)]
      refine Spec.of tok Try.func17 rfl rfl rfl fun n0 cx => vc_ok tok ?_
      repeat ((conv => whnf); first
          | (refine And.intro (by first | omega | exact Nat.le_of_ble_eq_true rfl | (dsimp only [inK]; omega) | (simp only [mulS_eq]; omega) | (simp only [mulS_eq, setL_length]; omega) | (simp only [setL_length, List.length_map]; omega) | exact ⟨by omega, by omega, by first | exact Nat.le_of_ble_eq_true rfl | (dsimp only; omega) | (simp only [setL_length]; omega) | (simp only [setL_length, List.length_map]; omega)⟩ | exact ⟨by omega, by first | rfl | omega, by omega, Nat.le_of_ble_eq_true rfl, Nat.le_of_ble_eq_true rfl⟩ | exact ⟨rfl, rfl, rfl, Nat.le_of_ble_eq_true rfl, by first | rfl | omega | exact Nat.le_of_ble_eq_true rfl | (dsimp only; omega) | (simp; done) | (simp; omega), by first | rfl | omega | exact Nat.le_of_ble_eq_true rfl | (dsimp only; omega) | (simp; done) | (simp; omega), by omega, Nat.le_of_ble_eq_true rfl⟩ | exact Eq.refl true) ?_)
          | (with_reducible refine ld (slL hbl) ?_)
          | (refine Exists.intro _ (And.intro rfl ?_))
          | (refine And.intro (And.intro rfl (chk_rowI _ _ _ _)) ?_)
          | (refine br_t (by omega) ?_)
          | (refine br_f (by omega) ?_)
          | (refine bs_t (by omega) ?_)
          | (refine bs_f (by omega) ?_)
          | (refine fun (K' : K3) hK' => ?_)
          | (refine hK' _ _ _ ?_; clear hK' K')
          | (refine draw_auto tok mixed (by kernel_rfl) ?_)
          | (refine CallK.val (R := []) (rvalid_spec j hj) (by kernel_rfl) rfl (by simp [V.wf, A.wf, C.wf]) (HasC.ro ⟨rfl, fun k hk => by (repeat (first | rw [find_skip (by omega)] | rw [find_hi (by omega) (by rfl)])); exact entC_find hk⟩ hj) (injC hj) rfl trivial ?_)
          | (refine br_bf (by rw [hv]; rfl) ?_)
          | (with_reducible refine updK_ent (by omega) ?_)
          | (refine bs_bt (Eq.refl true) ?_)
          | (refine bs_bf (Eq.refl false) ?_)
          | (refine br_bt (Eq.refl true) ?_)
          | (refine br_bf (Eq.refl false) ?_)
          | (refine CallK.m ?_)
          | (refine And.intro (And.intro rfl rfl) ?_))
      intro ρ; rfl
    obtain ⟨fN, rfl⟩ : ∃ n : Nat, f = n := ⟨f.toNat, by omega⟩
    have hfl : fN < (j.getD bN []).length := by omega
    rw [if_pos (by omega), Int.toNat_natCast]
    have hp := leadS_pos hjb.1 hfl
    have hbd := leadS_bd hjb.1 (Nat.le_of_lt hfl) hjb.2
    have hls := rleadS_spec (j.getD bN []) fN (by have := beach_many hbl; omega) (Nat.le_of_lt hfl) hjb.1
    generalize leadS (j.getD bN []) fN = p at *
    obtain ⟨hh, ww, la⟩ := p
    simp only at hp hbd hls
    obtain ⟨hN, rfl⟩ : ∃ n : Nat, hh = n := ⟨hh.toNat, by omega⟩
    obtain ⟨wN, rfl⟩ : ∃ n : Nat, ww = n := ⟨ww.toNat, by omega⟩
    have hg : leadG ((hN : Int), (wN : Int), la) = (Nat.gcd wN hN : Nat) := by simp [leadG, Nat.gcd_comm]
    rw [hg]
    refine Spec.of tok Try.func17 rfl rfl rfl fun n0 cx => vc_ok tok ?_
    repeat ((conv => whnf); first
        | (refine And.intro (by first | omega | exact Nat.le_of_ble_eq_true rfl | (dsimp only [inK]; omega) | (simp only [mulS_eq]; omega) | (simp only [mulS_eq, setL_length]; omega) | (simp only [setL_length, List.length_map]; omega) | exact ⟨by omega, by omega, by first | exact Nat.le_of_ble_eq_true rfl | (dsimp only; omega) | (simp only [setL_length]; omega) | (simp only [setL_length, List.length_map]; omega)⟩ | exact ⟨by omega, by first | rfl | omega, by omega, Nat.le_of_ble_eq_true rfl, Nat.le_of_ble_eq_true rfl⟩ | exact ⟨rfl, rfl, rfl, Nat.le_of_ble_eq_true rfl, by first | rfl | omega | exact Nat.le_of_ble_eq_true rfl | (dsimp only; omega) | (simp; done) | (simp; omega), by first | rfl | omega | exact Nat.le_of_ble_eq_true rfl | (dsimp only; omega) | (simp; done) | (simp; omega), by omega, Nat.le_of_ble_eq_true rfl⟩ | exact Eq.refl true) ?_)
        | (with_reducible refine ld (slL hbl) ?_)
        | (refine Exists.intro _ (And.intro rfl ?_))
        | (refine And.intro (And.intro rfl (chk_rowI _ _ _ _)) ?_)
        | (refine br_t (by omega) ?_)
        | (refine br_f (by omega) ?_)
        | (refine bs_t (by omega) ?_)
        | (refine bs_f (by omega) ?_)
        | (refine fun (K' : K3) hK' => ?_)
        | (refine hK' _ _ _ ?_; clear hK' K')
        | (refine draw_auto tok mixed (by kernel_rfl) ?_)
        | (refine CallK.val (R := []) (rvalid_spec j hj) (by kernel_rfl) rfl (by simp [V.wf, A.wf, C.wf]) (HasC.ro ⟨rfl, fun k hk => by (repeat (first | rw [find_skip (by omega)] | rw [find_hi (by omega) (by rfl)])); exact entC_find hk⟩ hj) (injC hj) rfl trivial ?_)
        | (refine br_bf (by rw [hv]; rfl) ?_)
        | (with_reducible refine updK_ent (by omega) ?_)
        | (refine CallK.val (R := [(0, some (1 + bN))]) hls (by kernel_rfl) rfl (by simp [V.wf, A.wf, C.wf, V.i]) (roE_beach (by omega) (by ((try (conv => lhs; arg 1; whnf)); (repeat (first | rw [find_skip (by omega)] | rw [find_hi (by omega) (by rfl)])); exact entC_find hbl)) (.inr rfl)) rfl rfl (by simp [V.wf, A.wf, C.wf]) ?_)
        | (refine HD_mk (fun _ h => CallK.val (R := []) (ratio_spec wN hN (by omega) (by omega) (by omega)) (by kernel_rfl) rfl (by simp [V.wf, A.wf, C.wf, V.i]) trivial rfl rfl (by simp [V.wf, A.wf, C.wf]) h) ?_)
        | (refine bs_bt (Eq.refl true) ?_)
        | (refine bs_bf (Eq.refl false) ?_)
        | (refine br_bt (Eq.refl true) ?_)
        | (refine br_bf (Eq.refl false) ?_)
        | (refine CallK.m ?_)
        | (refine And.intro (And.intro rfl rfl) ?_))
    intro ρ; rfl
end Go.Proofs.Ytjijjncddjkdlaa

/- Shore: the pairs' bound. -/
namespace Go.Proofs.Ytjijjncddjkdlaa
open Go.RowKit
set_option linter.unusedVariables false
set_option linter.unusedSimpArgs false
theorem sumZ_bd {F : Nat → Int} {M : Int} : ∀ {n : Nat}, (∀ i, i < n → 0 ≤ F i ∧ F i ≤ M) → 0 ≤ sumZ n F ∧ sumZ n F ≤ n * M
  | 0, _ => by simp [sumZ]
  | n + 1, h => by
    have ih := sumZ_bd (n := n) (fun i hi => h i (by omega))
    have := h n (by omega)
    simp only [sumZ]
    rw [show ((n + 1 : Nat) : Int) * M = n * M + M by rw [Int.natCast_add, Int.add_mul]; simp]
    omega
/-- A job of a beach. -/
def jobA (j : Coast) (b i : Nat) : Job := (j.getD b []).getD i (0, 0)
def tailF (j : Coast) (b i : Nat) : Nat → Int := fun k => (jobA j b i).1 * (jobA j b (i + k)).2
def minF (j : Coast) (b i c : Nat) : Nat → Int := fun k => if (jobA j c k).1 * (jobA j b i).2 < (jobA j b i).1 * (jobA j c k).2 then (jobA j c k).1 * (jobA j b i).2 else (jobA j b i).1 * (jobA j c k).2
def pairF (j : Coast) (b i : Nat) : Nat → Int := fun c => sumZ (j.getD c []).length (minF j b i c)
def rowF (j : Coast) (b : Nat) : Nat → Int := fun i => sumZ ((j.getD b []).length - i) (tailF j b i) + sumZ b (pairF j b i)
def beachF (j : Coast) : Nat → Int := fun b => sumZ (j.getD b []).length (rowF j b)
def boundO (j : Coast) : Int := sumZ j.length (beachF j)
theorem jobA_bd {j : Coast} (hc : CoastOk j) {b i : Nat} (hb : b < j.length) (hi : i < (j.getD b []).length) : 1 ≤ (jobA j b i).1 ∧ (jobA j b i).1 ≤ 100 ∧ 0 ≤ (jobA j b i).2 ∧ (jobA j b i).2 ≤ 100 := (hc.jobs b hb).1 i hi
theorem tailF_bd {j : Coast} (hc : CoastOk j) {b i k : Nat} (hb : b < j.length) (hi : i + k < (j.getD b []).length) : 0 ≤ tailF j b i k ∧ tailF j b i k ≤ 10000 := by
  have h1 := jobA_bd hc hb (show i < _ by omega)
  have h2 := jobA_bd hc hb hi
  exact mul_bd (A := 100) (B := 100) (by omega) h1.2.1 h2.2.2.1 h2.2.2.2
theorem minF_bd {j : Coast} (hc : CoastOk j) {b i c k : Nat} (hb : b < j.length) (hi : i < (j.getD b []).length) (hcl : c < j.length) (hk : k < (j.getD c []).length) : 0 ≤ minF j b i c k ∧ minF j b i c k ≤ 10000 := by
  have h1 := jobA_bd hc hb hi
  have h2 := jobA_bd hc hcl hk
  have p1 := mul_bd (a := (jobA j c k).1) (b := (jobA j b i).2) (A := 100) (B := 100) (by omega) h2.2.1 h1.2.2.1 h1.2.2.2
  have p2 := mul_bd (a := (jobA j b i).1) (b := (jobA j c k).2) (A := 100) (B := 100) (by omega) h1.2.1 h2.2.2.1 h2.2.2.2
  unfold minF
  split <;> omega
theorem small_mul {n : Nat} {N M : Int} (hn : (n : Int) ≤ N) (hM : 0 ≤ M) : (n : Int) * M ≤ N * M := Int.mul_le_mul_of_nonneg_right hn hM
theorem pairF_bd {j : Coast} (hc : CoastOk j) (h12 : ∀ b, b < j.length → (j.getD b []).length ≤ 12) {b i c : Nat} (hb : b < j.length) (hi : i < (j.getD b []).length) (hcl : c < j.length) : 0 ≤ pairF j b i c ∧ pairF j b i c ≤ 120000 := by
  have := sumZ_bd (n := (j.getD c []).length) (F := minF j b i c) (M := 10000) (fun k hk => minF_bd hc hb hi hcl hk)
  have := small_mul (n := (j.getD c []).length) (N := 12) (M := 10000) (by have := h12 c hcl; omega) (by omega)
  unfold pairF; omega
theorem rowF_bd {j : Coast} (hc : CoastOk j) (h12 : ∀ b, b < j.length → (j.getD b []).length ≤ 12) (h6 : j.length ≤ 6) {b i : Nat} (hb : b < j.length) (hi : i < (j.getD b []).length) : 0 ≤ rowF j b i ∧ rowF j b i ≤ 1000000 := by
  have h1 := sumZ_bd (n := (j.getD b []).length - i) (F := tailF j b i) (M := 10000) (fun k hk => tailF_bd hc hb (by omega))
  have h2 := small_mul (n := (j.getD b []).length - i) (N := 12) (M := 10000) (by have := h12 b hb; omega) (by omega)
  have h3 := sumZ_bd (n := b) (F := pairF j b i) (M := 120000) (fun c hcb => pairF_bd hc h12 hb hi (by omega))
  have h4 := small_mul (n := b) (N := 6) (M := 120000) (by omega) (by omega)
  unfold rowF; omega
theorem beachF_bd {j : Coast} (hc : CoastOk j) (h12 : ∀ b, b < j.length → (j.getD b []).length ≤ 12) (h6 : j.length ≤ 6) {b : Nat} (hb : b < j.length) : 0 ≤ beachF j b ∧ beachF j b ≤ 12000000 := by
  have h1 := sumZ_bd (n := (j.getD b []).length) (F := rowF j b) (M := 1000000) (fun i hi => rowF_bd hc h12 h6 hb hi)
  have h2 := small_mul (n := (j.getD b []).length) (N := 12) (M := 1000000) (by have := h12 b hb; omega) (by omega)
  unfold beachF; omega
theorem sls_take {j : Coast} {b : Nat} : (((slsC 1 j).drop 0).take (b * 1)) = (slsC 1 j).take b := by simp
theorem slTk {j : Coast} {b k : Nat} {z : Int} (hz : z = k) (hk : k < b) (hb : b ≤ j.length) : ((slsC 1 j).take b)[mulS z.toNat 1]? = some (C.sl (1 + k) (j.getD k []).length) := by
  subst hz
  have := slL (b := 1) (j := j) (k := k) (by omega)
  rw [mulS_eq] at *
  rw [List.getElem?_take]
  simp only [Int.toNat_natCast, Nat.mul_one] at *
  rw [if_pos hk]; exact this
theorem ediv_bd {x y : Int} (hx : 0 ≤ x) (hy : 0 < y) : 0 ≤ x / y ∧ x / y ≤ x := ⟨Int.ediv_nonneg hx (by omega), Int.ediv_le_self _ hx⟩
theorem validL_len {j : Coast} (hv : validL j = true) : 1 ≤ j.length ∧ j.length ≤ 6 := by
  simp only [validL, Bool.and_eq_true, decide_eq_true_eq] at hv; omega
set_option maxRecDepth 100000 in
theorem bound_spec (j : Coast) (hj : Sized j) : Spec Try.prog 20 [V.c (.sl 0 j.length)] (⟨0, .ro 1, slsC 1 j⟩ :: entC 1 j) 32 (Is (if validL j then .tup [.c (.i (boundO j)), .c (.i 0)] else .tup [.c (.i 0), .c (.i 60)])) := by
  have hj20 := hj.len
  have hlen := slsC_len (b := 1) (j := j)
  have hC : HasC (⟨0, .ro 1, slsC 1 j⟩ :: entC 1 j) j := ⟨rfl, fun k hk => by (repeat (first | rw [find_skip (by omega)] | rw [find_hi (by omega) (by rfl)])); exact entC_find hk⟩
  cases hv : validL j with
  | false =>
    refine Spec.of tok Try.func20 rfl rfl rfl fun n0 cx => vc_ok tok ?_
    repeat ((conv => whnf); first
        | (refine And.intro (by first | omega | exact Nat.le_of_ble_eq_true rfl | (dsimp only [inK]; omega) | (simp only [mulS_eq]; omega) | (simp only [mulS_eq, setL_length]; omega) | (simp only [setL_length, List.length_map]; omega) | exact ⟨by omega, by omega, by first | exact Nat.le_of_ble_eq_true rfl | (dsimp only; omega) | (simp only [setL_length]; omega) | (simp only [setL_length, List.length_map]; omega)⟩ | exact ⟨by omega, by first | rfl | omega, by omega, Nat.le_of_ble_eq_true rfl, Nat.le_of_ble_eq_true rfl⟩ | exact ⟨rfl, rfl, rfl, Nat.le_of_ble_eq_true rfl, by first | rfl | omega | exact Nat.le_of_ble_eq_true rfl | (dsimp only; omega) | (simp; done) | (simp; omega), by first | rfl | omega | exact Nat.le_of_ble_eq_true rfl | (dsimp only; omega) | (simp; done) | (simp; omega), by omega, Nat.le_of_ble_eq_true rfl⟩ | exact Eq.refl true) ?_)
        | (refine Exists.intro _ (And.intro rfl ?_))
        | (refine And.intro (And.intro rfl (chk_rowI _ _ _ _)) ?_)
        | (refine br_t (by omega) ?_)
        | (refine br_f (by omega) ?_)
        | (refine bs_t (by omega) ?_)
        | (refine bs_f (by omega) ?_)
        | (refine fun (K' : K3) hK' => ?_)
        | (refine hK' _ _ _ ?_; clear hK' K')
        | (refine CallM.eq (by kernel_rfl) (open_spec j hj _ _ hC) ?_)
        | (refine draw_auto tok mixed (by kernel_rfl) ?_)
        | (rw [hv])
        | (refine bs_bt (Eq.refl true) ?_)
        | (refine bs_bf (Eq.refl false) ?_)
        | (refine br_bt (Eq.refl true) ?_)
        | (refine br_bf (Eq.refl false) ?_)
        | (refine CallK.m ?_)
        | (refine And.intro (And.intro rfl rfl) ?_))
    refine Tri.loop (γ := Unit) (fun _ => True) (fun _ => [(5, V.i 60), (6, V.i 0), (23, V.i 0), (24, V.i 0)]) (fun _ => []) 32 (fun _ => 0) () (R0 := []) ?_ ?_ ?_
    · trivial
    · skip
      refine ⟨?_, ?_, rfl, rfl, by first | exact Nat.le_of_ble_eq_true rfl | exact Nat.le_refl _ | omega⟩
      · repeat (first | exact trivial | refine And.intro (covS_syn (by first | rfl) rfl (by first | exact trivial | exact Nat.le_of_ble_eq_true rfl | exact hy | exact (fun p hp => nomatch hp) | (show (_ : Nat) < _; omega))) ?_ | refine And.intro (covS_bool rfl rfl (by first | rfl)) ?_)
      · repeat (first | exact trivial | refine And.intro (covE_id (Nat.le_of_ble_eq_true rfl) (by first | exact wf_ints _ _ | exact wf_bools _ _ | first | exact wf_sls _ _ _ (by omega) | exact wf_jobs _ _ | exact fun c hc => wf_sls _ _ _ (by omega) c (List.mem_of_mem_take hc) | simp [C.wf]) rfl (by first | rfl)) ?_)
    · rintro g -
      refine vc_ok tok ?_
      repeat ((conv => whnf); first
          | (refine And.intro (by first | omega | exact Nat.le_of_ble_eq_true rfl | (dsimp only [inK]; omega) | (simp only [mulS_eq]; omega) | (simp only [mulS_eq, setL_length]; omega) | (simp only [setL_length, List.length_map]; omega) | exact ⟨by omega, by omega, by first | exact Nat.le_of_ble_eq_true rfl | (dsimp only; omega) | (simp only [setL_length]; omega) | (simp only [setL_length, List.length_map]; omega)⟩ | exact ⟨by omega, by first | rfl | omega, by omega, Nat.le_of_ble_eq_true rfl, Nat.le_of_ble_eq_true rfl⟩ | exact ⟨rfl, rfl, rfl, Nat.le_of_ble_eq_true rfl, by first | rfl | omega | exact Nat.le_of_ble_eq_true rfl | (dsimp only; omega) | (simp; done) | (simp; omega), by first | rfl | omega | exact Nat.le_of_ble_eq_true rfl | (dsimp only; omega) | (simp; done) | (simp; omega), by omega, Nat.le_of_ble_eq_true rfl⟩ | exact Eq.refl true) ?_)
          | (refine Exists.intro _ (And.intro rfl ?_))
          | (refine And.intro (And.intro rfl (chk_rowI _ _ _ _)) ?_)
          | (refine br_t (by omega) ?_)
          | (refine br_f (by omega) ?_)
          | (refine bs_t (by omega) ?_)
          | (refine bs_f (by omega) ?_)
          | (refine fun (K' : K3) hK' => ?_)
          | (refine hK' _ _ _ ?_; clear hK' K')
          | (refine draw_auto tok mixed (by kernel_rfl) ?_)
          | (refine bs_bt (Eq.refl true) ?_)
          | (refine bs_bf (Eq.refl false) ?_)
          | (refine br_bt (Eq.refl true) ?_)
          | (refine br_bf (Eq.refl false) ?_)
          | (refine CallK.m ?_)
          | (refine And.intro (And.intro rfl rfl) ?_))
      intro ρ; rfl
  | true =>
    have hc := validL_coast hj hv
    have hm := validL_many hv
    have h6 := (validL_len hv).2
    have h12 : ∀ b, b < j.length → (j.getD b []).length ≤ 12 := fun b hb => by have := beach_many hb; omega
    refine Spec.of tok Try.func20 rfl rfl rfl fun n0 cx => vc_ok tok ?_
    repeat ((conv => whnf); first
        | (refine And.intro (by first | omega | exact Nat.le_of_ble_eq_true rfl | (dsimp only [inK]; omega) | (simp only [mulS_eq]; omega) | (simp only [mulS_eq, setL_length]; omega) | (simp only [setL_length, List.length_map]; omega) | exact ⟨by omega, by omega, by first | exact Nat.le_of_ble_eq_true rfl | (dsimp only; omega) | (simp only [setL_length]; omega) | (simp only [setL_length, List.length_map]; omega)⟩ | exact ⟨by omega, by first | rfl | omega, by omega, Nat.le_of_ble_eq_true rfl, Nat.le_of_ble_eq_true rfl⟩ | exact ⟨rfl, rfl, rfl, Nat.le_of_ble_eq_true rfl, by first | rfl | omega | exact Nat.le_of_ble_eq_true rfl | (dsimp only; omega) | (simp; done) | (simp; omega), by first | rfl | omega | exact Nat.le_of_ble_eq_true rfl | (dsimp only; omega) | (simp; done) | (simp; omega), by omega, Nat.le_of_ble_eq_true rfl⟩ | exact Eq.refl true) ?_)
        | (refine Exists.intro _ (And.intro rfl ?_))
        | (refine And.intro (And.intro rfl (chk_rowI _ _ _ _)) ?_)
        | (refine br_t (by omega) ?_)
        | (refine br_f (by omega) ?_)
        | (refine bs_t (by omega) ?_)
        | (refine bs_f (by omega) ?_)
        | (refine fun (K' : K3) hK' => ?_)
        | (refine hK' _ _ _ ?_; clear hK' K')
        | (refine CallM.eq (by kernel_rfl) (open_spec j hj _ _ hC) ?_)
        | (refine draw_auto tok mixed (by kernel_rfl) ?_)
        | (rw [hv])
        | (refine bs_bt (Eq.refl true) ?_)
        | (refine bs_bf (Eq.refl false) ?_)
        | (refine br_bt (Eq.refl true) ?_)
        | (refine br_bf (Eq.refl false) ?_)
        | (refine CallK.m ?_)
        | (refine And.intro (And.intro rfl rfl) ?_))
    refine Tri.loop (γ := Nat) (fun b => b ≤ j.length) (fun b => [(4, V.c (.sl 0 j.length)), (5, V.i 0), (6, V.i (sumZ b (beachF j))), (22, V.c (.sl 0 j.length)), (23, V.i j.length), (24, V.i (b : Nat))])
      (fun b => ⟨0, .ro 1, slsC 1 j⟩ :: entC 1 j) 32 (fun b => j.length - b) 0 (R0 := []) ?_ ?_ ?_
    · omega
    · skip
      refine ⟨?_, ?_, injB_ent (p := [_]) (by omega) rfl rfl, rfl, by first | exact Nat.le_of_ble_eq_true rfl | exact Nat.le_refl _ | omega⟩
      · repeat (first | exact trivial | refine And.intro (covS_syn (by first | rfl) rfl (by first | exact trivial | exact Nat.le_of_ble_eq_true rfl | exact hy | exact (fun p hp => nomatch hp) | (show (_ : Nat) < _; omega))) ?_ | refine And.intro (covS_bool rfl rfl (by first | rfl)) ?_)
      · repeat (first | exact trivial | (exact covL_ent (by omega) (fun k hk => by (try simp only [flatN]); (repeat (first | rw [find_skip (by omega)] | rw [find_hi (by omega) (by rfl)])))) | refine And.intro (covE_id (Nat.le_of_ble_eq_true rfl) (by first | exact wf_ints _ _ | exact wf_bools _ _ | first | exact wf_sls _ _ _ (by omega) | exact wf_jobs _ _ | exact fun c hc => wf_sls _ _ _ (by omega) c (List.mem_of_mem_take hc) | simp [C.wf]) rfl (by first | rfl)) ?_)
    · rintro b hb
      refine vc_ok tok ?_
      by_cases hbl : b < j.length
      · have hjl := jobC_len (j.getD b [])
        have hl12 := h12 b hbl
        have bd1 := sumZ_bd (n := b) (F := beachF j) (M := 12000000) (fun c hcb => beachF_bd hc h12 h6 (by omega))
        have bd1' := small_mul (n := b) (N := 6) (M := 12000000) (by omega) (by omega)
        repeat ((conv => whnf); first
            | (refine And.intro (by first | omega | exact Nat.le_of_ble_eq_true rfl | (dsimp only [inK]; omega) | (simp only [mulS_eq]; omega) | (simp only [mulS_eq, setL_length]; omega) | (simp only [setL_length, List.length_map]; omega) | exact ⟨by omega, by omega, by first | exact Nat.le_of_ble_eq_true rfl | (dsimp only; omega) | (simp only [setL_length]; omega) | (simp only [setL_length, List.length_map]; omega)⟩ | exact ⟨by omega, by first | rfl | omega, by omega, Nat.le_of_ble_eq_true rfl, Nat.le_of_ble_eq_true rfl⟩ | exact ⟨rfl, rfl, rfl, Nat.le_of_ble_eq_true rfl, by first | rfl | omega | exact Nat.le_of_ble_eq_true rfl | (dsimp only; omega) | (simp; done) | (simp; omega), by first | rfl | omega | exact Nat.le_of_ble_eq_true rfl | (dsimp only; omega) | (simp; done) | (simp; omega), by omega, Nat.le_of_ble_eq_true rfl⟩ | exact Eq.refl true) ?_)
            | (with_reducible refine ld (slL hbl) ?_)
            | (refine Exists.intro _ (And.intro rfl ?_))
            | (refine And.intro (And.intro rfl (chk_rowI _ _ _ _)) ?_)
            | (refine br_t (by omega) ?_)
            | (refine br_f (by omega) ?_)
            | (refine bs_t (by omega) ?_)
            | (refine bs_f (by omega) ?_)
            | (refine fun (K' : K3) hK' => ?_)
            | (refine hK' _ _ _ ?_; clear hK' K')
            | (refine draw_auto tok mixed (by kernel_rfl) ?_)
            | (refine bs_bt (Eq.refl true) ?_)
            | (refine bs_bf (Eq.refl false) ?_)
            | (refine br_bt (Eq.refl true) ?_)
            | (refine br_bf (Eq.refl false) ?_)
            | (refine CallK.m ?_)
            | (refine And.intro (And.intro rfl rfl) ?_))
        refine Tri.loop (γ := Nat) (fun i => i ≤ (j.getD b []).length) (fun i => [(4, V.c (.sl 0 j.length)), (5, V.i 0), (6, V.i (sumZ b (beachF j) + sumZ i (rowF j b))), (7, V.i (b : Nat)), (8, V.c (.sl (1 + b) (j.getD b []).length)), (22, V.c (.sl 0 j.length)), (23, V.i j.length), (24, V.i (b : Nat)), (29, V.c (.sl (1 + b) (j.getD b []).length)), (30, V.i (j.getD b []).length), (31, V.i (i : Nat))])
          (fun i => ⟨0, .ro 1, slsC 1 j⟩ :: entC 1 j) 32 (fun i => (j.getD b []).length - i) 0 (R0 := []) ?_ ?_ ?_
        · omega
        · skip
          refine ⟨?_, ?_, injB_ent (p := [_]) (by omega) rfl rfl, rfl, by first | exact Nat.le_of_ble_eq_true rfl | exact Nat.le_refl _ | omega⟩
          · repeat (first | exact trivial | refine And.intro (covS_syn (by first | rfl | (refine congrArg some (congrArg V.i ?_); exact (Int.add_zero _).symm)) rfl (by first | exact trivial | exact Nat.le_of_ble_eq_true rfl | exact hy | exact (fun p hp => nomatch hp) | (show (_ : Nat) < _; omega))) ?_ | refine And.intro (covS_bool rfl rfl (by first | rfl)) ?_)
          · repeat (first | exact trivial | (exact covL_ent (by omega) (fun k hk => by (try simp only [flatN]); (repeat (first | rw [find_skip (by omega)] | rw [find_hi (by omega) (by rfl)])))) | refine And.intro (covE_id (Nat.le_of_ble_eq_true rfl) (by first | exact wf_ints _ _ | exact wf_bools _ _ | first | exact wf_sls _ _ _ (by omega) | exact wf_jobs _ _ | exact fun c hc => wf_sls _ _ _ (by omega) c (List.mem_of_mem_take hc) | simp [C.wf]) rfl (by first | rfl)) ?_)
        · rintro i hi
          refine vc_ok tok ?_
          by_cases hil : i < (j.getD b []).length
          · have bd2 := sumZ_bd (n := i) (F := rowF j b) (M := 1000000) (fun i' hi' => rowF_bd hc h12 h6 hbl (by omega))
            have bd2' := small_mul (n := i) (N := 12) (M := 1000000) (by omega) (by omega)
            repeat ((conv => whnf); first
                | (refine And.intro (by first | omega | exact Nat.le_of_ble_eq_true rfl | (dsimp only [inK]; omega) | (simp only [mulS_eq]; omega) | (simp only [mulS_eq, setL_length]; omega) | (simp only [setL_length, List.length_map]; omega) | exact ⟨by omega, by omega, by first | exact Nat.le_of_ble_eq_true rfl | (dsimp only; omega) | (simp only [setL_length]; omega) | (simp only [setL_length, List.length_map]; omega)⟩ | exact ⟨by omega, by first | rfl | omega, by omega, Nat.le_of_ble_eq_true rfl, Nat.le_of_ble_eq_true rfl⟩ | exact ⟨rfl, rfl, rfl, Nat.le_of_ble_eq_true rfl, by first | rfl | omega | exact Nat.le_of_ble_eq_true rfl | (dsimp only; omega) | (simp; done) | (simp; omega), by first | rfl | omega | exact Nat.le_of_ble_eq_true rfl | (dsimp only; omega) | (simp; done) | (simp; omega), by omega, Nat.le_of_ble_eq_true rfl⟩ | exact Eq.refl true) ?_)
                | (with_reducible refine ld (jobT rfl hil) ?_)
                | (refine Exists.intro _ (And.intro rfl ?_))
                | (refine And.intro (And.intro rfl (chk_rowI _ _ _ _)) ?_)
                | (refine br_t (by omega) ?_)
                | (refine br_f (by omega) ?_)
                | (refine bs_t (by omega) ?_)
                | (refine bs_f (by omega) ?_)
                | (refine fun (K' : K3) hK' => ?_)
                | (refine hK' _ _ _ ?_; clear hK' K')
                | (refine draw_auto tok mixed (by kernel_rfl) ?_)
                | (refine onV_ld (c := ⟨1 + b, .ro 2, jobC (j.getD b [])⟩) (by ((try (conv => lhs; arg 1; whnf)); (repeat (first | rw [find_skip (by omega)] | rw [find_hi (by omega) (by rfl)])); exact entC_find hbl)) ?_)
                | (with_reducible refine updK_ent (by omega) ?_)
                | (refine bs_bt (Eq.refl true) ?_)
                | (refine bs_bf (Eq.refl false) ?_)
                | (refine br_bt (Eq.refl true) ?_)
                | (refine br_bf (Eq.refl false) ?_)
                | (refine CallK.m ?_)
                | (refine And.intro (And.intro rfl rfl) ?_))
            refine Tri.loop (γ := Nat) (fun k => i + k ≤ (j.getD b []).length) (fun k => [(4, V.c (.sl 0 j.length)), (5, V.i 0), (6, V.i (sumZ b (beachF j) + sumZ i (rowF j b) + sumZ k (tailF j b i))), (7, V.i (b : Nat)), (8, V.c (.sl (1 + b) (j.getD b []).length)), (10, V.c (.ptr 32 0)), (22, V.c (.sl 0 j.length)), (23, V.i j.length), (24, V.i (b : Nat)), (29, V.c (.sl (1 + b) (j.getD b []).length)), (30, V.i (j.getD b []).length), (31, V.i (i : Nat)), (38, V.c (.sl 33 ((j.getD b []).length - i))), (39, V.i ((j.getD b []).length - i : Nat)), (40, V.i (k : Nat))])
              (fun k => ⟨33, .ro 2, jobC ((j.getD b []).drop i)⟩ :: ⟨32, .own 47, [C.i (jobA j b i).1, C.i (jobA j b i).2]⟩ :: ⟨0, .ro 1, slsC 1 j⟩ :: entC 1 j) 34 (fun k => (j.getD b []).length - (i + k)) 0 (R0 := []) ?_ ?_ ?_
            · omega
            · skip
              refine ⟨?_, ?_, injB_ent (p := [_, _, _]) (by omega) rfl rfl, rfl, by first | exact Nat.le_of_ble_eq_true rfl | exact Nat.le_refl _ | omega⟩
              · repeat (first | exact trivial | refine And.intro (covS_syn (by first | rfl | (refine congrArg some (congrArg V.i ?_); exact (Int.add_zero _).symm) | (refine congrArg some (congrArg V.i ?_); omega)) rfl (by first | exact trivial | exact Nat.le_of_ble_eq_true rfl | exact hy | exact (fun p hp => nomatch hp) | (show (_ : Nat) < _; omega))) ?_ | refine And.intro (covS_bool rfl rfl (by first | rfl)) ?_)
              · repeat (first | exact trivial | (exact covL_ent (by omega) (fun k hk => by (try simp only [flatN]); (repeat (first | rw [find_skip (by omega)] | rw [find_hi (by omega) (by rfl)])))) | refine And.intro (covE_id (Nat.le_of_ble_eq_true rfl) (by first | exact wf_ints _ _ | exact wf_bools _ _ | first | exact wf_sls _ _ _ (by omega) | exact wf_jobs _ _ | exact fun c hc => wf_sls _ _ _ (by omega) c (List.mem_of_mem_take hc) | simp [C.wf]) rfl (by first | rfl | (exact jobC_td))) ?_)
            · rintro k hk
              refine vc_ok tok ?_
              have hdl : (jobC ((j.getD b []).drop i)).length = 2 * ((j.getD b []).length - i) := by rw [jobC_len]; simp
              have bd3 := sumZ_bd (n := k) (F := tailF j b i) (M := 10000) (fun k' hk' => tailF_bd hc hbl (by omega))
              have bd3' := small_mul (n := k) (N := 12) (M := 10000) (by omega) (by omega)
              by_cases hkl : i + k < (j.getD b []).length
              · have ht : 0 ≤ (jobA j b i).1 * ((j.getD b []).getD (i + k) (0, 0)).2 ∧ (jobA j b i).1 * ((j.getD b []).getD (i + k) (0, 0)).2 ≤ 10000 := tailF_bd hc hbl hkl
                repeat ((conv => whnf); first
                    | (refine And.intro (by first | omega | exact Nat.le_of_ble_eq_true rfl | (dsimp only [inK]; omega) | (simp only [mulS_eq]; omega) | (simp only [mulS_eq, setL_length]; omega) | (simp only [setL_length, List.length_map]; omega) | exact ⟨by omega, by omega, by first | exact Nat.le_of_ble_eq_true rfl | (dsimp only; omega) | (simp only [setL_length]; omega) | (simp only [setL_length, List.length_map]; omega)⟩ | exact ⟨by omega, by first | rfl | omega, by omega, Nat.le_of_ble_eq_true rfl, Nat.le_of_ble_eq_true rfl⟩ | exact ⟨rfl, rfl, rfl, Nat.le_of_ble_eq_true rfl, by first | rfl | omega | exact Nat.le_of_ble_eq_true rfl | (dsimp only; omega) | (simp; done) | (simp; omega), by first | rfl | omega | exact Nat.le_of_ble_eq_true rfl | (dsimp only; omega) | (simp; done) | (simp; omega), by omega, Nat.le_of_ble_eq_true rfl⟩ | exact Eq.refl true) ?_)
                    | (with_reducible refine ld (jobTd rfl hkl) ?_)
                    | (refine Exists.intro _ (And.intro rfl ?_))
                    | (refine And.intro (And.intro rfl (chk_rowI _ _ _ _)) ?_)
                    | (refine br_t (by omega) ?_)
                    | (refine br_f (by omega) ?_)
                    | (refine bs_t (by omega) ?_)
                    | (refine bs_f (by omega) ?_)
                    | (refine fun (K' : K3) hK' => ?_)
                    | (refine hK' _ _ _ ?_; clear hK' K')
                    | (refine draw_auto tok mixed (by kernel_rfl) ?_)
                    | (with_reducible refine updK_ent (by omega) ?_)
                    | (refine bs_bt (Eq.refl true) ?_)
                    | (refine bs_bf (Eq.refl false) ?_)
                    | (refine br_bt (Eq.refl true) ?_)
                    | (refine br_bf (Eq.refl false) ?_)
                    | (refine CallK.m ?_)
                    | (refine And.intro (And.intro rfl rfl) ?_))
                refine ⟨k + 1, [], by omega, by omega, ?_⟩
                refine ⟨?_, ?_, injB_ent (p := [_, _, _]) (by omega) rfl rfl, rfl, by first | exact Nat.le_of_ble_eq_true rfl | exact Nat.le_refl _ | omega⟩
                · repeat (first | exact trivial | refine And.intro (covS_syn (by first | rfl | (refine congrArg some (congrArg V.i ?_); (rw [sumZ, tailF, ← Int.add_assoc]; rfl)) | (refine congrArg some (congrArg V.i ?_); omega)) rfl (by first | exact trivial | exact Nat.le_of_ble_eq_true rfl | exact hy | exact (fun p hp => nomatch hp) | (show (_ : Nat) < _; omega))) ?_ | refine And.intro (covS_bool rfl rfl (by first | rfl)) ?_)
                · repeat (first | exact trivial | (exact covL_ent (by omega) (fun k hk => by (try simp only [flatN]); (repeat (first | rw [find_skip (by omega)] | rw [find_hi (by omega) (by rfl)])))) | refine And.intro (covE_id (Nat.le_of_ble_eq_true rfl) (by first | exact wf_ints _ _ | exact wf_bools _ _ | first | exact wf_sls _ _ _ (by omega) | exact wf_jobs _ _ | exact fun c hc => wf_sls _ _ _ (by omega) c (List.mem_of_mem_take hc) | simp [C.wf]) rfl (by first | rfl)) ?_)
              · have hke : k = (j.getD b []).length - i := by omega
                subst hke
                repeat ((conv => whnf); first
                    | (refine And.intro (by first | omega | exact Nat.le_of_ble_eq_true rfl | (dsimp only [inK]; omega) | (simp only [mulS_eq]; omega) | (simp only [mulS_eq, setL_length]; omega) | (simp only [setL_length, List.length_map]; omega) | exact ⟨by omega, by omega, by first | exact Nat.le_of_ble_eq_true rfl | (dsimp only; omega) | (simp only [setL_length]; omega) | (simp only [setL_length, List.length_map]; omega)⟩ | exact ⟨by omega, by first | rfl | omega, by omega, Nat.le_of_ble_eq_true rfl, Nat.le_of_ble_eq_true rfl⟩ | exact ⟨rfl, rfl, rfl, Nat.le_of_ble_eq_true rfl, by first | rfl | omega | exact Nat.le_of_ble_eq_true rfl | (dsimp only; omega) | (simp; done) | (simp; omega), by first | rfl | omega | exact Nat.le_of_ble_eq_true rfl | (dsimp only; omega) | (simp; done) | (simp; omega), by omega, Nat.le_of_ble_eq_true rfl⟩ | exact Eq.refl true) ?_)
                    | (refine Exists.intro _ (And.intro rfl ?_))
                    | (refine And.intro (And.intro rfl (chk_rowI _ _ _ _)) ?_)
                    | (refine br_t (by omega) ?_)
                    | (refine br_f (by omega) ?_)
                    | (refine bs_t (by omega) ?_)
                    | (refine bs_f (by omega) ?_)
                    | (refine fun (K' : K3) hK' => ?_)
                    | (refine hK' _ _ _ ?_; clear hK' K')
                    | (refine draw_auto tok mixed (by kernel_rfl) ?_)
                    | (refine bs_bt (Eq.refl true) ?_)
                    | (refine bs_bf (Eq.refl false) ?_)
                    | (refine br_bt (Eq.refl true) ?_)
                    | (refine br_bf (Eq.refl false) ?_)
                    | (refine CallK.m ?_)
                    | (refine And.intro (And.intro rfl rfl) ?_))
                refine Tri.loop (γ := Nat) (fun q => q ≤ b) (fun q => [(4, V.c (.sl 0 j.length)), (5, V.i 0), (6, V.i (sumZ b (beachF j) + sumZ i (rowF j b) + sumZ ((j.getD b []).length - i) (tailF j b i) + sumZ q (pairF j b i))), (7, V.i (b : Nat)), (8, V.c (.sl (1 + b) (j.getD b []).length)), (10, V.c (.ptr 32 0)), (22, V.c (.sl 0 j.length)), (23, V.i j.length), (24, V.i (b : Nat)), (29, V.c (.sl (1 + b) (j.getD b []).length)), (30, V.i (j.getD b []).length), (31, V.i (i : Nat)), (54, V.c (.sl 0 b)), (55, V.i (b : Nat)), (56, V.i (q : Nat))])
                  (fun q => ⟨32, .own 47, [C.i (jobA j b i).1, C.i (jobA j b i).2]⟩ :: ⟨0, .ro 1, slsC 1 j⟩ :: entC 1 j) 34 (fun q => b - q) 0 (R0 := []) ?_ ?_ ?_
                · omega
                · skip
                  refine ⟨?_, ?_, injB_ent (p := [_, _]) (by omega) rfl rfl, rfl, by first | exact Nat.le_of_ble_eq_true rfl | exact Nat.le_refl _ | omega⟩
                  · repeat (first | exact trivial | refine And.intro (covS_syn (by first | rfl | (refine congrArg some (congrArg V.i ?_); exact (Int.add_zero _).symm) | (refine congrArg some (congrArg V.i ?_); omega)) rfl (by first | exact trivial | exact Nat.le_of_ble_eq_true rfl | exact hy | exact (fun p hp => nomatch hp) | (show (_ : Nat) < _; omega))) ?_ | refine And.intro (covS_bool rfl rfl (by first | rfl)) ?_)
                  · repeat (first | exact trivial | (exact covL_ent (by omega) (fun k hk => by (try simp only [flatN]); (repeat (first | rw [find_skip (by omega)] | rw [find_hi (by omega) (by rfl)])))) | refine And.intro (covE_id (Nat.le_of_ble_eq_true rfl) (by first | exact wf_ints _ _ | exact wf_bools _ _ | first | exact wf_sls _ _ _ (by omega) | exact wf_jobs _ _ | exact fun c hc => wf_sls _ _ _ (by omega) c (List.mem_of_mem_take hc) | simp [C.wf]) rfl (by first | rfl)) ?_)
                · rintro q hq
                  refine vc_ok tok ?_
                  have bd4 := sumZ_bd (n := q) (F := pairF j b i) (M := 120000) (fun c hcb => pairF_bd hc h12 hbl hil (by omega))
                  have bd4' := small_mul (n := q) (N := 6) (M := 120000) (by omega) (by omega)
                  by_cases hqb : q < b
                  · have hql : q < j.length := by omega
                    have hq12 := h12 q hql
                    have hjq := jobC_len (j.getD q [])
                    repeat ((conv => whnf); first
                        | (refine And.intro (by first | omega | exact Nat.le_of_ble_eq_true rfl | (dsimp only [inK]; omega) | (simp only [mulS_eq]; omega) | (simp only [mulS_eq, setL_length]; omega) | (simp only [setL_length, List.length_map]; omega) | exact ⟨by omega, by omega, by first | exact Nat.le_of_ble_eq_true rfl | (dsimp only; omega) | (simp only [setL_length]; omega) | (simp only [setL_length, List.length_map]; omega)⟩ | exact ⟨by omega, by first | rfl | omega, by omega, Nat.le_of_ble_eq_true rfl, Nat.le_of_ble_eq_true rfl⟩ | exact ⟨rfl, rfl, rfl, Nat.le_of_ble_eq_true rfl, by first | rfl | omega | exact Nat.le_of_ble_eq_true rfl | (dsimp only; omega) | (simp; done) | (simp; omega), by first | rfl | omega | exact Nat.le_of_ble_eq_true rfl | (dsimp only; omega) | (simp; done) | (simp; omega), by omega, Nat.le_of_ble_eq_true rfl⟩ | exact Eq.refl true) ?_)
                        | (with_reducible refine ld (slL hql) ?_)
                        | (refine Exists.intro _ (And.intro rfl ?_))
                        | (refine And.intro (And.intro rfl (chk_rowI _ _ _ _)) ?_)
                        | (refine br_t (by omega) ?_)
                        | (refine br_f (by omega) ?_)
                        | (refine bs_t (by omega) ?_)
                        | (refine bs_f (by omega) ?_)
                        | (refine fun (K' : K3) hK' => ?_)
                        | (refine hK' _ _ _ ?_; clear hK' K')
                        | (refine draw_auto tok mixed (by kernel_rfl) ?_)
                        | (refine bs_bt (Eq.refl true) ?_)
                        | (refine bs_bf (Eq.refl false) ?_)
                        | (refine br_bt (Eq.refl true) ?_)
                        | (refine br_bf (Eq.refl false) ?_)
                        | (refine CallK.m ?_)
                        | (refine And.intro (And.intro rfl rfl) ?_))
                    refine Tri.loop (γ := Nat) (fun p => p ≤ (j.getD q []).length) (fun p => [(4, V.c (.sl 0 j.length)), (5, V.i 0), (6, V.i (sumZ b (beachF j) + sumZ i (rowF j b) + sumZ ((j.getD b []).length - i) (tailF j b i) + sumZ q (pairF j b i) + sumZ p (minF j b i q))), (7, V.i (b : Nat)), (8, V.c (.sl (1 + b) (j.getD b []).length)), (10, V.c (.ptr 32 0)), (22, V.c (.sl 0 j.length)), (23, V.i j.length), (24, V.i (b : Nat)), (29, V.c (.sl (1 + b) (j.getD b []).length)), (30, V.i (j.getD b []).length), (31, V.i (i : Nat)), (54, V.c (.sl 0 b)), (55, V.i (b : Nat)), (56, V.i (q : Nat)), (60, V.c (.sl (1 + q) (j.getD q []).length)), (61, V.i (j.getD q []).length), (62, V.i (p : Nat))])
                      (fun p => ⟨32, .own 47, [C.i (jobA j b i).1, C.i (jobA j b i).2]⟩ :: ⟨0, .ro 1, slsC 1 j⟩ :: entC 1 j) 34 (fun p => (j.getD q []).length - p) 0 (R0 := []) ?_ ?_ ?_
                    · omega
                    · skip
                      refine ⟨?_, ?_, injB_ent (p := [_, _]) (by omega) rfl rfl, rfl, by first | exact Nat.le_of_ble_eq_true rfl | exact Nat.le_refl _ | omega⟩
                      · repeat (first | exact trivial | refine And.intro (covS_syn (by first | rfl | (refine congrArg some (congrArg V.i ?_); exact (Int.add_zero _).symm)) rfl (by first | exact trivial | exact Nat.le_of_ble_eq_true rfl | exact hy | exact (fun p hp => nomatch hp) | (show (_ : Nat) < _; omega))) ?_ | refine And.intro (covS_bool rfl rfl (by first | rfl)) ?_)
                      · repeat (first | exact trivial | (exact covL_ent (by omega) (fun k hk => by (try simp only [flatN]); (repeat (first | rw [find_skip (by omega)] | rw [find_hi (by omega) (by rfl)])))) | refine And.intro (covE_id (Nat.le_of_ble_eq_true rfl) (by first | exact wf_ints _ _ | exact wf_bools _ _ | first | exact wf_sls _ _ _ (by omega) | exact wf_jobs _ _ | exact fun c hc => wf_sls _ _ _ (by omega) c (List.mem_of_mem_take hc) | simp [C.wf]) rfl (by first | rfl)) ?_)
                    · rintro p hp
                      refine vc_ok tok ?_
                      have bd5 := sumZ_bd (n := p) (F := minF j b i q) (M := 10000) (fun k' hk' => minF_bd hc hbl hil hql (by omega))
                      have bd5' := small_mul (n := p) (N := 12) (M := 10000) (by omega) (by omega)
                      by_cases hpl : p < (j.getD q []).length
                      · have g1 := jobA_bd hc hbl hil
                        have g2 := jobA_bd hc hql hpl
                        have p1 : 0 ≤ ((j.getD q []).getD p (0, 0)).1 * (jobA j b i).2 ∧ ((j.getD q []).getD p (0, 0)).1 * (jobA j b i).2 ≤ 100 * 100 := mul_bd (a := (jobA j q p).1) (b := (jobA j b i).2) (A := 100) (B := 100) (by omega) g2.2.1 g1.2.2.1 g1.2.2.2
                        have p2 : 0 ≤ (jobA j b i).1 * ((j.getD q []).getD p (0, 0)).2 ∧ (jobA j b i).1 * ((j.getD q []).getD p (0, 0)).2 ≤ 100 * 100 := mul_bd (a := (jobA j b i).1) (b := (jobA j q p).2) (A := 100) (B := 100) (by omega) g1.2.1 g2.2.2.1 g2.2.2.2
                        have hmn : 0 ≤ (if ((j.getD q []).getD p (0, 0)).1 * (jobA j b i).2 < (jobA j b i).1 * ((j.getD q []).getD p (0, 0)).2 then ((j.getD q []).getD p (0, 0)).1 * (jobA j b i).2 else (jobA j b i).1 * ((j.getD q []).getD p (0, 0)).2) ∧ (if ((j.getD q []).getD p (0, 0)).1 * (jobA j b i).2 < (jobA j b i).1 * ((j.getD q []).getD p (0, 0)).2 then ((j.getD q []).getD p (0, 0)).1 * (jobA j b i).2 else (jobA j b i).1 * ((j.getD q []).getD p (0, 0)).2) ≤ 10000 := minF_bd hc hbl hil hql hpl
                        repeat ((conv => whnf); first
                            | (refine And.intro (by first | omega | exact Nat.le_of_ble_eq_true rfl | (dsimp only [inK]; omega) | (simp only [mulS_eq]; omega) | (simp only [mulS_eq, setL_length]; omega) | (simp only [setL_length, List.length_map]; omega) | exact ⟨by omega, by omega, by first | exact Nat.le_of_ble_eq_true rfl | (dsimp only; omega) | (simp only [setL_length]; omega) | (simp only [setL_length, List.length_map]; omega)⟩ | exact ⟨by omega, by first | rfl | omega, by omega, Nat.le_of_ble_eq_true rfl, Nat.le_of_ble_eq_true rfl⟩ | exact ⟨rfl, rfl, rfl, Nat.le_of_ble_eq_true rfl, by first | rfl | omega | exact Nat.le_of_ble_eq_true rfl | (dsimp only; omega) | (simp; done) | (simp; omega), by first | rfl | omega | exact Nat.le_of_ble_eq_true rfl | (dsimp only; omega) | (simp; done) | (simp; omega), by omega, Nat.le_of_ble_eq_true rfl⟩ | exact Eq.refl true) ?_)
                            | (with_reducible refine ld (jobT rfl hpl) ?_)
                            | (refine Exists.intro _ (And.intro rfl ?_))
                            | (refine And.intro (And.intro rfl (chk_rowI _ _ _ _)) ?_)
                            | (refine br_t (by omega) ?_)
                            | (refine br_f (by omega) ?_)
                            | (refine bs_t (by omega) ?_)
                            | (refine bs_f (by omega) ?_)
                            | (refine fun (K' : K3) hK' => ?_)
                            | (refine hK' _ _ _ ?_; clear hK' K')
                            | (refine draw_auto tok mixed (by kernel_rfl) ?_)
                            | (refine onV_ld (c := ⟨1 + q, .ro 2, jobC (j.getD q [])⟩) (by ((try (conv => lhs; arg 1; whnf)); (repeat (first | rw [find_skip (by omega)] | rw [find_hi (by omega) (by rfl)])); exact entC_find hql)) ?_)
                            | (with_reducible refine updK_ent (by omega) ?_)
                            | (refine bs_bt (Eq.refl true) ?_)
                            | (refine bs_bf (Eq.refl false) ?_)
                            | (refine br_bt (Eq.refl true) ?_)
                            | (refine br_bf (Eq.refl false) ?_)
                            | (refine CallK.m ?_)
                            | (refine And.intro (And.intro rfl rfl) ?_))
                        refine ⟨p + 1, [], by omega, by omega, ?_⟩
                        refine ⟨?_, ?_, injB_ent (p := [_, _]) (by omega) rfl rfl, rfl, by first | exact Nat.le_of_ble_eq_true rfl | exact Nat.le_refl _ | omega⟩
                        · repeat (first | exact trivial | refine And.intro (covS_syn (by first | rfl | (refine congrArg some (congrArg V.i ?_); (rw [sumZ, minF, ← Int.add_assoc]; rfl)) | (refine congrArg some (congrArg V.i ?_); omega)) rfl (by first | exact trivial | exact Nat.le_of_ble_eq_true rfl | exact hy | exact (fun p hp => nomatch hp) | (show (_ : Nat) < _; omega))) ?_ | refine And.intro (covS_bool rfl rfl (by first | rfl)) ?_)
                        · repeat (first | exact trivial | (exact covL_ent (by omega) (fun k hk => by (try simp only [flatN]); (repeat (first | rw [find_skip (by omega)] | rw [find_hi (by omega) (by rfl)])))) | refine And.intro (covE_id (Nat.le_of_ble_eq_true rfl) (by first | exact wf_ints _ _ | exact wf_bools _ _ | first | exact wf_sls _ _ _ (by omega) | exact wf_jobs _ _ | exact fun c hc => wf_sls _ _ _ (by omega) c (List.mem_of_mem_take hc) | simp [C.wf]) rfl (by first | rfl)) ?_)
                      · have hpe : p = (j.getD q []).length := by omega
                        subst hpe
                        repeat ((conv => whnf); first
                            | (refine And.intro (by first | omega | exact Nat.le_of_ble_eq_true rfl | (dsimp only [inK]; omega) | (simp only [mulS_eq]; omega) | (simp only [mulS_eq, setL_length]; omega) | (simp only [setL_length, List.length_map]; omega) | exact ⟨by omega, by omega, by first | exact Nat.le_of_ble_eq_true rfl | (dsimp only; omega) | (simp only [setL_length]; omega) | (simp only [setL_length, List.length_map]; omega)⟩ | exact ⟨by omega, by first | rfl | omega, by omega, Nat.le_of_ble_eq_true rfl, Nat.le_of_ble_eq_true rfl⟩ | exact ⟨rfl, rfl, rfl, Nat.le_of_ble_eq_true rfl, by first | rfl | omega | exact Nat.le_of_ble_eq_true rfl | (dsimp only; omega) | (simp; done) | (simp; omega), by first | rfl | omega | exact Nat.le_of_ble_eq_true rfl | (dsimp only; omega) | (simp; done) | (simp; omega), by omega, Nat.le_of_ble_eq_true rfl⟩ | exact Eq.refl true) ?_)
                            | (refine Exists.intro _ (And.intro rfl ?_))
                            | (refine And.intro (And.intro rfl (chk_rowI _ _ _ _)) ?_)
                            | (refine br_t (by omega) ?_)
                            | (refine br_f (by omega) ?_)
                            | (refine bs_t (by omega) ?_)
                            | (refine bs_f (by omega) ?_)
                            | (refine fun (K' : K3) hK' => ?_)
                            | (refine hK' _ _ _ ?_; clear hK' K')
                            | (refine draw_auto tok mixed (by kernel_rfl) ?_)
                            | (refine bs_bt (Eq.refl true) ?_)
                            | (refine bs_bf (Eq.refl false) ?_)
                            | (refine br_bt (Eq.refl true) ?_)
                            | (refine br_bf (Eq.refl false) ?_)
                            | (refine CallK.m ?_)
                            | (refine And.intro (And.intro rfl rfl) ?_))
                        refine ⟨q + 1, [], by omega, by omega, ?_⟩
                        refine ⟨?_, ?_, injB_ent (p := [_, _]) (by omega) rfl rfl, rfl, by first | exact Nat.le_of_ble_eq_true rfl | exact Nat.le_refl _ | omega⟩
                        · repeat (first | exact trivial | refine And.intro (covS_syn (by first | rfl | (refine congrArg some (congrArg V.i ?_); (rw [sumZ, pairF, ← Int.add_assoc])) | (refine congrArg some (congrArg V.i ?_); omega)) rfl (by first | exact trivial | exact Nat.le_of_ble_eq_true rfl | exact hy | exact (fun p hp => nomatch hp) | (show (_ : Nat) < _; omega))) ?_ | refine And.intro (covS_bool rfl rfl (by first | rfl)) ?_)
                        · repeat (first | exact trivial | (exact covL_ent (by omega) (fun k hk => by (try simp only [flatN]); (repeat (first | rw [find_skip (by omega)] | rw [find_hi (by omega) (by rfl)])))) | refine And.intro (covE_id (Nat.le_of_ble_eq_true rfl) (by first | exact wf_ints _ _ | exact wf_bools _ _ | first | exact wf_sls _ _ _ (by omega) | exact wf_jobs _ _ | exact fun c hc => wf_sls _ _ _ (by omega) c (List.mem_of_mem_take hc) | simp [C.wf]) rfl (by first | rfl)) ?_)
                  · have hqe : q = b := by omega
                    subst hqe
                    repeat ((conv => whnf); first
                        | (refine And.intro (by first | omega | exact Nat.le_of_ble_eq_true rfl | (dsimp only [inK]; omega) | (simp only [mulS_eq]; omega) | (simp only [mulS_eq, setL_length]; omega) | (simp only [setL_length, List.length_map]; omega) | exact ⟨by omega, by omega, by first | exact Nat.le_of_ble_eq_true rfl | (dsimp only; omega) | (simp only [setL_length]; omega) | (simp only [setL_length, List.length_map]; omega)⟩ | exact ⟨by omega, by first | rfl | omega, by omega, Nat.le_of_ble_eq_true rfl, Nat.le_of_ble_eq_true rfl⟩ | exact ⟨rfl, rfl, rfl, Nat.le_of_ble_eq_true rfl, by first | rfl | omega | exact Nat.le_of_ble_eq_true rfl | (dsimp only; omega) | (simp; done) | (simp; omega), by first | rfl | omega | exact Nat.le_of_ble_eq_true rfl | (dsimp only; omega) | (simp; done) | (simp; omega), by omega, Nat.le_of_ble_eq_true rfl⟩ | exact Eq.refl true) ?_)
                        | (refine Exists.intro _ (And.intro rfl ?_))
                        | (refine And.intro (And.intro rfl (chk_rowI _ _ _ _)) ?_)
                        | (refine br_t (by omega) ?_)
                        | (refine br_f (by omega) ?_)
                        | (refine bs_t (by omega) ?_)
                        | (refine bs_f (by omega) ?_)
                        | (refine fun (K' : K3) hK' => ?_)
                        | (refine hK' _ _ _ ?_; clear hK' K')
                        | (refine draw_auto tok mixed (by kernel_rfl) ?_)
                        | (refine bs_bt (Eq.refl true) ?_)
                        | (refine bs_bf (Eq.refl false) ?_)
                        | (refine br_bt (Eq.refl true) ?_)
                        | (refine br_bf (Eq.refl false) ?_)
                        | (refine CallK.m ?_)
                        | (refine And.intro (And.intro rfl rfl) ?_))
                    refine ⟨i + 1, [], by omega, by omega, ?_⟩
                    refine ⟨?_, ?_, injB_ent (p := [_]) (by omega) rfl rfl, rfl, by first | exact Nat.le_of_ble_eq_true rfl | exact Nat.le_refl _ | omega⟩
                    · repeat (first | exact trivial | refine And.intro (covS_syn (by first | rfl | (refine congrArg some (congrArg V.i ?_); (rw [sumZ, rowF, ← Int.add_assoc, ← Int.add_assoc])) | (refine congrArg some (congrArg V.i ?_); omega)) rfl (by first | exact trivial | exact Nat.le_of_ble_eq_true rfl | exact hy | exact (fun p hp => nomatch hp) | (show (_ : Nat) < _; omega))) ?_ | refine And.intro (covS_bool rfl rfl (by first | rfl)) ?_)
                    · repeat (first | exact trivial | (exact covL_ent (by omega) (fun k hk => by (try simp only [flatN]); (repeat (first | rw [find_skip (by omega)] | rw [find_hi (by omega) (by rfl)])))) | refine And.intro (covE_id (Nat.le_of_ble_eq_true rfl) (by first | exact wf_ints _ _ | exact wf_bools _ _ | first | exact wf_sls _ _ _ (by omega) | exact wf_jobs _ _ | exact fun c hc => wf_sls _ _ _ (by omega) c (List.mem_of_mem_take hc) | simp [C.wf]) rfl (by first | rfl)) ?_)
          · have hie : i = (j.getD b []).length := by omega
            subst hie
            repeat ((conv => whnf); first
                | (refine And.intro (by first | omega | exact Nat.le_of_ble_eq_true rfl | (dsimp only [inK]; omega) | (simp only [mulS_eq]; omega) | (simp only [mulS_eq, setL_length]; omega) | (simp only [setL_length, List.length_map]; omega) | exact ⟨by omega, by omega, by first | exact Nat.le_of_ble_eq_true rfl | (dsimp only; omega) | (simp only [setL_length]; omega) | (simp only [setL_length, List.length_map]; omega)⟩ | exact ⟨by omega, by first | rfl | omega, by omega, Nat.le_of_ble_eq_true rfl, Nat.le_of_ble_eq_true rfl⟩ | exact ⟨rfl, rfl, rfl, Nat.le_of_ble_eq_true rfl, by first | rfl | omega | exact Nat.le_of_ble_eq_true rfl | (dsimp only; omega) | (simp; done) | (simp; omega), by first | rfl | omega | exact Nat.le_of_ble_eq_true rfl | (dsimp only; omega) | (simp; done) | (simp; omega), by omega, Nat.le_of_ble_eq_true rfl⟩ | exact Eq.refl true) ?_)
                | (refine Exists.intro _ (And.intro rfl ?_))
                | (refine And.intro (And.intro rfl (chk_rowI _ _ _ _)) ?_)
                | (refine br_t (by omega) ?_)
                | (refine br_f (by omega) ?_)
                | (refine bs_t (by omega) ?_)
                | (refine bs_f (by omega) ?_)
                | (refine fun (K' : K3) hK' => ?_)
                | (refine hK' _ _ _ ?_; clear hK' K')
                | (refine draw_auto tok mixed (by kernel_rfl) ?_)
                | (refine bs_bt (Eq.refl true) ?_)
                | (refine bs_bf (Eq.refl false) ?_)
                | (refine br_bt (Eq.refl true) ?_)
                | (refine br_bf (Eq.refl false) ?_)
                | (refine CallK.m ?_)
                | (refine And.intro (And.intro rfl rfl) ?_))
            refine ⟨b + 1, [], by omega, by omega, ?_⟩
            refine ⟨?_, ?_, injB_ent (p := [_]) (by omega) rfl rfl, rfl, by first | exact Nat.le_of_ble_eq_true rfl | exact Nat.le_refl _ | omega⟩
            · repeat (first | exact trivial | refine And.intro (covS_syn (by first | rfl | (refine congrArg some (congrArg V.i ?_); (rw [sumZ, beachF])) | (refine congrArg some (congrArg V.i ?_); omega)) rfl (by first | exact trivial | exact Nat.le_of_ble_eq_true rfl | exact hy | exact (fun p hp => nomatch hp) | (show (_ : Nat) < _; omega))) ?_ | refine And.intro (covS_bool rfl rfl (by first | rfl)) ?_)
            · repeat (first | exact trivial | (exact covL_ent (by omega) (fun k hk => by (try simp only [flatN]); (repeat (first | rw [find_skip (by omega)] | rw [find_hi (by omega) (by rfl)])))) | refine And.intro (covE_id (Nat.le_of_ble_eq_true rfl) (by first | exact wf_ints _ _ | exact wf_bools _ _ | first | exact wf_sls _ _ _ (by omega) | exact wf_jobs _ _ | exact fun c hc => wf_sls _ _ _ (by omega) c (List.mem_of_mem_take hc) | simp [C.wf]) rfl (by first | rfl)) ?_)
      · have hbe : b = j.length := by omega
        subst hbe
        repeat ((conv => whnf); first
            | (refine And.intro (by first | omega | exact Nat.le_of_ble_eq_true rfl | (dsimp only [inK]; omega) | (simp only [mulS_eq]; omega) | (simp only [mulS_eq, setL_length]; omega) | (simp only [setL_length, List.length_map]; omega) | exact ⟨by omega, by omega, by first | exact Nat.le_of_ble_eq_true rfl | (dsimp only; omega) | (simp only [setL_length]; omega) | (simp only [setL_length, List.length_map]; omega)⟩ | exact ⟨by omega, by first | rfl | omega, by omega, Nat.le_of_ble_eq_true rfl, Nat.le_of_ble_eq_true rfl⟩ | exact ⟨rfl, rfl, rfl, Nat.le_of_ble_eq_true rfl, by first | rfl | omega | exact Nat.le_of_ble_eq_true rfl | (dsimp only; omega) | (simp; done) | (simp; omega), by first | rfl | omega | exact Nat.le_of_ble_eq_true rfl | (dsimp only; omega) | (simp; done) | (simp; omega), by omega, Nat.le_of_ble_eq_true rfl⟩ | exact Eq.refl true) ?_)
            | (refine Exists.intro _ (And.intro rfl ?_))
            | (refine And.intro (And.intro rfl (chk_rowI _ _ _ _)) ?_)
            | (refine br_t (by omega) ?_)
            | (refine br_f (by omega) ?_)
            | (refine bs_t (by omega) ?_)
            | (refine bs_f (by omega) ?_)
            | (refine fun (K' : K3) hK' => ?_)
            | (refine hK' _ _ _ ?_; clear hK' K')
            | (refine draw_auto tok mixed (by kernel_rfl) ?_)
            | (refine bs_bt (Eq.refl true) ?_)
            | (refine bs_bf (Eq.refl false) ?_)
            | (refine br_bt (Eq.refl true) ?_)
            | (refine br_bf (Eq.refl false) ?_)
            | (refine CallK.m ?_)
            | (refine And.intro (And.intro rfl rfl) ?_))
        intro ρ; rfl
end Go.Proofs.Ytjijjncddjkdlaa

/- Jobs left out at the end of a beach: the least harm and the bound are not greater. Plain law. -/
namespace Go.Proofs.Ytjijjncddjkdlaa
open Go.RowKit
set_option linter.unusedVariables false
set_option linter.unusedSimpArgs false
/-- A coast where of one beach the first jobs are kept. -/
def lessJ (j : Coast) (b n : Nat) : Coast := j.set b ((j.getD b []).take n)
theorem lessJ_len {j : Coast} {b n : Nat} : (lessJ j b n).length = j.length := by simp [lessJ]
theorem lessJ_get {j : Coast} {b n c : Nat} (hb : b < j.length) : (lessJ j b n).getD c [] = if c = b then (j.getD b []).take n else j.getD c [] := by
  unfold lessJ
  simp only [List.getD_eq_getElem?_getD, List.getElem?_set]
  by_cases h : c = b
  · subst h; simp [hb]
  · rw [if_neg (fun e => h e.symm), if_neg h]
theorem lessJ_le {j : Coast} {b n c : Nat} (hb : b < j.length) : ((lessJ j b n).getD c []).length ≤ (j.getD c []).length := by
  rw [lessJ_get hb]; split
  · next h => subst h; rw [List.length_take]; omega
  · exact Nat.le_refl _
theorem lessJ_job {j : Coast} {b n c i : Nat} (hb : b < j.length) (hi : i < ((lessJ j b n).getD c []).length) : jobA (lessJ j b n) c i = jobA j c i := by
  unfold jobA
  rw [lessJ_get hb] at *
  split
  · next h =>
    subst h
    rw [if_pos rfl, List.length_take] at hi
    simp only [List.getD_eq_getElem?_getD, List.getElem?_take]
    rw [if_pos (by omega)]
  · rfl
/-- An order that keeps the first n of a beach. -/
def keepN (b : Nat) : Nat → List Nat → List Nat
  | _, [] => []
  | 0, c :: o => if c = b then keepN b 0 o else c :: keepN b 0 o
  | n + 1, c :: o => if c = b then c :: keepN b n o else c :: keepN b (n + 1) o
theorem keepN_mem {b : Nat} : ∀ {n : Nat} {o : List Nat} {x : Nat}, x ∈ keepN b n o → x ∈ o
  | _, [], x, h => by simp [keepN] at h
  | 0, c :: o, x, h => by
    simp only [keepN] at h
    split at h
    · exact List.mem_cons_of_mem _ (keepN_mem h)
    · rcases List.mem_cons.1 h with rfl | h
      · simp
      · exact List.mem_cons_of_mem _ (keepN_mem h)
  | n + 1, c :: o, x, h => by
    simp only [keepN] at h
    split at h
    all_goals
      rcases List.mem_cons.1 h with rfl | h
      · simp
      · exact List.mem_cons_of_mem _ (keepN_mem h)
theorem keepN_count {b : Nat} : ∀ {n : Nat} {o : List Nat} (c : Nat), (keepN b n o).count c = if c = b then min n (o.count b) else o.count c
  | _, [], c => by simp [keepN]
  | 0, d :: o, c => by
    have ih := keepN_count (b := b) (n := 0) (o := o) c
    simp only [keepN]
    by_cases hd : d = b
    · subst hd
      rw [if_pos rfl, ih]
      by_cases hc : c = d
      · simp [hc]
      · rw [if_neg hc, if_neg hc, List.count_cons_of_ne (fun e => hc e.symm)]
    · rw [if_neg hd, List.count_cons, ih]
      by_cases hc : c = b
      · subst hc
        have : (d == c) = false := by simpa using hd
        simp [this]
      · rw [if_neg hc, if_neg hc, List.count_cons]
  | n + 1, d :: o, c => by
    simp only [keepN]
    by_cases hd : d = b
    · subst hd
      rw [if_pos rfl, List.count_cons, keepN_count (b := d) (n := n) (o := o) c, List.count_cons_self]
      by_cases hc : c = d
      · subst hc; simp
      · have : (d == c) = false := by simpa using fun e => hc e.symm
        rw [if_neg hc, if_neg hc, List.count_cons, this]
    · have ih := keepN_count (b := b) (n := n + 1) (o := o) c
      rw [if_neg hd, List.count_cons, ih]
      have h2 : (d == b) = false := by simpa using hd
      by_cases hc : c = b
      · subst hc
        rw [if_pos rfl, if_pos rfl, List.count_cons, h2]; rfl
      · rw [if_neg hc, if_neg hc, List.count_cons]
theorem cost_mono {l' l : List Job} (h : l'.Sublist l) : ∀ {t' t : Int}, 0 ≤ t' → t' ≤ t → (∀ x ∈ l, 0 ≤ x.1 ∧ 0 ≤ x.2) → costS t' l' ≤ costS t l := by
  induction h with
  | slnil => intro t' t _ _ _; exact Int.le_refl _
  | @cons l1 l2 x h ih =>
    intro t' t h0 ht hp
    have hx := hp x (by simp)
    have h1 := ih (t' := t') (t := t + x.1) h0 (by omega) (fun y hy => hp y (by simp [hy]))
    have h2 := Int.mul_nonneg hx.2 (show 0 ≤ t + x.1 by omega)
    simp only [costS]; omega
  | @cons_cons l1 l2 x h ih =>
    intro t' t h0 ht hp
    have hx := hp x (by simp)
    have h1 := ih (t' := t' + x.1) (t := t + x.1) (by omega) (by omega) (fun y hy => hp y (by simp [hy]))
    have h2 := Int.mul_le_mul_of_nonneg_left (show t' + x.1 ≤ t + x.1 by omega) hx.2
    simp only [costS]; omega
theorem keep_sub {j : Coast} {b m : Nat} (hb : b < j.length) : ∀ {o : List Nat} {f : Nat → Nat} {n : Nat}, OrdF j f o → f b + n = m → m ≤ (j.getD b []).length → (jobsF (lessJ j b m) f (keepN b n o)).Sublist (jobsF j f o)
  | [], f, n, _, _, _ => by simp [keepN, jobsF]
  | c :: o, f, n, ho, hm, hml => by
    have ih := fun {n' : Nat} (h : upd f c 1 b + n' = m) => keep_sub (b := b) (m := m) hb (n := n') ho.tail h hml
    have hcl := ho.lt c (by simp)
    have hcn := ho.cnt c hcl
    rw [List.count_cons_self] at hcn
    by_cases hc : c = b
    · subst hc
      match n with
      | 0 =>
        simp only [keepN, if_pos]
        refine List.Sublist.cons _ ?_
        have key : ∀ {o : List Nat} {g : Nat → Nat}, (∀ d, d ≠ c → g d = upd f c 1 d) → jobsF (lessJ j c m) g (keepN c 0 o) = jobsF (lessJ j c m) (upd f c 1) (keepN c 0 o) := by
          have key2 : ∀ {o : List Nat} {g g' : Nat → Nat}, (∀ d, d ≠ c → g d = g' d) → jobsF (lessJ j c m) g (keepN c 0 o) = jobsF (lessJ j c m) g' (keepN c 0 o) := by
            intro o
            induction o with
            | nil => intros; rfl
            | cons d o ih2 =>
              intro g g' hg
              simp only [keepN]
              by_cases hd : d = c
              · rw [if_pos hd]; exact ih2 hg
              · rw [if_neg hd]
                simp only [jobsF]
                rw [hg d hd, ih2 (g := upd g d 1) (g' := upd g' d 1) (fun e he => by simp only [upd]; rw [hg e he])]
          intro o g hg
          exact key2 hg
        have hsub : ∀ {o : List Nat} {g : Nat → Nat}, OrdF j g o → (jobsF (lessJ j c m) g (keepN c 0 o)).Sublist (jobsF j g o) := by
          intro o
          induction o with
          | nil => intro g _; simp [keepN, jobsF]
          | cons d o ih2 =>
            intro g hg
            have hdl := hg.lt d (by simp)
            have hdn := hg.cnt d hdl
            rw [List.count_cons_self] at hdn
            simp only [keepN]
            by_cases hd : d = c
            · rw [if_pos hd]
              simp only [jobsF]
              refine List.Sublist.cons _ ?_
              have h1 := ih2 hg.tail
              have key2 : ∀ {o : List Nat} {g g' : Nat → Nat}, (∀ d, d ≠ c → g d = g' d) → jobsF (lessJ j c m) g (keepN c 0 o) = jobsF (lessJ j c m) g' (keepN c 0 o) := by
                intro o
                induction o with
                | nil => intros; rfl
                | cons d o ih2 =>
                  intro g g' hg
                  simp only [keepN]
                  by_cases hd : d = c
                  · rw [if_pos hd]; exact ih2 hg
                  · rw [if_neg hd]
                    simp only [jobsF]
                    rw [hg d hd, ih2 (g := upd g d 1) (g' := upd g' d 1) (fun e he => by simp only [upd]; rw [hg e he])]
              rw [key2 (g' := upd g d 1) (fun e he => by rw [upd_ne (by rw [hd]; exact he)])]
              exact h1
            · rw [if_neg hd]
              simp only [jobsF]
              rw [lessJ_get hb, if_neg hd]
              exact List.Sublist.cons_cons _ (ih2 hg.tail)
        rw [key (g := f) (fun d hd => by rw [upd_ne hd])]
        exact hsub ho.tail
      | n + 1 =>
        simp only [keepN, if_pos, jobsF]
        have e : ((lessJ j c m).getD c []).getD (f c) (0, 0) = (j.getD c []).getD (f c) (0, 0) := by
          have := lessJ_job (j := j) (b := c) (n := m) (c := c) (i := f c) hb (by rw [lessJ_get hb, if_pos rfl, List.length_take]; omega)
          exact this
        rw [e]
        exact List.Sublist.cons_cons _ (ih (by rw [upd_same]; omega))
    · have hne : upd f c 1 b = f b := upd_ne (fun e => hc e.symm)
      have e : keepN b n (c :: o) = c :: keepN b n o := by cases n <;> simp [keepN, hc]
      rw [e]
      simp only [jobsF]
      rw [lessJ_get hb, if_neg hc]
      exact List.Sublist.cons_cons _ (ih (by rw [hne]; exact hm))
theorem jobsF_mem {j : Coast} : ∀ {o : List Nat} {f : Nat → Nat}, OrdF j f o → ∀ x ∈ jobsF j f o, ∃ c, c < j.length ∧ x ∈ j.getD c []
  | [], f, _, x, hx => by simp [jobsF] at hx
  | c :: o, f, ho, x, hx => by
    simp only [jobsF] at hx
    rcases List.mem_cons.1 hx with rfl | hx
    · have hc := ho.lt c (by simp)
      have := ho.cnt c hc
      rw [List.count_cons_self] at this
      refine ⟨c, hc, ?_⟩
      have hlt : f c < (j.getD c []).length := by omega
      have e := getD_lt (d := ((0, 0) : Job)) hlt
      rw [e]
      exact List.getElem_mem hlt
    · exact jobsF_mem ho.tail x hx
theorem lessJ_ok {j : Coast} (hj : CoastOk j) {b n : Nat} (hb : b < j.length) : CoastOk (lessJ j b n) := by
  refine ⟨by rw [lessJ_len]; exact hj.len, fun c hc => ?_⟩
  rw [lessJ_len] at hc
  have h := hj.jobs c hc
  refine ⟨fun k hk => ?_, Nat.le_trans (lessJ_le hb) h.2⟩
  have := lessJ_job hb hk
  unfold jobA at this
  rw [this]
  exact h.1 k (Nat.lt_of_lt_of_le hk (lessJ_le hb))
theorem less_least {j : Coast} (hj : CoastOk j) {b n : Nat} (hb : b < j.length) (hn : n ≤ (j.getD b []).length) : leastO (lessJ j b n) ≤ leastO j := by
  unfold leastO
  rw [harm_costS, harm_costS]
  have ho := bestO_ord hj
  have ho' : OrdF (lessJ j b n) (fun _ => 0) (keepN b n (bestO j)) := by
    refine ⟨fun x hx => by rw [lessJ_len]; exact ho.lt x (keepN_mem hx), fun c hc => ?_⟩
    rw [lessJ_len] at hc
    rw [keepN_count, lessJ_get hb]
    have h1 := ho.cnt c hc
    by_cases h : c = b
    · subst h; rw [if_pos rfl, if_pos rfl, List.length_take]; omega
    · rw [if_neg h, if_neg h]; exact h1
  refine Int.le_trans (bestO_least (lessJ_ok hj hb) ho') (cost_mono (keep_sub hb ho (by omega) hn) (Int.le_refl _) (Int.le_refl _) fun x hx => ?_)
  obtain ⟨c, hc, hm⟩ := jobsF_mem ho x hx
  have := (hj.jobs c hc).1.mem hm
  omega
theorem sumZ_mono {F G : Nat → Int} : ∀ {m n : Nat}, n ≤ m → (∀ i, i < n → F i ≤ G i) → (∀ i, i < m → 0 ≤ G i) → sumZ n F ≤ sumZ m G
  | 0, n, hn, _, _ => by rw [show n = 0 by omega]; exact Int.le_refl _
  | m + 1, n, hn, h1, h2 => by
    by_cases h : n = m + 1
    · subst h; exact sumZ_le h1
    · have := sumZ_mono (m := m) (n := n) (by omega) h1 (fun i hi => h2 i (by omega))
      have := h2 m (by omega)
      simp only [sumZ]; omega
theorem less_bound {j : Coast} (hj : CoastOk j) {b n : Nat} (hb : b < j.length) : boundO (lessJ j b n) ≤ boundO j := by
  have hp : ∀ {c i : Nat}, c < j.length → i < (j.getD c []).length → 1 ≤ (jobA j c i).1 ∧ 0 ≤ (jobA j c i).2 := fun hc hi => by have := jobA_bd hj hc hi; omega
  have htl : ∀ {c i k : Nat}, c < j.length → i + k < (j.getD c []).length → 0 ≤ tailF j c i k := fun hc hi => (tailF_bd hj hc hi).1
  have hpr : ∀ {c i d : Nat}, c < j.length → i < (j.getD c []).length → d < j.length → 0 ≤ pairF j c i d := fun hc hi hd => by
    have := sumZ_bd (n := (j.getD _ []).length) (F := minF j _ _ _) (M := 10000) (fun k hk => minF_bd hj hc hi hd hk)
    exact this.1
  have hrow : ∀ {c i : Nat}, c < j.length → i < (j.getD c []).length → 0 ≤ rowF j c i := fun {c i} hc hi => by
    have h1 := sumZ_mono (m := (j.getD c []).length - i) (n := 0) (F := fun _ => 0) (G := tailF j c i) (by omega) (fun i hi => by omega) (fun k hk => htl hc (by omega))
    have h2 := sumZ_mono (m := c) (n := 0) (F := fun _ => 0) (G := pairF j c i) (by omega) (fun i hi => by omega) (fun d hd => hpr hc hi (by omega))
    simp only [sumZ] at h1 h2
    unfold rowF; omega
  unfold boundO
  rw [lessJ_len]
  refine sumZ_le fun c hc => ?_
  unfold beachF
  refine sumZ_mono (lessJ_le hb) (fun i hi => ?_) (fun i hi => hrow hc hi)
  have hi' : i < (j.getD c []).length := Nat.lt_of_lt_of_le hi (lessJ_le hb)
  unfold rowF
  have h1 : sumZ (((lessJ j b n).getD c []).length - i) (tailF (lessJ j b n) c i) ≤ sumZ ((j.getD c []).length - i) (tailF j c i) := by
    have := lessJ_le (n := n) (c := c) hb
    refine sumZ_mono (by omega) (fun k hk => ?_) (fun k hk => htl hc (by omega))
    unfold tailF
    rw [lessJ_job hb hi, lessJ_job hb (by omega)]
    exact Int.le_refl _
  have h2 : sumZ c (pairF (lessJ j b n) c i) ≤ sumZ c (pairF j c i) := by
    refine sumZ_le fun d hd => ?_
    unfold pairF
    refine sumZ_mono (lessJ_le hb) (fun k hk => ?_) (fun k hk => (minF_bd hj hc hi' (by omega) hk).1)
    unfold minF
    rw [lessJ_job hb hi, lessJ_job hb hk]
    exact Int.le_refl _
  omega
theorem less_valid {j : Coast} {b n : Nat} (hb : b < j.length) (hv : validL j = true) : validL (lessJ j b n) = true := by
  have h := hv
  simp only [validL, Bool.and_eq_true, decide_eq_true_eq] at h
  obtain ⟨⟨h1, h2⟩, h3⟩ := h
  refine validL_ok (fun k hk m hm => ?_) (by rw [lessJ_len]; omega) ?_
  · rw [lessJ_len] at hk
    have hm' := Nat.lt_of_lt_of_le hm (lessJ_le hb)
    have e := lessJ_job hb hm
    unfold jobA at e
    rw [e]
    rw [getD_lt hk] at hm' ⊢
    have h4 := List.all_eq_true.1 h1 _ (List.getElem_mem hk)
    rw [getD_lt hm']
    exact Bool.eq_false_iff.2 fun h5 => by
      have : (j[k]).any jobBad = true := List.any_eq_true.2 ⟨_, List.getElem_mem hm', h5⟩
      rw [this] at h4; cases h4
  · have key : ∀ k, k ≤ j.length → manyN (lessJ j b n) k ≤ manyN j k := by
      intro k
      induction k with
      | zero => intro _; simp [manyN]
      | succ k ih =>
        intro hk
        rw [manyN_succ (by rw [lessJ_len]; omega), manyN_succ (by omega)]
        have := ih (by omega)
        have := lessJ_le (n := n) (c := k) hb
        omega
    rw [lessJ_len]
    have := key j.length (Nat.le_refl _)
    omega
theorem lessJ_sized {j : Coast} {b n : Nat} (hb : b < j.length) (hj : Sized j) : Sized (lessJ j b n) :=
  ⟨by rw [lessJ_len]; exact hj.len, fun k hk => Nat.le_trans (lessJ_le hb) (hj.be k (by rw [lessJ_len] at hk; exact hk))⟩
end Go.Proofs.Ytjijjncddjkdlaa

/- How beaches and orders that came in read. -/
namespace Go.Proofs.Ytjijjncddjkdlaa
open Go.RowKit
set_option linter.unusedVariables false
set_option linter.unusedSimpArgs false
open Go.ChangeShapes Go.WideShapes Go.ChangeAt Go.RowKit Go.Deep Go.Joins
theorem i64_bd {n : Int} (h : (Lit.int .i64 n).wf = true) : -9223372036854775808 ≤ n ∧ n ≤ 9223372036854775807 := by
  simp [Lit.wf, IntKind.min, IntKind.max, IntKind.signed, IntKind.bits] at h; omega
theorem u8_bd {n : Int} (h : (Lit.int .u8 n).wf = true) : 0 ≤ n ∧ n ≤ 255 := by
  simp [Lit.wf, IntKind.min, IntKind.max, IntKind.signed, IntKind.bits] at h; omega
theorem ro_at {w : World} {a : Addr} {cs : List Value} (h : ∀ i, i < cs.length → w.cell? (a.add i) = some (cs.getD i undef)) : RoAt w (some a) cs := by
  intro hne
  have hp : 0 < cs.length := List.length_pos_iff.2 hne
  obtain ⟨b, off, spot⟩ := a
  have hspot : spot = none := by simpa [Addr.add] using World.cell?_spot (h 0 hp)
  subst hspot
  refine ⟨b, off, rfl, ?_, fun j hj => by rw [← Go.WideShapes.add_plain]; exact h j hj⟩
  have := World.block_lt_of_cell? _ _ (h 0 hp)
  simpa [Addr.add] using this
theorem add_add (a : Addr) (i j : Nat) : (a.add i).add j = a.add (i + j) := by
  unfold Addr.add
  by_cases hi : i = 0
  · subst hi; simp
  · by_cases hj : j = 0
    · subst hj; simp [hi]
    · simp [hi, hj, Nat.add_assoc]
def jobV (l : List Job) : List Value := l.flatMap fun x => [.int .i64 x.1, .int .i64 x.2]
theorem jobV_len (l : List Job) : (jobV l).length = 2 * l.length := by
  induction l with
  | nil => rfl
  | cons x l ih => simp only [jobV, List.flatMap_cons, List.length_append] at *; simp [ih]; omega
theorem jobV_get : ∀ {l : List Job} {k : Nat}, k < l.length → (jobV l).getD (k * 2) undef = .int .i64 (l.getD k (0, 0)).1 ∧ (jobV l).getD (k * 2 + 1) undef = .int .i64 (l.getD k (0, 0)).2
  | x :: l, 0, _ => ⟨rfl, rfl⟩
  | x :: l, k + 1, h => by
    have := jobV_get (l := l) (k := k) (by simpa using h)
    simp only [jobV, List.flatMap_cons] at *
    rw [show (k + 1) * 2 + 1 = k * 2 + 1 + 1 + 1 by omega, show (k + 1) * 2 = k * 2 + 1 + 1 by omega]
    simpa using this
theorem den_jobs (ρ : Env) (l : List Job) : (jobC l).map (C.den ρ) = jobV l := by
  induction l with
  | nil => rfl
  | cons x l ih => simp only [jobC, jobV, List.flatMap_cons, List.map_append] at *; rw [ih]; rfl
section
variable {H : Type} {enc : TypeId × Value → H} {W : World} {sp : Nat → Bool}
set_option maxRecDepth 10000 in
theorem open_jobs {n : Nat} {v : Value} {x : DataW H × List MemPlace} (h : DataW.trod enc Try.prog W 0 sp true n 31 [v] = some x) :
    ∃ (ao : Option Addr) (c : Nat) (l : List Job), v = .slice ao l.length c ∧ RoAt W ao (jobV l) ∧ l.length ≤ c ∧ l.length < 9223372036854775808 := by
  rcases open_slice Try.underlying31 h with ⟨hcs, _⟩ | ⟨a, len, cap, m, f, D, Pl, hcs, _, hl, hmax, hm, _, hx⟩
  · cases hcs
    exact ⟨none, 0, [], rfl, fun hne => absurd rfl hne, by simp, by simp⟩
  · cases hcs
    have hc2 : Try.prog.cellsOf 47 = 2 := by kernel_rfl
    have hc1 : Try.prog.cellsOf 3 = 1 := by kernel_rfl
    have hlm : len ≤ m := by rw [hm]; split <;> omega
    have hlen : len < 9223372036854775808 := by unfold maxLen at hmax; omega
    rw [hc2] at hx
    obtain ⟨b, hb⟩ := choose_lt (α := Job) (n := len) (p := fun i y => W.cell? (a.add (i * 2)) = some (.int .i64 y.1) ∧ W.cell? (a.add (i * 2 + 1)) = some (.int .i64 y.2)) (fun i hi => by
      obtain ⟨cs', h1, h2⟩ := hx i (by omega)
      obtain ⟨_, hlen, hcell⟩ := World.cells?_some h1
      obtain ⟨y0, y1, k, _, hl2, h3, h4⟩ := trod_struct2 Try.underlying47 h2
      match cs', hlen with
      | [c0, c1], _ =>
        simp [hc1] at h3 h4
        obtain ⟨z0, e0, _, _⟩ := DataW.trod_int Try.underlying3 h3
        obtain ⟨z1, e1, _, _⟩ := DataW.trod_int Try.underlying3 h4
        cases e0
        cases e1
        have g0 := hcell 0 (by omega)
        have g1 := hcell 1 (by omega)
        rw [add_add] at g0 g1
        exact ⟨(z0, z1), by simpa using g0, by simpa using g1⟩)
    refine ⟨some a, cap, (List.range len).map b, by simp, ro_at (fun i hi => ?_), by simpa using hl, by simpa using hlen⟩
    rw [jobV_len] at hi
    simp only [List.length_map, List.length_range] at hi
    have hq : i / 2 < len := by omega
    obtain ⟨g0, g1⟩ := hb (i / 2) hq
    obtain ⟨k0, k1⟩ := jobV_get (l := (List.range len).map b) (k := i / 2) (by simpa using hq)
    have hgd : ((List.range len).map b).getD (i / 2) (0, 0) = b (i / 2) := by simp [List.getD_eq_getElem?_getD, hq]
    rw [hgd] at k0 k1
    rcases Nat.mod_two_eq_zero_or_one i with hi2 | hi2
    · rw [show i / 2 * 2 = i by omega] at g0 k0
      rw [g0, k0]
    · rw [show i / 2 * 2 + 1 = i by omega] at g1 k1
      rw [g1, k1]
theorem open_ints35 {n : Nat} {v : Value} {x : DataW H × List MemPlace} (h : DataW.trod enc Try.prog W 0 sp true n 35 [v] = some x) :
    ∃ (ao : Option Addr) (c : Nat) (l : List Int), v = .slice ao l.length c ∧ RoAt W ao (l.map (Value.int .i64)) ∧ l.length < 9223372036854775808 := by
  rcases open_slice1 Try.underlying35 (by kernel_rfl) h with ⟨hcs, _⟩ | ⟨a, len, cap, m, f, V, D, Pl, hcs, _, hl, hmax, hm, _, hx⟩
  · cases hcs
    exact ⟨none, 0, [], rfl, fun hne => absurd rfl hne, by simp⟩
  · cases hcs
    have hlm : len ≤ m := by rw [hm]; split <;> omega
    have hlen : len < 9223372036854775808 := by unfold maxLen at hmax; omega
    obtain ⟨b, hb⟩ := choose_lt (α := Int) (n := len) (p := fun i b => V i = .int .i64 b) (fun i hi => by
      obtain ⟨b, hb, _, hw⟩ := DataW.trod_int Try.underlying3 (hx i (by omega)).2
      exact ⟨b, by simpa using hb⟩)
    refine ⟨some a, cap, (List.range len).map b, by simp, ro_at (fun i hi => ?_), by simpa using hlen⟩
    have hi' : i < len := by simpa using hi
    rw [(hx i (by omega)).1, hb i hi']
    simp [List.getD_eq_getElem?_getD, hi']
/-- A coast in memory: its beaches lie where bs says. -/
structure CoastAt (W : World) (ao : Option Addr) (c : Nat) (j : Coast) (bs : Nat → Option Addr × Nat) : Prop where
  lt : j.length < 9223372036854775808
  cap : j.length ≤ c
  row : RoAt W ao ((List.range j.length).map fun k => .slice (bs k).1 (j.getD k []).length (bs k).2)
  be : ∀ k, k < j.length → RoAt W (bs k).1 (jobV (j.getD k [])) ∧ (j.getD k []).length ≤ (bs k).2
theorem open_coast {n : Nat} {v : Value} {x : DataW H × List MemPlace} (h : DataW.trod enc Try.prog W 0 sp true n 22 [v] = some x) :
    ∃ (ao : Option Addr) (c : Nat) (j : Coast) (bs : Nat → Option Addr × Nat), v = .slice ao j.length c ∧ CoastAt W ao c j bs := by
  rcases open_slice1 Try.underlying22 (by kernel_rfl) h with ⟨hcs, _⟩ | ⟨a, len, cap, m, f, V, D, Pl, hcs, _, hl, hmax, hm, _, hx⟩
  · cases hcs
    exact ⟨none, 0, [], fun _ => (none, 0), rfl, by simp, by simp, fun hne => absurd rfl hne, fun k hk => by simp at hk⟩
  · cases hcs
    have hlm : len ≤ m := by rw [hm]; split <;> omega
    have hlen : len < 9223372036854775808 := by unfold maxLen at hmax; omega
    obtain ⟨b, hb⟩ := choose_lt (α := (Option Addr × Nat) × List Job) (n := len) (p := fun i b => V i = .slice b.1.1 b.2.length b.1.2 ∧ RoAt W b.1.1 (jobV b.2) ∧ b.2.length ≤ b.1.2) (fun i hi => by
      obtain ⟨ao, c, l, e, h1, h2, _⟩ := open_jobs (hx i (by omega)).2
      exact ⟨((ao, c), l), e, h1, h2⟩)
    have hgd : ∀ k, k < len → ((List.range len).map fun i => (b i).2).getD k [] = (b k).2 := fun k hk => by simp [List.getD_eq_getElem?_getD, hk]
    refine ⟨some a, cap, (List.range len).map fun i => (b i).2, fun i => (b i).1, by simp, by simpa using hlen, by simpa using hl, ro_at (fun i hi => ?_), fun k hk => ?_⟩
    · have hi' : i < len := by simpa using hi
      rw [(hx i (by omega)).1, (hb i hi').1]
      simp [List.getD_eq_getElem?_getD, hi']
    · have hk' : k < len := by simpa using hk
      rw [hgd k hk']
      exact (hb k hk').2
set_option maxRecDepth 100000 in
theorem open_coastv {v : Value} {d : DataW H} {p : List MemPlace} {r : Reach} {b0 : Nat} (hv : Value.okWide Try.prog W r b0 22 v) (h : DataW.Trod enc Try.prog W 0 sp true 22 v d p) :
    ∃ (ao : Option Addr) (c : Nat) (j : Coast) (bs : Nat → Option Addr × Nat), v = .slice ao j.length c ∧ CoastAt W ao c j bs := by
  obtain ⟨fuel, hf⟩ := h
  obtain ⟨ao, n, cp, rfl⟩ := okWide_slice Try.underlying22 hv
  simp only [Value.cells] at hf
  exact open_coast hf
set_option maxRecDepth 100000 in
theorem open_intsv {v : Value} {d : DataW H} {p : List MemPlace} {r : Reach} {b0 : Nat} (hv : Value.okWide Try.prog W r b0 35 v) (h : DataW.Trod enc Try.prog W 0 sp true 35 v d p) :
    ∃ (po : Option Addr) (pc : Nat) (l : List Int), v = .slice po l.length pc ∧ RoAt W po (l.map (Value.int .i64)) ∧ l.length < 9223372036854775808 := by
  obtain ⟨fuel, hf⟩ := h
  obtain ⟨ao, n, cp, rfl⟩ := okWide_slice Try.underlying35 hv
  simp only [Value.cells] at hf
  exact open_ints35 hf
end
/-- Memory that comes in, with the room behind it. -/
theorem Hp.rosz {ρ : Env} {w : World} {L : List E} {nx : Nat} (h : ∀ e ∈ L, (∃ z, e.kd = .ro z ∧ (z = 0 ∨ e.cs.length ≤ (ρ e.lab).2 * z)) ∧ e.lab < nx ∧ (∀ c ∈ e.cs, c.wf nx) ∧ RoAt w (ρ e.lab).1 (e.cs.map (C.den ρ))) (hd : injB [] L = true) : Hp w.heap.size ρ w L nx := by
  refine ⟨Nat.le_refl _, fun e he => ?_, fun e he => ⟨(h e he).2.1, (h e he).2.2.1⟩, fun e he e' he' hl => injB_spec hd e he e' he' (.inl hl), fun e he e' he' hro => ?_⟩
  · obtain ⟨⟨z, h1, h2⟩, h3, h4, h5⟩ := h e he
    obtain ⟨lab, kd, cs⟩ := e
    simp only at h1 h2
    subst h1
    exact ⟨h5, h2⟩
  · obtain ⟨⟨z, h1, _⟩, _⟩ := h e he
    rw [h1] at hro; cases hro
theorem den_sls (ρ : Env) : ∀ (b : Nat) (j : Coast), (slsC b j).map (C.den ρ) = (List.range j.length).map fun k => Value.slice (ρ (b + k)).1 (j.getD k []).length (ρ (b + k)).2
  | b, [] => rfl
  | b, x :: r => by
    rw [List.length_cons, List.range_succ_eq_map, List.map_cons, List.map_map]
    simp only [slsC, List.map_cons]
    rw [den_sls ρ (b + 1) r]
    congr 1
    apply List.map_congr_left
    intro k _
    simp only [Function.comp]
    rw [show b + 1 + k = b + (k + 1) by omega]
    rfl
/-- Where the labels lie: the coast at 0, its beaches behind it, an order at o. -/
def coastE (o : Nat) (ao : Option Addr) (c : Nat) (bs : Nat → Option Addr × Nat) (po : Option Addr) (pc : Nat) : Env := fun l => if l = 0 then (ao, c) else if l = o then (po, pc) else bs (l - 1)
theorem coastE_be {o : Nat} {ao : Option Addr} {c : Nat} {bs : Nat → Option Addr × Nat} {po : Option Addr} {pc : Nat} {k : Nat} (h : 1 + k ≠ o) : coastE o ao c bs po pc (1 + k) = bs k := by
  unfold coastE; rw [if_neg (by omega), if_neg h, Nat.add_sub_cancel_left]
theorem coast_row {W : World} {ao : Option Addr} {c : Nat} {j : Coast} {bs : Nat → Option Addr × Nat} (h : CoastAt W ao c j bs) {o : Nat} {po : Option Addr} {pc : Nat} (ho : j.length < o) : RoAt W ao ((slsC 1 j).map (C.den (coastE o ao c bs po pc))) := by
  rw [den_sls]
  have e : ((List.range j.length).map fun k => Value.slice (coastE o ao c bs po pc (1 + k)).1 (j.getD k []).length (coastE o ao c bs po pc (1 + k)).2) = (List.range j.length).map fun k => .slice (bs k).1 (j.getD k []).length (bs k).2 := by
    apply List.map_congr_left
    intro k hk
    rw [coastE_be (by have := List.mem_range.1 hk; omega)]
  rw [e]; exact h.row
theorem hp_long {W : World} {ao : Option Addr} {c : Nat} {j : Coast} {bs : Nat → Option Addr × Nat} (h : CoastAt W ao c j bs) (po : Option Addr) (pc : Nat) : Hp W.heap.size (coastE (j.length + 31) ao c bs po pc) W [⟨0, .ro 1, slsC 1 j⟩] (j.length + 32) := by
  refine Hp.rosz (fun e he => ?_) rfl
  simp only [List.mem_cons, List.not_mem_nil, or_false] at he
  subst he
  refine ⟨⟨1, rfl, .inr ?_⟩, by simp only; omega, wf_sls _ _ _ (by omega), coast_row h (by omega)⟩
  have := h.cap
  simp only [slsC_len, coastE, if_true]; omega
theorem hp_ent {W : World} {ao : Option Addr} {c : Nat} {j : Coast} {bs : Nat → Option Addr × Nat} (h : CoastAt W ao c j bs) (hj : j.length ≤ 20) (po : Option Addr) (pc : Nat) : ∀ e ∈ (⟨0, .ro 1, slsC 1 j⟩ :: entC 1 j : List E), (∃ z, e.kd = .ro z ∧ (z = 0 ∨ e.cs.length ≤ (coastE 21 ao c bs po pc e.lab).2 * z)) ∧ e.lab < 32 ∧ (∀ c ∈ e.cs, c.wf 32) ∧ RoAt W (coastE 21 ao c bs po pc e.lab).1 (e.cs.map (C.den (coastE 21 ao c bs po pc))) := by
  intro e he
  rcases List.mem_cons.1 he with rfl | he
  · refine ⟨⟨1, rfl, .inr ?_⟩, by simp only; omega, wf_sls _ _ _ (by omega), coast_row h (by omega)⟩
    have := h.cap
    simp only [slsC_len, coastE, if_true]; omega
  · obtain ⟨k, hk, rfl⟩ := entC_mem he
    obtain ⟨h1, h2⟩ := h.be k hk
    refine ⟨⟨2, rfl, .inr ?_⟩, by simp only; omega, wf_jobs _ _, ?_⟩
    · simp only [jobC_len, coastE_be (show 1 + k ≠ 21 by omega)]; omega
    · simp only [coastE_be (show 1 + k ≠ 21 by omega)]
      rw [den_jobs]; exact h1
theorem hp_coast {W : World} {ao : Option Addr} {c : Nat} {j : Coast} {bs : Nat → Option Addr × Nat} (h : CoastAt W ao c j bs) (hj : Sized j) : Hp W.heap.size (coastE 21 ao c bs none 0) W (⟨0, .ro 1, slsC 1 j⟩ :: entC 1 j) 32 :=
  Hp.rosz (hp_ent h hj.len none 0) (injC hj)
theorem hp_order {W : World} {ao : Option Addr} {c : Nat} {j : Coast} {bs : Nat → Option Addr × Nat} (h : CoastAt W ao c j bs) (hj : Sized j) {o : List Int} {po : Option Addr} {pc : Nat} (ho : RoAt W po (o.map (Value.int .i64))) : Hp W.heap.size (coastE 21 ao c bs po pc) W (⟨0, .ro 1, slsC 1 j⟩ :: ⟨21, .ro 0, o.map C.i⟩ :: entC 1 j) 32 := by
  refine Hp.rosz (fun e he => ?_) (injO hj)
  rcases List.mem_cons.1 he with rfl | he
  · exact hp_ent h hj.len po pc _ (by simp)
  rcases List.mem_cons.1 he with rfl | he
  · refine ⟨⟨0, rfl, .inl rfl⟩, by simp only; omega, wf_ints _ _, ?_⟩
    rw [List.map_map]
    exact ho
  · exact hp_ent h hj.len po pc _ (by simp [he])
end Go.Proofs.Ytjijjncddjkdlaa

/- Shore: less of a row; copies of lists. -/
namespace Go.Proofs.Ytjijjncddjkdlaa
open Go.RowKit
set_option linter.unusedVariables false
set_option linter.unusedSimpArgs false
/-- A state of rows that are read alone, of what lies there. -/
theorem Hp.narrow {n0 : Nat} {ρ : Env} {w : World} {L L' : List E} {nx : Nat} (h : Hp n0 ρ w L nx) (hL : ∀ e ∈ L', ∃ k cs z, e.kd = .ro z ∧ find L e.lab = some ⟨e.lab, k, cs⟩ ∧ (z = 0 ∨ k.z = some z) ∧ ∃ t, cs = e.cs ++ t) (hi : injB [] L' = true) : Hp n0 ρ w L' nx := by
  refine ⟨h.base, fun e he => ?_, fun e he => ?_, fun e he e' he' hl => injB_spec hi e he e' he' (.inl hl), fun e he e' he' hro => ?_⟩
  · obtain ⟨k, cs, z, hk, hf, hz, t, ht⟩ := hL e he
    obtain ⟨lab, kd, es⟩ := e
    simp only at hk hf ht
    subst hk ht
    have h1 := (h.ok _ (find_mem hf).1).toRo (n0 := n0) hz
    obtain ⟨h2, h3⟩ := h1
    refine ⟨fun hne => ?_, h3.imp id fun h4 => ?_⟩
    · simp only at hne
      obtain ⟨b, off, e1, e2, e3⟩ := h2 (by simp only [List.map_append]; intro h5; exact hne (List.append_eq_nil_iff.1 h5).1)
      refine ⟨b, off, e1, e2, fun i hi => ?_⟩
      simp only [List.length_map] at hi
      have := e3 i (by simp only [List.length_map, List.length_append]; omega)
      rw [this]
      simp only [List.getD_eq_getElem?_getD, List.map_append]
      rw [List.getElem?_append_left (by simpa using hi)]
    · simp only [List.length_append] at h4
      simp only; omega
  · obtain ⟨k, cs, z, hk, hf, hz, t, ht⟩ := hL e he
    obtain ⟨h1, h2⟩ := h.wf _ (find_mem hf).1
    exact ⟨h1, fun c hc => h2 c (by simp only; rw [ht]; simp [hc])⟩
  · obtain ⟨k, cs, z, hk, _⟩ := hL e he
    rw [hk] at hro; cases hro
theorem CallK.valN {P : Program} {n0 : Nat} {f : FuncId} {vs vs' : List V} {Lc L L' : List E} {nac nx : Nat} {R : Rn} {u : V} {K : V → List E → Nat → Prop} (hLL : ∀ e ∈ L', ∃ k cs z, e.kd = .ro z ∧ find L e.lab = some ⟨e.lab, k, cs⟩ ∧ (z = 0 ∨ k.z = some z) ∧ ∃ t, cs = e.cs ++ t) (hi : injB [] L' = true) (spec : Spec P f vs Lc nac (Is u)) (hok : callB P f = true) (hv : renVs R vs = some vs') (hvw : ∀ v ∈ vs, v.wf nac) (hL : roL R nac L' Lc) (hLc : injB [] Lc = true)
    (hu : u.chk (fun _ => false) = true) (huw : u.wf nx) (hK : K u [] nx) : CallK P n0 f vs' L nx K := by
  refine ⟨hok, fun ρ w hp _ => (callee_run spec hv hvw hL hLc (hp.narrow hLL hi)).mono ?_⟩
  rintro e w' ⟨v, ρ', L', nx', rfl, h1, h2, h3, h4, h5, h6⟩
  refine ⟨u, [], nx, ρ, ?_, Nat.le_refl _, huw, Agr.refl _ _, h4, News.nil, hK⟩
  rw [h6 ρ', V.den_labs (q := fun _ => False) (fun l hl => hl.elim) (V.labs_of_chk (fun l hl => by cases hl) hu)]
theorem visL_none {ks : List Nat} : ∀ {L : List E}, (∀ e ∈ L, memN e.lab ks = false) → visL ks L = L
  | [], _ => rfl
  | ⟨lab, kd, cs⟩ :: r, h => by
    have h1 := h _ (List.mem_cons_self ..)
    simp only at h1
    simp only [visL, h1, cond_false, visL_none (L := r) (fun e he => h e (by simp [he]))]
theorem visC_none {ks : List Nat} {L : List E} {K : List E → Prop} (h : ∀ e ∈ L, memN e.lab ks = false) (hK : K L) : visC ks L K := by
  rw [visC_eq, visL_none h]; exact hK
theorem relC_none {als : List (Nat × Nat)} {L : List E} {K : List E → Prop} (h : ∀ e ∈ L, relN als e.lab = e.lab) (hK : K L) : relC als L K := by
  rw [relC_eq]
  have : L.map (relE als) = L := by
    refine (List.map_congr_left fun e he => ?_).trans (List.map_id L)
    obtain ⟨lab, kd, cs⟩ := e
    simp only [relE, id]
    rw [h _ he]
  rw [this]; exact hK
theorem memN_high {ks : List Nat} {l : Nat} (h : ks.all (Nat.ble 21) = true) (hl : l ≤ 20) : memN l ks = false := by
  refine Bool.eq_false_iff.2 fun hm => ?_
  have := Nat.le_of_ble_eq_true (List.all_eq_true.1 h _ (memN_iff.1 hm))
  omega
theorem relN_high : ∀ {als : List (Nat × Nat)} {l : Nat}, (als.all fun p => Nat.ble 21 p.1) = true → l ≤ 20 → relN als l = l
  | [], _, _, _ => rfl
  | (a, b) :: r, l, h, hl => by
    simp only [List.all_cons, Bool.and_eq_true] at h
    have := Nat.le_of_ble_eq_true h.1
    simp only [relN, beq_ne (show a ≠ l by omega), cond_false]
    exact relN_high h.2 hl
theorem visC_ent {ks : List Nat} {b : Nat} {j : Coast} {K : List E → Prop} (h : ks.all (Nat.ble 21) = true) (hb : b + j.length ≤ 21) (hK : K (entC b j)) : visC ks (entC b j) K :=
  visC_none (fun e he => by obtain ⟨k, hk, rfl⟩ := entC_mem he; exact memN_high h (by simp only; omega)) hK
theorem relC_ent {als : List (Nat × Nat)} {b : Nat} {j : Coast} {K : List E → Prop} (h : (als.all fun p => Nat.ble 21 p.1) = true) (hb : b + j.length ≤ 21) (hK : K (entC b j)) : relC als (entC b j) K :=
  relC_none (fun e he => by obtain ⟨k, hk, rfl⟩ := entC_mem he; exact relN_high h (by simp only; omega)) hK
/-- A coast whose row lies elsewhere. -/
structure HasA (L : List E) (a : Nat) (j : Coast) : Prop where
  sl : ∃ k, find L a = some ⟨a, k, slsC 1 j⟩ ∧ k.z = some 1
  be : ∀ k, k < j.length → find L (1 + k) = some ⟨1 + k, .ro 2, jobC (j.getD k [])⟩
theorem HasA.ro {L : List E} {a : Nat} {j : Coast} (h : HasA L a j) (hj : Sized j) : roL [(0, some a)] 32 L (⟨0, .ro 1, slsC 1 j⟩ :: entC 1 j) := by
  have := hj.len
  obtain ⟨k, h1, h2⟩ := h.sl
  have hr : ∀ l, 1 ≤ l → renL [(0, some a)] l = some l := fun l hl => by simp [renL, beq_ne (show 0 ≠ l by omega)]
  have hs : ∀ {b : Nat} {j : Coast}, 1 ≤ b → seqO ((slsC b j).map (C.ren [(0, some a)])) = some (slsC b j) := by
    intro b j
    induction j generalizing b with
    | nil => intro _; rfl
    | cons x r ih =>
      intro hb
      simp only [slsC, List.map_cons, C.ren, hr b hb, seqO, ih (b := b + 1) (by omega)]
  refine ⟨⟨Nat.le_of_ble_eq_true rfl, wf_sls _ _ _ (by omega), k, slsC 1 j, h1, .inr h2, hs (by omega)⟩, roL_all fun e he => ?_⟩
  obtain ⟨i, hi, rfl⟩ := entC_mem he
  unfold roE
  simp only [hr (1 + i) (by omega)]
  exact ⟨by omega, wf_jobs _ _, .ro 2, _, h.be i hi, .inr rfl, ren_jobs _ _⟩
/-- What a call's own row reads as. -/
theorem own_base {w : World} {b b' e sz n : Nat} {v : Value} {xs : List Value} (h : w.ownsRow b e sz v n xs) (hb : b' ≤ b) : w.ownsRow b' e sz v n xs := by
  obtain ⟨h1, h2 | ⟨g, cap, cur, hv, hg, hh, hn, hm, hs, ht⟩⟩ := h
  · exact ⟨h1, .inl h2⟩
  · exact ⟨h1, .inr ⟨g, cap, cur, hv, by omega, hh, hn, hm, hs, ht⟩⟩
theorem own_slice {w : World} {base n : Nat} {v : Value} {xs : List Value} (h : w.ownsRow base 3 1 v n xs) : ∃ ao c, v = .slice ao n c ∧ ∀ a, ao = some a → base ≤ a.block := by
  obtain ⟨h1, ⟨rfl, h2⟩ | ⟨g, cap, cur, rfl, hb, hh, hn, hm, hs, ht⟩⟩ := h
  · exact ⟨none, 0, by rw [h2], fun a ha => by cases ha⟩
  · exact ⟨_, _, rfl, fun a ha => by cases ha; exact hb⟩
theorem CallK.oldVec {n0 nx : Nat} {f : FuncId} {vs : List V} {L : List E} {K : V → List E → Nat → Prop} {l : List Int} (hok : callB Try.prog f = true)
    (h : ∀ ρ w, Hp n0 ρ w L nx → Calls Try.prog f (vs.map (V.den ρ)).toArray w fun e w' => ∃ rv, e = .returned rv ∧ w'.ownsRow w.heap.size 3 1 rv l.length (l.map (Value.int .i64)) ∧ Below w.heap.size w w')
    (hK : K (V.c (.sl nx l.length)) [⟨nx, .vec 3 1, l.map C.i⟩] (nx + 1)) : CallK Try.prog n0 f vs L nx K := by
  refine ⟨hok, fun ρ w hp _ => (h ρ w hp).mono ?_⟩
  rintro e w' ⟨rv, rfl, hown, hbw⟩
  obtain ⟨ao, c, rfl, hblk⟩ := own_slice hown
  refine ⟨V.c (.sl nx l.length), [⟨nx, .vec 3 1, l.map C.i⟩], nx + 1, ρ.put nx ao c, ?_, Nat.le_succ _, Nat.lt_succ_self nx, Env.put_agr _ _ _ _, hbw, News.one ?_ rfl (wf_ints _ _) ?_, hK⟩
  · simp [V.den, A.den, C.den, Env.put_same]
  · refine ⟨l.length, ?_⟩
    simp only [Env.put_same]
    rw [den_ints]
    exact own_base hown hp.base
  · intro b hb
    simp only [blk, Env.put_same, Option.map_eq_some_iff] at hb
    obtain ⟨a, ha, rfl⟩ := hb
    exact hblk a ha
theorem ro_get {w : World} {ao : Option Addr} {l : List Int} {k : Nat} (h : RoAt w ao (l.map (Value.int .i64))) (hk : k < l.length) : ∃ b off, ao = some ⟨b, off, none⟩ ∧ b < w.heap.size ∧ w.cell? ⟨b, off + k, none⟩ = some ((l.map (Value.int .i64)).getD k undef) := by
  obtain ⟨b, off, h1, h2, h3⟩ := h (by intro e; have e2 := congrArg List.length e; rw [List.length_map] at e2; simp only [List.length_nil] at e2; omega)
  exact ⟨b, off, h1, h2, h3 k (by rw [List.length_map]; exact hk)⟩
set_option maxRecDepth 100000 in
set_option maxHeartbeats 400000 in
theorem clone_any (ao : Option Addr) (c : Nat) (l : List Int) (w : World) (hl : RoAt w ao (l.map (Value.int .i64))) (hn : l.length ≤ 1000000) :
    Calls Try.prog 68 #[.slice ao l.length c] w fun e w' => ∃ rv, e = .returned rv ∧ w'.ownsRow w.heap.size 3 1 rv l.length (l.map (Value.int .i64)) ∧ Below w.heap.size w w' := by
  cases ao with
  | none =>
    have h0 : l = [] := by
      cases l with
      | nil => rfl
      | cons x l => obtain ⟨b, off, h, _⟩ := ro_get hl (k := 0) (by simp); cases h
    subst h0
    have he := fun W => Lib.run_eql_slice_nil (P := Try.prog) W 35 3 none 0 c 0 0 Try.underlying35
    go_enter Try.func68, Try.ntmps68
    go_wp2
    go_ret
    exact ⟨_, rfl, World.ownsRow_nil _ _ _ _, Below.refl _ _⟩
  | some a =>
    have he := fun W => Lib.run_eql_slice_nil (P := Try.prog) W 35 3 (some a) l.length c 0 0 Try.underlying35
    obtain ⟨i0, hi, hz0, hz1, hz2⟩ : ∃ i, Try.prog.info? 3 = some i ∧ i.size = 1 ∧ i.bytes = 8 ∧ i.zero = some (.int .i64 0) := ⟨(Try.prog.info? 3).getD default, by kernel_rfl, by kernel_rfl, by kernel_rfl, by kernel_rfl⟩
    have hown : (w.alloc (.cells #[] 3)).ownsRow w.heap.size 3 1 (.slice (some ⟨w.heap.size, 0, none⟩) 0 0) 0 [] :=
      ⟨rfl, .inr ⟨w.heap.size, 0, #[], rfl, Nat.le_refl _, World.alloc_heap_new _ _, Nat.le_refl _, by simp [maxLen], rfl, rfl⟩⟩
    have hnews : ∀ j u, (l.map (Value.int .i64))[j]? = some u → (w.alloc (.cells #[] 3)).cell? (a.add j) = some u := by
      intro j u hj
      obtain ⟨hj1, hj2⟩ := List.getElem?_eq_some_iff.1 hj
      have hj' : j < l.length := by simpa using hj1
      obtain ⟨b, off, ha, hb, hc⟩ := ro_get hl hj'
      obtain rfl : a = ⟨b, off, none⟩ := by simpa using ha
      have : (⟨b, off, none⟩ : Addr).add j = ⟨b, off + j, none⟩ := by
        unfold Addr.add; split
        · rename_i h; subst h; rfl
        · rfl
      rw [this, World.cell?_alloc_lt _ _ _ hb, hc, ← hj2]
      simp [List.getD_eq_getElem?_getD, List.getElem?_eq_getElem hj']
    have h1 : ∀ u ∈ l.map (Value.int .i64), u.oneCell' = true := by
      intro u hu; obtain ⟨x, _, rfl⟩ := List.mem_map.1 hu; rfl
    go_enter Try.func68, Try.ntmps68
    go_wp2_with (first | (at_builtin; go_loud (refine wpList_append_own _ rfl _ _ 35 rfl w.heap.size 3 i0 (.int .i64 0) 1 8 Try.underlying35 hi hz2 hz0 hz1 rfl (by decide) _ _ _ rfl hown a l.length c (l.map (Value.int .i64)) rfl (by simp) hnews h1 (by simp [maxLen]; omega) (by omega) (by simp) ?_; intro v' w1 hown1 hgrow1 _)))
    go_ret
    exact ⟨_, rfl, by simpa using hown1, ((Below.refl _ _).alloc (Nat.le_refl _) _).grown hgrow1 (by simp) (fun k e => by cases e; exact Nat.le_refl _)⟩
theorem clone_k {n0 nx a : Nat} {k : Kd} {l : List Int} {L : List E} {K : V → List E → Nat → Prop} (hn : l.length ≤ 1000000) (ha : find L a = some ⟨a, k, l.map C.i⟩) (hK : K (V.c (.sl nx l.length)) [⟨nx, .vec 3 1, l.map C.i⟩] (nx + 1)) : CallK Try.prog n0 68 [V.c (.sl a l.length)] L nx K :=
  CallK.oldVec (by kernel_rfl) (fun ρ w hp => clone_any (ρ a).1 (ρ a).2 l w (by have := (hp.row ha).1; rw [den_ints] at this; exact this) hn) hK
end Go.Proofs.Ytjijjncddjkdlaa

/- Two neighbours of an order exchanged. Plain law. -/
namespace Go.Proofs.Ytjijjncddjkdlaa
open Go.RowKit
set_option linter.unusedVariables false
set_option linter.unusedSimpArgs false
theorem jobsF_append {j : Coast} : ∀ {a b : List Nat} {f : Nat → Nat}, jobsF j f (a ++ b) = jobsF j f a ++ jobsF j (fun c => f c + a.count c) b
  | [], b, f => by simp [jobsF]
  | x :: a, b, f => by
    simp only [List.cons_append, jobsF]
    rw [jobsF_append]
    congr 2
    have : (fun c => upd f x 1 c + a.count c) = fun c => f c + (x :: a).count c := by
      funext c
      rw [List.count_cons]
      by_cases h : c = x
      · subst h; rw [upd_same]; simp; omega
      · rw [upd_ne h]
        have : (x == c) = false := by simpa using fun e => h e.symm
        rw [this]; simp
    rw [this]
/-- The order with two neighbours exchanged. -/
def swapL {α : Type} (d : α) (o : List α) (at' : Nat) : List α := (o.set at' (o.getD (at' + 1) d)).set (at' + 1) (o.getD at' d)
theorem swapL_len {α : Type} {d : α} {o : List α} {a : Nat} : (swapL d o a).length = o.length := by simp [swapL]
theorem swap_parts {α : Type} {d : α} : ∀ {o : List α} {n : Nat}, n + 1 < o.length → ∃ a x y r, o = a ++ x :: y :: r ∧ a.length = n ∧ swapL d o n = a ++ y :: x :: r ∧ o.getD n d = x ∧ o.getD (n + 1) d = y
  | x :: y :: r, 0, _ => ⟨[], x, y, r, rfl, rfl, rfl, rfl, rfl⟩
  | z :: o, n + 1, h => by
    obtain ⟨a, x, y, r, h1, h2, h3, h4, h5⟩ := swap_parts (d := d) (o := o) (n := n) (by simpa using h)
    refine ⟨z :: a, x, y, r, by rw [h1]; rfl, by simp [h2], ?_, h4, h5⟩
    have : swapL d (z :: o) (n + 1) = z :: swapL d o n := by simp [swapL]
    rw [this, h3]; rfl
theorem swap_swap {α : Type} {d : α} {o : List α} {n : Nat} (h : n + 1 < o.length) : swapL d (swapL d o n) n = o := by
  obtain ⟨a, x, y, r, h1, h2, h3, h4, h5⟩ := swap_parts (d := d) h
  obtain ⟨a', x', y', r', k1, k2, k3, k4, k5⟩ := swap_parts (d := d) (o := swapL d o n) (n := n) (by rw [swapL_len]; exact h)
  rw [k3, h1]
  rw [h3] at k1
  obtain ⟨e1, e2⟩ := List.append_inj k1 (by omega)
  simp only [List.cons.injEq] at e2
  obtain ⟨rfl, rfl, rfl⟩ := e2
  rw [e1]
theorem swap_natsC {o : List Nat} {n : Nat} (h : n + 1 < o.length) : swapL 0 (natsC o) n = natsC (swapL 0 o n) := by
  obtain ⟨a, x, y, r, h1, h2, h3, h4, h5⟩ := swap_parts (d := 0) h
  unfold swapL
  rw [natsC_get, natsC_get]
  simp only [natsC, List.map_set]
  rfl
theorem swap_ord {j : Coast} {f : Nat → Nat} {o : List Nat} {n : Nat} (ho : OrdF j f o) (h : n + 1 < o.length) : OrdF j f (swapL 0 o n) := by
  obtain ⟨a, x, y, r, h1, h2, h3, h4, h5⟩ := swap_parts (d := 0) h
  rw [h3]
  subst h1
  refine ⟨fun z hz => ho.lt z ?_, fun b hb => ?_⟩
  · simp only [List.mem_append, List.mem_cons] at hz ⊢
    rcases hz with hz | hz | hz | hz
    · exact .inl hz
    · exact .inr (.inr (.inl hz))
    · exact .inr (.inl hz)
    · exact .inr (.inr (.inr hz))
  · have := ho.cnt b hb
    simp only [List.count_append, List.count_cons] at this ⊢
    omega
theorem swap_harm {j : Coast} {o : List Nat} {n : Nat} (h : n + 1 < o.length) (hne : o.getD n 0 ≠ o.getD (n + 1) 0) :
    costS 0 (jobsF j (fun _ => 0) (swapL 0 o n)) - costS 0 (jobsF j (fun _ => 0) o) =
      ((j.getD (o.getD n 0) []).getD ((o.take n).count (o.getD n 0)) (0, 0)).2 * ((j.getD (o.getD (n + 1) 0) []).getD ((o.take n).count (o.getD (n + 1) 0)) (0, 0)).1 -
      ((j.getD (o.getD (n + 1) 0) []).getD ((o.take n).count (o.getD (n + 1) 0)) (0, 0)).2 * ((j.getD (o.getD n 0) []).getD ((o.take n).count (o.getD n 0)) (0, 0)).1 := by
  obtain ⟨a, x, y, r, h1, h2, h3, h4, h5⟩ := swap_parts (d := 0) h
  rw [h3, h4, h5]
  rw [h4, h5] at hne
  have ht : o.take n = a := by rw [h1, ← h2]; simp
  rw [ht]
  subst h1
  rw [jobsF_append, jobsF_append, costS_app, costS_app]
  simp only [jobsF, Nat.zero_add, costS]
  rw [upd_ne (fun e => hne e), upd_ne (fun e => hne e.symm), upd_comm (fun c => a.count c) (b := y) (c := x)]
  generalize hS (jobsF j (fun _ => 0) a) = t
  generalize (j.getD x []).getD (a.count x) (0, 0) = X
  generalize (j.getD y []).getD (a.count y) (0, 0) = Y
  rw [show 0 + t + Y.1 + X.1 = 0 + t + X.1 + Y.1 by omega]
  grind
end Go.Proofs.Ytjijjncddjkdlaa

/- Shore: Best, Swap. -/
namespace Go.Proofs.Ytjijjncddjkdlaa
open Go.RowKit
set_option linter.unusedVariables false
set_option linter.unusedSimpArgs false
theorem bestE_spec (j : Coast) (hj : Sized j) : Spec Try.prog 32 [V.c (.sl 0 j.length)] (⟨0, .ro 1, slsC 1 j⟩ :: entC 1 j) 32 (fun v L' _ => intsX (if validL j then natsC (bestO j) else []) (if validL j then 0 else 60) v L') := by
  have hj20 := hj.len
  have hC : HasC (⟨0, .ro 1, slsC 1 j⟩ :: entC 1 j) j := ⟨rfl, fun k hk => by (repeat (first | rw [find_skip (by omega)] | rw [find_hi (by omega) (by rfl)])); exact entC_find hk⟩
  refine Spec.of tok Try.func32 rfl rfl rfl fun n0 cx => vc_ok tok ?_
  cases hv : validL j with
  | true =>
    have hm := validL_many hv
    have hc := validL_coast hj hv
    repeat ((conv => whnf); first
        | (refine And.intro (by first | omega | exact Nat.le_of_ble_eq_true rfl | (dsimp only [inK]; omega) | (simp only [mulS_eq]; omega) | (simp only [mulS_eq, setL_length]; omega) | (simp only [setL_length, List.length_map]; omega) | exact ⟨by omega, by omega, by first | exact Nat.le_of_ble_eq_true rfl | (dsimp only; omega) | (simp only [setL_length]; omega) | (simp only [setL_length, List.length_map]; omega)⟩ | exact ⟨by omega, by first | rfl | omega, by omega, Nat.le_of_ble_eq_true rfl, Nat.le_of_ble_eq_true rfl⟩ | exact ⟨rfl, rfl, rfl, Nat.le_of_ble_eq_true rfl, by first | rfl | omega | exact Nat.le_of_ble_eq_true rfl | (dsimp only; omega) | (simp; done) | (simp; omega), by first | rfl | omega | exact Nat.le_of_ble_eq_true rfl | (dsimp only; omega) | (simp; done) | (simp; omega), by omega, Nat.le_of_ble_eq_true rfl⟩ | exact Eq.refl true) ?_)
        | (refine Exists.intro _ (And.intro rfl ?_))
        | (refine And.intro (And.intro rfl (chk_rowI _ _ _ _)) ?_)
        | (refine br_t (by omega) ?_)
        | (refine br_f (by omega) ?_)
        | (refine bs_t (by omega) ?_)
        | (refine bs_f (by omega) ?_)
        | (refine fun (K' : K3) hK' => ?_)
        | (refine hK' _ _ _ ?_; clear hK' K')
        | (refine CallM.eq (by kernel_rfl) (open_spec j hj _ _ hC) ?_)
        | (refine draw_auto tok mixed (by kernel_rfl) ?_)
        | (rw [hv])
        | (refine CallK.ints (R := []) (best_spec j hc hj (by omega)) (by kernel_rfl) rfl (by simp [V.wf, A.wf, C.wf]) (hC.ro hj) (injC hj) ?_)
        | (refine bs_bt (Eq.refl true) ?_)
        | (refine bs_bf (Eq.refl false) ?_)
        | (refine br_bt (Eq.refl true) ?_)
        | (refine br_bf (Eq.refl false) ?_)
        | (refine CallK.m ?_)
        | (refine And.intro (And.intro rfl rfl) ?_))
    exact .inr ⟨32, rfl, rfl⟩
  | false =>
    repeat ((conv => whnf); first
        | (refine And.intro (by first | omega | exact Nat.le_of_ble_eq_true rfl | (dsimp only [inK]; omega) | (simp only [mulS_eq]; omega) | (simp only [mulS_eq, setL_length]; omega) | (simp only [setL_length, List.length_map]; omega) | exact ⟨by omega, by omega, by first | exact Nat.le_of_ble_eq_true rfl | (dsimp only; omega) | (simp only [setL_length]; omega) | (simp only [setL_length, List.length_map]; omega)⟩ | exact ⟨by omega, by first | rfl | omega, by omega, Nat.le_of_ble_eq_true rfl, Nat.le_of_ble_eq_true rfl⟩ | exact ⟨rfl, rfl, rfl, Nat.le_of_ble_eq_true rfl, by first | rfl | omega | exact Nat.le_of_ble_eq_true rfl | (dsimp only; omega) | (simp; done) | (simp; omega), by first | rfl | omega | exact Nat.le_of_ble_eq_true rfl | (dsimp only; omega) | (simp; done) | (simp; omega), by omega, Nat.le_of_ble_eq_true rfl⟩ | exact Eq.refl true) ?_)
        | (refine Exists.intro _ (And.intro rfl ?_))
        | (refine And.intro (And.intro rfl (chk_rowI _ _ _ _)) ?_)
        | (refine br_t (by omega) ?_)
        | (refine br_f (by omega) ?_)
        | (refine bs_t (by omega) ?_)
        | (refine bs_f (by omega) ?_)
        | (refine fun (K' : K3) hK' => ?_)
        | (refine hK' _ _ _ ?_; clear hK' K')
        | (refine CallM.eq (by kernel_rfl) (open_spec j hj _ _ hC) ?_)
        | (refine draw_auto tok mixed (by kernel_rfl) ?_)
        | (rw [hv])
        | (refine bs_bt (Eq.refl true) ?_)
        | (refine bs_bf (Eq.refl false) ?_)
        | (refine br_bt (Eq.refl true) ?_)
        | (refine br_bf (Eq.refl false) ?_)
        | (refine CallK.m ?_)
        | (refine And.intro (And.intro rfl rfl) ?_))
    exact .inl ⟨rfl, rfl⟩
/-- Numbers, a number and an error. -/
def intsN (l : List Int) (n Er : Int) (v : V) (L' : List E) : Prop :=
  ∃ o : C, v = V.tup [A.c o, A.c (C.i n), A.c (C.i Er)] ∧ ((o = C.nil ∧ l = []) ∨ ∃ lab, o = C.sl lab l.length ∧ find L' lab = some ⟨lab, .vec 3 1, l.map C.i⟩)
theorem CallK.intsN' {P : Program} {n0 nx nac : Nat} {f : FuncId} {vs vs' : List V} {Lc L : List E} {R : Rn} {K : V → List E → Nat → Prop} {l : List Int} {n Er : Int} (spec : Spec P f vs Lc nac (fun v L' _ => intsN l n Er v L')) (hok : callB P f = true)
    (hv : renVs R vs = some vs') (hvw : ∀ v ∈ vs, v.wf nac) (hL : roL R nac L Lc) (hLc : injB [] Lc = true)
    (hK : K (V.tup [A.c (.sl nx l.length), A.c (C.i n), A.c (C.i Er)]) [⟨nx, .vec 3 1, l.map C.i⟩] (nx + 1)) : CallK P n0 f vs' L nx K := by
  refine CallK.mk' hok spec hv hvw hL hLc ?_
  rintro v L' nx' hw ⟨o, rfl, ⟨rfl, rfl⟩ | ⟨lab, rfl, hf⟩⟩
  · refine ⟨V.tup [A.c (.sl nx 0), A.c (C.i n), A.c (C.i Er)], [⟨nx, .vec 3 1, []⟩], nx + 1, [(nx, none)], ⟨Nat.le_succ _, ?_, ?_, ⟨covE_nil (renL_one _ _) (Nat.lt_succ_self nx) rfl rfl, trivial⟩, rfl, ?_⟩, hK⟩
    · simp [V.ren, A.ren, C.ren, renL_one, C.i, seqO]
    · simp [V.chk, A.chk, C.chk, inLab_one, C.i]
    · simp only [List.all_cons, List.all_nil, Bool.and_true, inLab_one, Kd.isRo, Bool.not_false]
  · refine ⟨V.tup [A.c (.sl nx l.length), A.c (C.i n), A.c (C.i Er)], [⟨nx, .vec 3 1, l.map C.i⟩], nx + 1, [(nx, some lab)], ⟨Nat.le_succ _, ?_, ?_, ⟨covE_some (renL_one _ _) (Nat.lt_succ_self nx) (wf_ints _ _) hf (ren_ints _ _), trivial⟩, rfl, ?_⟩, hK⟩
    · simp [V.ren, A.ren, C.ren, renL_one, C.i, seqO]
    · simp [V.chk, A.chk, C.chk, inLab_one, C.i]
    · simp only [List.all_cons, List.all_nil, Bool.and_true, inLab_one, Kd.isRo, Bool.not_false, Bool.true_and]
      exact chk_ints _ _
/-- What Swap answers. -/
def swapE (j : Coast) (o : List Int) (at' : Int) : Int :=
  if validL j then (if isOrdB j o then (if 0 ≤ at' ∧ at' ≤ (o.length : Int) - 2 then (if o.getD at'.toNat 0 = o.getD (at'.toNat + 1) 0 then 5 else 0) else 2) else 61) else 60
def swapLs (j : Coast) (o : List Int) (at' : Int) : List Int := if swapE j o at' = 0 then swapL 0 o at'.toNat else []
def swapNm (j : Coast) (o : List Int) (at' : Int) : Int := if swapE j o at' = 0 then harmO j (swapL 0 o at'.toNat) o.length - harmO j o o.length else 0
theorem ints_get2 {l : List Int} {z : Int} {k : Nat} (hz : z = k) (h : k + 1 < l.length) : (l.map C.i)[mulS (z + 1).toNat 1]? = some (C.i (l.getD (k + 1) 0)) :=
  intLz (by omega) h
theorem ints_swap {l : List Int} {z u v : Int} {k : Nat} (hz : z = k) (hu : u = l.getD (k + 1) 0) (hv : v = l.getD k 0) : setL (setL (l.map C.i) (mulS z.toNat 1) [C.i u]) (mulS (z + 1).toNat 1) [C.i v] = (swapL 0 l k).map C.i := by
  subst hz hu hv
  rw [mulS_eq, mulS_eq]
  have e : ((k : Int) + 1).toNat = k + 1 := by omega
  simp only [setL, e, Int.toNat_natCast, Nat.mul_one, swapL, List.map_set]
theorem swapI_ord {j : Coast} (hm : manyN j j.length ≤ 100) {o : List Int} {n : Nat} (h : isOrdB j o = true) (hn : n + 1 < o.length) : isOrdB j (swapL 0 o n) = true := by
  obtain ⟨o', rfl, h1⟩ := (isOrd_iff hm).1 h
  rw [natsC_len] at hn
  exact (isOrd_iff hm).2 ⟨swapL 0 o' n, swap_natsC hn, swap_ord h1 hn⟩
set_option maxRecDepth 100000 in
theorem swap_spec (j : Coast) (o : List Int) (at' : Int) (hj : Sized j) (ho : o.length ≤ 200) (hat : -9223372036854775808 ≤ at' ∧ at' ≤ 9223372036854775807) :
    Spec Try.prog 31 [V.c (.sl 0 j.length), V.c (.sl 21 o.length), V.i at'] (⟨0, .ro 1, slsC 1 j⟩ :: ⟨21, .ro 0, o.map C.i⟩ :: entC 1 j) 32 (fun v L' _ => intsN (swapLs j o at') (swapNm j o at') (swapE j o at') v L') := by
  have hj20 := hj.len
  have hO := hasO0 (o := o) hj
  by_cases hv : validL j = true
  case neg =>
    have hv : validL j = false := by simpa using hv
    have e : swapE j o at' = 60 := by simp [swapE, hv]
    simp only [swapLs, swapNm, e]
    refine Spec.of tok Try.func31 rfl rfl rfl fun n0 cx => vc_ok tok ?_
    repeat ((conv => whnf); first
        | (refine And.intro (by first | omega | exact Nat.le_of_ble_eq_true rfl | (dsimp only [inK]; omega) | (simp only [mulS_eq]; omega) | (simp only [mulS_eq, setL_length]; omega) | (simp only [setL_length, List.length_map]; omega) | exact ⟨by omega, by omega, by first | exact Nat.le_of_ble_eq_true rfl | (dsimp only; omega) | (simp only [setL_length]; omega) | (simp only [setL_length, List.length_map]; omega)⟩ | exact ⟨by omega, by first | rfl | omega, by omega, Nat.le_of_ble_eq_true rfl, Nat.le_of_ble_eq_true rfl⟩ | exact ⟨rfl, rfl, rfl, Nat.le_of_ble_eq_true rfl, by first | rfl | omega | exact Nat.le_of_ble_eq_true rfl | (dsimp only; omega) | (simp; done) | (simp; omega), by first | rfl | omega | exact Nat.le_of_ble_eq_true rfl | (dsimp only; omega) | (simp; done) | (simp; omega), by omega, Nat.le_of_ble_eq_true rfl⟩ | exact Eq.refl true) ?_)
        | (refine Exists.intro _ (And.intro rfl ?_))
        | (refine And.intro (And.intro rfl (chk_rowI _ _ _ _)) ?_)
        | (refine br_t (by omega) ?_)
        | (refine br_f (by omega) ?_)
        | (refine bs_t (by omega) ?_)
        | (refine bs_f (by omega) ?_)
        | (refine fun (K' : K3) hK' => ?_)
        | (refine hK' _ _ _ ?_; clear hK' K')
        | (refine CallM.eq (by kernel_rfl) (ordered_spec j o hj ho _ _ hO) ?_)
        | (refine draw_auto tok mixed (by kernel_rfl) ?_)
        | (rw [hv])
        | (refine bs_bt (Eq.refl true) ?_)
        | (refine bs_bf (Eq.refl false) ?_)
        | (refine br_bt (Eq.refl true) ?_)
        | (refine br_bf (Eq.refl false) ?_)
        | (refine CallK.m ?_)
        | (refine And.intro (And.intro rfl rfl) ?_))
    exact .inl ⟨rfl, rfl⟩
  have hm := validL_many hv
  have hc := validL_coast hj hv
  by_cases hi : isOrdB j o = true
  case neg =>
    have hi : isOrdB j o = false := by simpa using hi
    have e : swapE j o at' = 61 := by simp [swapE, hv, hi]
    simp only [swapLs, swapNm, e]
    refine Spec.of tok Try.func31 rfl rfl rfl fun n0 cx => vc_ok tok ?_
    repeat ((conv => whnf); first
        | (refine And.intro (by first | omega | exact Nat.le_of_ble_eq_true rfl | (dsimp only [inK]; omega) | (simp only [mulS_eq]; omega) | (simp only [mulS_eq, setL_length]; omega) | (simp only [setL_length, List.length_map]; omega) | exact ⟨by omega, by omega, by first | exact Nat.le_of_ble_eq_true rfl | (dsimp only; omega) | (simp only [setL_length]; omega) | (simp only [setL_length, List.length_map]; omega)⟩ | exact ⟨by omega, by first | rfl | omega, by omega, Nat.le_of_ble_eq_true rfl, Nat.le_of_ble_eq_true rfl⟩ | exact ⟨rfl, rfl, rfl, Nat.le_of_ble_eq_true rfl, by first | rfl | omega | exact Nat.le_of_ble_eq_true rfl | (dsimp only; omega) | (simp; done) | (simp; omega), by first | rfl | omega | exact Nat.le_of_ble_eq_true rfl | (dsimp only; omega) | (simp; done) | (simp; omega), by omega, Nat.le_of_ble_eq_true rfl⟩ | exact Eq.refl true) ?_)
        | (refine Exists.intro _ (And.intro rfl ?_))
        | (refine And.intro (And.intro rfl (chk_rowI _ _ _ _)) ?_)
        | (refine br_t (by omega) ?_)
        | (refine br_f (by omega) ?_)
        | (refine bs_t (by omega) ?_)
        | (refine bs_f (by omega) ?_)
        | (refine fun (K' : K3) hK' => ?_)
        | (refine hK' _ _ _ ?_; clear hK' K')
        | (refine CallM.eq (by kernel_rfl) (ordered_spec j o hj ho _ _ hO) ?_)
        | (refine draw_auto tok mixed (by kernel_rfl) ?_)
        | (rw [hv])
        | (rw [hi])
        | (refine bs_bt (Eq.refl true) ?_)
        | (refine bs_bf (Eq.refl false) ?_)
        | (refine br_bt (Eq.refl true) ?_)
        | (refine br_bf (Eq.refl false) ?_)
        | (refine CallK.m ?_)
        | (refine And.intro (And.intro rfl rfl) ?_))
    exact .inl ⟨rfl, rfl⟩
  by_cases hr : 0 ≤ at' ∧ at' ≤ (o.length : Int) - 2
  case neg =>
    have e : swapE j o at' = 2 := by simp only [swapE, hv, hi, if_true]; rw [if_neg hr]
    simp only [swapLs, swapNm, e]
    refine Spec.of tok Try.func31 rfl rfl rfl fun n0 cx => vc_ok tok ?_
    repeat ((conv => whnf); first
        | (refine And.intro (by first | omega | exact Nat.le_of_ble_eq_true rfl | (dsimp only [inK]; omega) | (simp only [mulS_eq]; omega) | (simp only [mulS_eq, setL_length]; omega) | (simp only [setL_length, List.length_map]; omega) | exact ⟨by omega, by omega, by first | exact Nat.le_of_ble_eq_true rfl | (dsimp only; omega) | (simp only [setL_length]; omega) | (simp only [setL_length, List.length_map]; omega)⟩ | exact ⟨by omega, by first | rfl | omega, by omega, Nat.le_of_ble_eq_true rfl, Nat.le_of_ble_eq_true rfl⟩ | exact ⟨rfl, rfl, rfl, Nat.le_of_ble_eq_true rfl, by first | rfl | omega | exact Nat.le_of_ble_eq_true rfl | (dsimp only; omega) | (simp; done) | (simp; omega), by first | rfl | omega | exact Nat.le_of_ble_eq_true rfl | (dsimp only; omega) | (simp; done) | (simp; omega), by omega, Nat.le_of_ble_eq_true rfl⟩ | exact Eq.refl true) ?_)
        | (refine Exists.intro _ (And.intro rfl ?_))
        | (refine And.intro (And.intro rfl (chk_rowI _ _ _ _)) ?_)
        | (refine br_t (by omega) ?_)
        | (refine br_f (by omega) ?_)
        | (refine bs_t (by omega) ?_)
        | (refine bs_f (by omega) ?_)
        | (refine fun (K' : K3) hK' => ?_)
        | (refine hK' _ _ _ ?_; clear hK' K')
        | (refine CallM.eq (by kernel_rfl) (ordered_spec j o hj ho _ _ hO) ?_)
        | (refine draw_auto tok mixed (by kernel_rfl) ?_)
        | (rw [hv])
        | (rw [hi])
        | (refine CallK.val (R := []) (between_spec _ _ _) (by kernel_rfl) rfl (by simp [V.wf, A.wf, C.wf, V.i]) trivial rfl rfl trivial ?_)
        | (refine br_bt (by rw [decide_eq_false hr]; rfl) ?_)
        | (refine bs_bt (Eq.refl true) ?_)
        | (refine bs_bf (Eq.refl false) ?_)
        | (refine br_bt (Eq.refl true) ?_)
        | (refine br_bf (Eq.refl false) ?_)
        | (refine CallK.m ?_)
        | (refine And.intro (And.intro rfl rfl) ?_))
    exact .inl ⟨rfl, rfl⟩
  obtain ⟨k, rfl⟩ : ∃ n : Nat, at' = n := ⟨at'.toNat, by omega⟩
  have hk : k + 1 < o.length := by omega
  have hom : (o.map C.i).length = o.length := by simp
  by_cases hq : o.getD k 0 = o.getD (k + 1) 0
  case pos =>
    have e : swapE j o k = 5 := by simp only [swapE, hv, hi, if_true]; rw [if_pos hr, Int.toNat_natCast, if_pos hq]
    simp only [swapLs, swapNm, e]
    refine Spec.of tok Try.func31 rfl rfl rfl fun n0 cx => vc_ok tok ?_
    repeat ((conv => whnf); first
        | (refine And.intro (by first | omega | exact Nat.le_of_ble_eq_true rfl | (dsimp only [inK]; omega) | (simp only [mulS_eq]; omega) | (simp only [mulS_eq, setL_length]; omega) | (simp only [setL_length, List.length_map]; omega) | exact ⟨by omega, by omega, by first | exact Nat.le_of_ble_eq_true rfl | (dsimp only; omega) | (simp only [setL_length]; omega) | (simp only [setL_length, List.length_map]; omega)⟩ | exact ⟨by omega, by first | rfl | omega, by omega, Nat.le_of_ble_eq_true rfl, Nat.le_of_ble_eq_true rfl⟩ | exact ⟨rfl, rfl, rfl, Nat.le_of_ble_eq_true rfl, by first | rfl | omega | exact Nat.le_of_ble_eq_true rfl | (dsimp only; omega) | (simp; done) | (simp; omega), by first | rfl | omega | exact Nat.le_of_ble_eq_true rfl | (dsimp only; omega) | (simp; done) | (simp; omega), by omega, Nat.le_of_ble_eq_true rfl⟩ | exact Eq.refl true) ?_)
        | (with_reducible refine ld (intL (show k < o.length by omega)) ?_)
        | (with_reducible refine ld (ints_get2 rfl hk) ?_)
        | (refine Exists.intro _ (And.intro rfl ?_))
        | (refine And.intro (And.intro rfl (chk_rowI _ _ _ _)) ?_)
        | (refine br_t (by omega) ?_)
        | (refine br_f (by omega) ?_)
        | (refine bs_t (by omega) ?_)
        | (refine bs_f (by omega) ?_)
        | (refine fun (K' : K3) hK' => ?_)
        | (refine hK' _ _ _ ?_; clear hK' K')
        | (refine CallM.eq (by kernel_rfl) (ordered_spec j o hj ho _ _ hO) ?_)
        | (refine draw_auto tok mixed (by kernel_rfl) ?_)
        | (rw [hv])
        | (rw [hi])
        | (refine CallK.val (R := []) (between_spec _ _ _) (by kernel_rfl) rfl (by simp [V.wf, A.wf, C.wf, V.i]) trivial rfl rfl trivial ?_)
        | (refine br_bf (by rw [decide_eq_true hr]; rfl) ?_)
        | (refine br_t hq ?_)
        | (refine bs_bt (Eq.refl true) ?_)
        | (refine bs_bf (Eq.refl false) ?_)
        | (refine br_bt (Eq.refl true) ?_)
        | (refine br_bf (Eq.refl false) ?_)
        | (refine CallK.m ?_)
        | (refine And.intro (And.intro rfl rfl) ?_))
    exact .inl ⟨rfl, rfl⟩
  have e : swapE j o k = 0 := by simp only [swapE, hv, hi, if_true]; rw [if_pos hr, Int.toNat_natCast, if_neg hq]
  have hi2 := swapI_ord (by omega) hi hk
  have hl2 : (swapL 0 o k).length = o.length := swapL_len
  have h1 := harmO_bd hc (isOrd_ok hi) o.length (Nat.le_refl _)
  have h2 := harmO_bd hc (isOrd_ok hi2) (swapL 0 o k).length (Nat.le_refl _)
  simp only [swapLs, swapNm, e, if_true, Int.toNat_natCast]
  rw [hl2] at h2
  have hHx := harm_spec j (swapL 0 o k) hc (isOrd_ok hi2)
  rw [hl2] at hHx
  refine Spec.of tok Try.func31 rfl rfl rfl fun n0 cx => vc_ok tok ?_
  repeat ((conv => whnf); first
      | (refine And.intro (by first | omega | exact Nat.le_of_ble_eq_true rfl | (dsimp only [inK]; omega) | (simp only [mulS_eq]; omega) | (simp only [mulS_eq, setL_length]; omega) | (simp only [setL_length, List.length_map]; omega) | exact ⟨by omega, by omega, by first | exact Nat.le_of_ble_eq_true rfl | (dsimp only; omega) | (simp only [setL_length]; omega) | (simp only [setL_length, List.length_map]; omega)⟩ | exact ⟨by omega, by first | rfl | omega, by omega, Nat.le_of_ble_eq_true rfl, Nat.le_of_ble_eq_true rfl⟩ | exact ⟨rfl, rfl, rfl, Nat.le_of_ble_eq_true rfl, by first | rfl | omega | exact Nat.le_of_ble_eq_true rfl | (dsimp only; omega) | (simp; done) | (simp; omega), by first | rfl | omega | exact Nat.le_of_ble_eq_true rfl | (dsimp only; omega) | (simp; done) | (simp; omega), by omega, Nat.le_of_ble_eq_true rfl⟩ | exact Eq.refl true) ?_)
      | (with_reducible refine ld (intL (show k < o.length by omega)) ?_)
      | (with_reducible refine ld (ints_get2 rfl hk) ?_)
      | (refine Exists.intro _ (And.intro rfl ?_))
      | (refine And.intro (And.intro rfl (chk_rowI _ _ _ _)) ?_)
      | (refine br_t (by omega) ?_)
      | (refine br_f (by omega) ?_)
      | (refine bs_t (by omega) ?_)
      | (refine bs_f (by omega) ?_)
      | (refine fun (K' : K3) hK' => ?_)
      | (refine hK' _ _ _ ?_; clear hK' K')
      | (refine CallM.eq (by kernel_rfl) (ordered_spec j o hj ho _ _ hO) ?_)
      | (refine draw_late 16 [32] tok mixed (by decide +kernel) ?_)
      | (refine draw_auto tok mixed (by kernel_rfl) ?_)
      | (rw [hv])
      | (rw [hi])
      | (refine CallK.val (R := []) (between_spec _ _ _) (by kernel_rfl) rfl (by simp [V.wf, A.wf, C.wf, V.i]) trivial rfl rfl trivial ?_)
      | (refine br_bf (by rw [decide_eq_true hr]; rfl) ?_)
      | (refine br_f hq ?_)
      | (refine clone_k (by omega) rfl ?_)
      | (with_reducible refine visC_ent rfl (by omega) ?_)
      | (with_reducible refine relC_ent rfl (by omega) ?_)
      | (with_reducible refine updK_ent (by omega) ?_)
      | (with_reducible refine rmK_ent (by omega) ?_)
      | (refine CallK.val (R := [(21, some 32)]) hHx (by kernel_rfl) rfl (by simp [V.wf, A.wf, C.wf]) (HasC.roO ⟨rfl, fun k hk => by (repeat (first | rw [find_skip (by omega)] | rw [find_hi (by omega) (by rfl)])); exact entC_find hk⟩ hj (congrArg (fun m => some (E.mk 32 (.vec 3 1) m)) (ints_swap rfl rfl rfl))) (injO hj) rfl trivial ?_)
      | (refine CallK.val (R := []) (harm_spec j o hc (isOrd_ok hi)) (by kernel_rfl) rfl (by simp [V.wf, A.wf, C.wf]) (HasO.ro ⟨⟨rfl, fun k hk => by (repeat (first | rw [find_skip (by omega)] | rw [find_hi (by omega) (by rfl)])); exact entC_find hk⟩, rfl⟩ hj) (injO hj) rfl trivial ?_)
      | (refine bs_bt (Eq.refl true) ?_)
      | (refine bs_bf (Eq.refl false) ?_)
      | (refine br_bt (Eq.refl true) ?_)
      | (refine br_bf (Eq.refl false) ?_)
      | (refine CallK.m ?_)
      | (refine And.intro (And.intro rfl rfl) ?_))
  refine .inr ⟨32, congrArg (C.sl 32) hl2.symm, congrArg (fun m => some (E.mk 32 (.vec 3 1) m)) (ints_swap rfl rfl rfl)⟩
end Go.Proofs.Ytjijjncddjkdlaa

