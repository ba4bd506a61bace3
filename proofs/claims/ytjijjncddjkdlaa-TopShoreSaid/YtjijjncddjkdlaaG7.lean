/- Texts of the proof, part 7: L6, L9. -/
import Derived.Test.YtjijjncddjkdlaaG6
import Derived.WalkKit
import Derived.Below
import Derived.Laws.OwnMore
import Derived.Maps.AppendAt
import Derived.Laws.IdiomCopy
import Derived.Laws.CopyRow
import Derived.IntWalk
import Derived.StillTail
import Derived.Scope
import Derived.ChangeKeysEq
import Derived.Laws.Small
import Derived.OrdersIn
import Derived.TacticsIn
import Derived.OwnWalkIn
import Derived.RangeFuncNested
import Derived.RangeFuncLeaves
import Derived.RangeFuncRecord
import Derived.Test.YtjijjncddjkdlaaRows
import Derived.KernelRfl
import Derived.ProofKit
import Derived.OpenShut
import Derived.Lib.SmallJoins
import Derived.Deep.Slices
import Derived.PlainAid
import Derived.StillTailTactics
import Derived.WalkSpells
import Derived.OwnWalk
/- The law of an exchange. -/
namespace Go.Proofs.Ytjijjncddjkdlaa
open Go.RowKit
set_option linter.unusedVariables false
set_option linter.unusedSimpArgs false
theorem swapped_long (j : Coast) (o : List Int) (at' : Int) (hj : j.length < 9223372036854775808) (hl : longB j = true ∨ 200 < o.length) :
    Spec Try.prog 6 [V.c (.sl 0 j.length), V.c (.sl (j.length + 31) o.length), V.i at'] [⟨0, .ro 1, slsC 1 j⟩] (j.length + 32) (Is (V.c (.bool true))) := by
  rcases bool_or (longB j) with h | h
  · have ho : (o.length : Int) > 200 := by have := hl.resolve_left (by rw [h]; simp); omega
    refine Spec.of tok Try.func6 rfl rfl rfl fun n0 cx => vc_ok tok ?_
    repeat ((conv => whnf); first
        | (refine And.intro (by first | omega | exact Nat.le_of_ble_eq_true rfl | (dsimp only [inK]; omega) | (simp only [mulS_eq]; omega) | (simp only [mulS_eq, setL_length]; omega) | (simp only [setL_length, List.length_map]; omega) | exact ⟨by omega, by omega, by first | exact Nat.le_of_ble_eq_true rfl | (dsimp only; omega) | (simp only [setL_length]; omega) | (simp only [setL_length, List.length_map]; omega)⟩ | exact ⟨by omega, by first | rfl | omega, by omega, Nat.le_of_ble_eq_true rfl, Nat.le_of_ble_eq_true rfl⟩ | exact ⟨rfl, rfl, rfl, Nat.le_of_ble_eq_true rfl, by first | rfl | omega | exact Nat.le_of_ble_eq_true rfl | (simp; done) | (simp; omega), by first | rfl | omega | exact Nat.le_of_ble_eq_true rfl | (simp; done) | (simp; omega), by omega, Nat.le_of_ble_eq_true rfl⟩ | exact Eq.refl true) ?_)
        | (refine Exists.intro _ (And.intro rfl ?_))
        | (refine And.intro (And.intro rfl (chk_rowI _ _ _ _)) ?_)
        | (refine br_t (by omega) ?_)
        | (refine br_f (by omega) ?_)
        | (refine bs_t (by omega) ?_)
        | (refine bs_f (by omega) ?_)
        | (refine fun (K' : K3) hK' => ?_)
        | (refine hK' _ _ _ ?_; clear hK' K')
        | (refine draw_auto tok mixed (by kernel_rfl) ?_)
        | (refine long_k hj rfl ?_)
        | (refine bs_bf h ?_)
        | (refine br_t ho ?_)
        | (refine sane_k ?_)
        | (refine bs_bt (Eq.refl true) ?_)
        | (refine bs_bf (Eq.refl false) ?_)
        | (refine br_bt (Eq.refl true) ?_)
        | (refine br_bf (Eq.refl false) ?_)
        | (refine CallK.m ?_)
        | (refine And.intro (And.intro rfl rfl) ?_))
    intro ρ; rfl
  · refine Spec.of tok Try.func6 rfl rfl rfl fun n0 cx => vc_ok tok ?_
    repeat ((conv => whnf); first
        | (refine And.intro (by first | omega | exact Nat.le_of_ble_eq_true rfl | (dsimp only [inK]; omega) | (simp only [mulS_eq]; omega) | (simp only [mulS_eq, setL_length]; omega) | (simp only [setL_length, List.length_map]; omega) | exact ⟨by omega, by omega, by first | exact Nat.le_of_ble_eq_true rfl | (dsimp only; omega) | (simp only [setL_length]; omega) | (simp only [setL_length, List.length_map]; omega)⟩ | exact ⟨by omega, by first | rfl | omega, by omega, Nat.le_of_ble_eq_true rfl, Nat.le_of_ble_eq_true rfl⟩ | exact ⟨rfl, rfl, rfl, Nat.le_of_ble_eq_true rfl, by first | rfl | omega | exact Nat.le_of_ble_eq_true rfl | (simp; done) | (simp; omega), by first | rfl | omega | exact Nat.le_of_ble_eq_true rfl | (simp; done) | (simp; omega), by omega, Nat.le_of_ble_eq_true rfl⟩ | exact Eq.refl true) ?_)
        | (refine Exists.intro _ (And.intro rfl ?_))
        | (refine And.intro (And.intro rfl (chk_rowI _ _ _ _)) ?_)
        | (refine br_t (by omega) ?_)
        | (refine br_f (by omega) ?_)
        | (refine bs_t (by omega) ?_)
        | (refine bs_f (by omega) ?_)
        | (refine fun (K' : K3) hK' => ?_)
        | (refine hK' _ _ _ ?_; clear hK' K')
        | (refine draw_auto tok mixed (by kernel_rfl) ?_)
        | (refine long_k hj rfl ?_)
        | (refine bs_bt h ?_)
        | (refine br_bt h ?_)
        | (refine sane_k ?_)
        | (refine bs_bt (Eq.refl true) ?_)
        | (refine bs_bf (Eq.refl false) ?_)
        | (refine br_bt (Eq.refl true) ?_)
        | (refine br_bf (Eq.refl false) ?_)
        | (refine CallK.m ?_)
        | (refine And.intro (And.intro rfl rfl) ?_))
    intro ρ; rfl
theorem find_vis {ks : List Nat} {l : Nat} (h : memN l ks = false) : ∀ {L : List E}, find (visL ks L) l = find L l
  | [] => rfl
  | ⟨lab, kd, cs⟩ :: r => by
    cases hm : memN lab ks with
    | true =>
      simp only [visL, hm, cond_true]
      rw [find_vis h, find_skip (fun e => by rw [e] at hm; rw [h] at hm; cases hm)]
    | false =>
      simp only [visL, hm, cond_false, find]
      rw [find_vis h]
theorem adr_none {ks : List Nat} {s : S} {t : TypeId} {x i : Operand} {l n : Nat} (h : ev s x = some (.a (.c (.sl l n)))) (hm : memN l ks = false) : adrOf ks s (.indexAddr t x i) = none := by
  simp only [adrOf, h, hm, cond_false]
theorem swapE_ok {j : Coast} {o : List Int} {at' : Int} (h : swapE j o at' = 0) : validL j = true ∧ isOrdB j o = true ∧ ∃ k : Nat, at' = k ∧ k + 1 < o.length ∧ o.getD k 0 ≠ o.getD (k + 1) 0 := by
  unfold swapE at h
  split at h
  case isFalse => omega
  next hv =>
    split at h
    case isFalse => omega
    next hi =>
      split at h
      case isFalse => omega
      next hr =>
        split at h
        case isTrue => omega
        next hq => exact ⟨hv, hi, at'.toNat, by omega, by omega, hq⟩
theorem swapE_mk {j : Coast} {o : List Int} {k : Nat} (hv : validL j = true) (hi : isOrdB j o = true) (hk : k + 1 < o.length) : swapE j o k = if o.getD k 0 = o.getD (k + 1) 0 then 5 else 0 := by
  simp only [swapE, hv, hi, if_true]
  rw [if_pos (by omega), Int.toNat_natCast]
theorem swapL_get {o : List Int} {k : Nat} (hk : k + 1 < o.length) : (swapL 0 o k).getD k 0 = o.getD (k + 1) 0 ∧ (swapL 0 o k).getD (k + 1) 0 = o.getD k 0 := by
  obtain ⟨a, x, y, r, h1, h2, h3, h4, h5⟩ := swap_parts (d := 0) hk
  rw [h3, h4, h5]
  subst h2
  simp [List.getD_eq_getElem?_getD]
/-- By how much an exchange makes the harm greater. -/
theorem swap_diff {j : Coast} (hm : manyN j j.length ≤ 100) {o : List Int} {k : Nat} (hi : isOrdB j o = true) (hk : k + 1 < o.length) (hq : o.getD k 0 ≠ o.getD (k + 1) 0) :
    harmO j (swapL 0 o k) o.length - harmO j o o.length = ((j.getD (beachO o k) []).getD (cntO o k (beachO o k)) (0, 0)).2 * ((j.getD (beachO o (k + 1)) []).getD (cntO o k (beachO o (k + 1))) (0, 0)).1 - ((j.getD (beachO o (k + 1)) []).getD (cntO o k (beachO o (k + 1))) (0, 0)).2 * ((j.getD (beachO o k) []).getD (cntO o k (beachO o k)) (0, 0)).1 := by
  obtain ⟨o', rfl, ho⟩ := (isOrd_iff hm).1 hi
  rw [natsC_len] at hk
  have hl : (swapL 0 (natsC o') k).length = (natsC o').length := swapL_len
  have h1 := harm_costS (j := j) (o := swapL 0 o' k)
  have h2 := harm_costS (j := j) (o := o')
  rw [← swap_natsC hk, hl] at h1
  rw [h1, h2, swap_harm hk (fun e => hq (by rw [natsC_get, natsC_get, e]))]
  rw [natsC_beach, natsC_beach, natsC_cnt, natsC_cnt]
/-- An exchange in the best order makes nothing better. -/
theorem swap_best {j : Coast} (hc : CoastOk j) (hm : manyN j j.length ≤ 100) {k : Nat} (hk : k + 1 < (bestO j).length) : 0 ≤ harmO j (swapL 0 (natsC (bestO j)) k) (natsC (bestO j)).length - harmO j (natsC (bestO j)) (natsC (bestO j)).length := by
  have hl : (swapL 0 (natsC (bestO j)) k).length = (natsC (bestO j)).length := swapL_len
  have h1 := harm_costS (j := j) (o := swapL 0 (bestO j) k)
  have h2 := harm_costS (j := j) (o := bestO j)
  rw [← swap_natsC hk, hl] at h1
  rw [h1, h2]
  have := bestO_least hc (swap_ord (bestO_ord hc) hk)
  omega
set_option maxHeartbeats 2000000 in
set_option maxRecDepth 100000 in
theorem swapped_spec (j : Coast) (o : List Int) (at' : Int) (hj : Sized j) (hl : longB j = false) (ho : o.length ≤ 200) (hat : -9223372036854775808 ≤ at' ∧ at' ≤ 9223372036854775807) :
    Spec Try.prog 6 [V.c (.sl 0 j.length), V.c (.sl 21 o.length), V.i at'] (⟨0, .ro 1, slsC 1 j⟩ :: ⟨21, .ro 0, o.map C.i⟩ :: entC 1 j) 32 (Is (V.c (.bool true))) := by
  have hj20 := hj.len
  have hlen := slsC_len (b := 1) (j := j)
  have h200 : ¬ (o.length : Int) > 200 := by omega
  have hS1 := swap_spec j o at' hj ho hat
  by_cases h0 : swapE j o at' = 0
  case neg =>
    have e1 : swapLs j o at' = [] := by unfold swapLs; rw [if_neg h0]
    have e2 : swapNm j o at' = 0 := by unfold swapNm; rw [if_neg h0]
    rw [e1, e2] at hS1
    refine Spec.of tok Try.func6 rfl rfl rfl fun n0 cx => vc_ok tok ?_
    repeat ((conv => whnf); first
        | (refine And.intro (by first | omega | exact Nat.le_of_ble_eq_true rfl | (dsimp only [inK]; omega) | (simp only [mulS_eq]; omega) | (simp only [mulS_eq, setL_length]; omega) | (simp only [setL_length, List.length_map]; omega) | exact ⟨by omega, by omega, by first | exact Nat.le_of_ble_eq_true rfl | (dsimp only; omega) | (simp only [setL_length]; omega) | (simp only [setL_length, List.length_map]; omega)⟩ | exact ⟨by omega, by first | rfl | omega, by omega, Nat.le_of_ble_eq_true rfl, Nat.le_of_ble_eq_true rfl⟩ | exact ⟨rfl, rfl, rfl, Nat.le_of_ble_eq_true rfl, by first | rfl | omega | exact Nat.le_of_ble_eq_true rfl | (simp; done) | (simp; omega), by first | rfl | omega | exact Nat.le_of_ble_eq_true rfl | (simp; done) | (simp; omega), by omega, Nat.le_of_ble_eq_true rfl⟩ | exact Eq.refl true) ?_)
        | (refine Exists.intro _ (And.intro rfl ?_))
        | (refine And.intro (And.intro rfl (chk_rowI _ _ _ _)) ?_)
        | (refine br_t (by omega) ?_)
        | (refine br_f (by omega) ?_)
        | (refine bs_t (by omega) ?_)
        | (refine bs_f (by omega) ?_)
        | (refine fun (K' : K3) hK' => ?_)
        | (refine hK' _ _ _ ?_; clear hK' K')
        | (refine draw_auto tok mixed (by kernel_rfl) ?_)
        | (refine long_k (by omega) rfl ?_)
        | (refine bs_bf hl ?_)
        | (refine br_f h200 ?_)
        | (refine CallK.intsN' (R := []) hS1 (by kernel_rfl) rfl (by simp [V.wf, A.wf, C.wf, V.i]) (HasO.ro ⟨⟨rfl, fun k hk => by (repeat (first | rw [find_skip (by omega)] | rw [find_hi (by omega) (by rfl)])); exact entC_find hk⟩, rfl⟩ hj) (injO hj) ?_)
        | (refine br_t h0 ?_)
        | (refine bs_t (show ((([] : List Int).length : Nat) : Int) = 0 from rfl) ?_)
        | (refine br_t (show ((([] : List Int).length : Nat) : Int) = 0 from rfl) ?_)
        | (refine sane_k ?_)
        | (refine bs_bt (Eq.refl true) ?_)
        | (refine bs_bf (Eq.refl false) ?_)
        | (refine br_bt (Eq.refl true) ?_)
        | (refine br_bf (Eq.refl false) ?_)
        | (refine CallK.m ?_)
        | (refine And.intro (And.intro rfl rfl) ?_))
    intro ρ; rfl
  obtain ⟨hv, hi, k, rfl, hk, hq⟩ := swapE_ok h0
  have hm := validL_many hv
  have hc := validL_coast hj hv
  have hoo := isOrd_ok hi
  have hris : risOrdB j o = true := by rw [ris_eq (by omega)]; exact hi
  have hR := rIsOrderE_spec j o hj ho
  rw [hv, hris] at hR
  simp only [if_true] at hR
  have hi2 := swapI_ord (by omega) hi hk
  have hl2 : (swapL 0 o k).length = o.length := swapL_len
  have hls : swapLs j o k = swapL 0 o k := by unfold swapLs; rw [if_pos h0, Int.toNat_natCast]
  have hnm : swapNm j o k = harmO j (swapL 0 o k) o.length - harmO j o o.length := by unfold swapNm; rw [if_pos h0, Int.toNat_natCast]
  have hE2 : swapE j (swapL 0 o k) k = 0 := by
    obtain ⟨g1, g2⟩ := swapL_get hk
    rw [swapE_mk hv hi2 (by rw [hl2]; exact hk), g1, g2, if_neg (fun e => hq e.symm)]
  have hback : swapL 0 (swapL 0 o k) k = o := swap_swap hk
  have hls2 : swapLs j (swapL 0 o k) k = o := by unfold swapLs; rw [if_pos hE2, Int.toNat_natCast, hback]
  have hnm2 : swapNm j (swapL 0 o k) k = harmO j o o.length - harmO j (swapL 0 o k) o.length := by unfold swapNm; rw [if_pos hE2, Int.toNat_natCast, hback, hl2]
  have hS2 := swap_spec j (swapL 0 o k) k hj (by omega) hat
  rw [hls2, hnm2, hE2, hl2] at hS2
  rw [hls, hnm, h0] at hS1
  have hb1 := harmO_bd hc hoo o.length (Nat.le_refl _)
  have hb2 := harmO_bd hc (isOrd_ok hi2) (swapL 0 o k).length (Nat.le_refl _)
  rw [hl2] at hb2
  have hH1 := harmE_spec j o hj ho
  have hH2 := harmE_spec j (swapL 0 o k) hj (by omega)
  rw [hl2] at hH2
  rw [hv, hi] at hH1
  rw [hv, hi2] at hH2
  simp only [numO, if_true] at hH1 hH2
  have hsame := sameInts_spec o o (by omega) (by omega)
  rw [decide_eq_true rfl] at hsame
  obtain ⟨hz1, hbl1⟩ := hoo.beach k (by omega)
  obtain ⟨hz2, hbl2⟩ := hoo.beach (k + 1) hk
  have hp1 := hoo.place k (by omega)
  have hp2 : cntO o k (beachO o (k + 1)) < (j.getD (beachO o (k + 1)) []).length := by
    have := hoo.place (k + 1) hk
    have e := cntO_succ (o := o) (i := k) (b := beachO o (k + 1)) (by omega)
    rw [← hz2, if_neg hq] at e
    omega
  have hdiff := swap_diff (by omega) hi hk hq
  have hx := (hc.jobs _ hbl1).1 _ hp1
  have hy := (hc.jobs _ hbl2).1 _ hp2
  have hm1 := mul_bd (A := 100) (B := 100) hx.2.2.1 hx.2.2.2 (show 0 ≤ ((j.getD (beachO o (k + 1)) []).getD (cntO o k (beachO o (k + 1))) (0, 0)).1 by omega) hy.2.1
  have hm2 := mul_bd (A := 100) (B := 100) hy.2.2.1 hy.2.2.2 (show 0 ≤ ((j.getD (beachO o k) []).getD (cntO o k (beachO o k)) (0, 0)).1 by omega) hx.2.1
  have hBe := bestE_spec j hj
  rw [hv] at hBe
  simp only [if_true] at hBe
  have hbl := bestO_len hc
  have hbol : (natsC (bestO j)).length = o.length := by
    obtain ⟨o', rfl, h1⟩ := (isOrd_iff (by omega)).1 hi
    rw [natsC_len, natsC_len, hbl, ord_len h1]
  have hbi : isOrdB j (natsC (bestO j)) = true := (isOrd_iff (by omega)).2 ⟨_, rfl, bestO_ord hc⟩
  have hS3 := swap_spec j (natsC (bestO j)) k hj (by omega) hat
  rw [hbol] at hS3
  refine Spec.of tok Try.func6 rfl rfl rfl fun n0 cx => vc_ok tok ?_
  repeat ((conv => whnf); first
      | (refine And.intro (by first | omega | exact Nat.le_of_ble_eq_true rfl | (dsimp only [inK]; omega) | (simp only [mulS_eq]; omega) | (simp only [mulS_eq, setL_length]; omega) | (simp only [setL_length, List.length_map]; omega) | exact ⟨by omega, by omega, by first | exact Nat.le_of_ble_eq_true rfl | (dsimp only; omega) | (simp only [setL_length]; omega) | (simp only [setL_length, List.length_map]; omega)⟩ | exact ⟨by omega, by first | rfl | omega, by omega, Nat.le_of_ble_eq_true rfl, Nat.le_of_ble_eq_true rfl⟩ | exact ⟨rfl, rfl, rfl, Nat.le_of_ble_eq_true rfl, by first | rfl | omega | exact Nat.le_of_ble_eq_true rfl | (simp; done) | (simp; omega), by first | rfl | omega | exact Nat.le_of_ble_eq_true rfl | (simp; done) | (simp; omega), by omega, Nat.le_of_ble_eq_true rfl⟩ | exact Eq.refl true) ?_)
      | (refine Exists.intro _ (And.intro rfl ?_))
      | (refine And.intro (And.intro rfl (chk_rowI _ _ _ _)) ?_)
      | (refine br_t (by omega) ?_)
      | (refine br_f (by omega) ?_)
      | (refine bs_t (by omega) ?_)
      | (refine bs_f (by omega) ?_)
      | (refine fun (K' : K3) hK' => ?_)
      | (refine hK' _ _ _ ?_; clear hK' K')
      | (refine draw_auto tok mixed (by kernel_rfl) ?_)
      | (refine long_k (by omega) rfl ?_)
      | (refine bs_bf hl ?_)
      | (refine br_f h200 ?_)
      | (refine CallK.intsN' (R := []) hS1 (by kernel_rfl) rfl (by simp [V.wf, A.wf, C.wf, V.i]) (HasO.ro ⟨⟨rfl, fun k hk => by (repeat (first | rw [find_skip (by omega)] | rw [find_hi (by omega) (by rfl)])); exact entC_find hk⟩, rfl⟩ hj) (injO hj) ?_)
      | (refine CallK.val (R := []) hR (by kernel_rfl) rfl (by simp [V.wf, A.wf, C.wf, V.i]) (HasO.ro ⟨⟨rfl, fun k hk => by (repeat (first | rw [find_skip (by omega)] | rw [find_hi (by omega) (by rfl)])); exact entC_find hk⟩, rfl⟩ hj) (injO hj) rfl (by simp [V.wf, A.wf, C.wf]) ?_)
      | (rw [hl2])
      | (refine CallK.intsN' (R := [(21, some 32)]) hS2 (by kernel_rfl) rfl (by simp [V.wf, A.wf, C.wf, V.i]) (HasC.roO ⟨rfl, fun k hk => by (repeat (first | rw [find_skip (by omega)] | rw [find_hi (by omega) (by rfl)])); exact entC_find hk⟩ hj rfl) (injO hj) ?_)
      | (refine CallK.val (R := []) hH1 (by kernel_rfl) rfl (by simp [V.wf, A.wf, C.wf]) (HasO.ro ⟨⟨rfl, fun k hk => by (repeat (first | rw [find_skip (by omega)] | rw [find_hi (by omega) (by rfl)])); exact entC_find hk⟩, rfl⟩ hj) (injO hj) rfl (by simp [V.wf, A.wf, C.wf]) ?_)
      | (refine CallK.val (R := [(21, some 32)]) hH2 (by kernel_rfl) rfl (by simp [V.wf, A.wf, C.wf]) (HasC.roO ⟨rfl, fun k hk => by (repeat (first | rw [find_skip (by omega)] | rw [find_hi (by omega) (by rfl)])); exact entC_find hk⟩ hj rfl) (injO hj) rfl (by simp [V.wf, A.wf, C.wf]) ?_)
      | (refine CallK.val (R := [(0, some 33), (1, some 21)]) hsame (by kernel_rfl) rfl (by simp [V.wf, A.wf, C.wf]) ⟨⟨by simp only; omega, wf_ints _ _, _, _, rfl, .inl rfl, ren_ints _ _⟩, ⟨by simp only; omega, wf_ints _ _, _, _, rfl, .inl rfl, ren_ints _ _⟩, trivial⟩ rfl rfl trivial ?_)
      | (refine bs_bt (Eq.refl true) ?_)
      | (refine bs_bf (Eq.refl false) ?_)
      | (refine br_bt (Eq.refl true) ?_)
      | (refine br_bf (Eq.refl false) ?_)
      | (refine CallK.m ?_)
      | (refine And.intro (And.intro rfl rfl) ?_))
  refine Tri.loop (γ := Nat) (fun i => i ≤ k) (fun i => [(0, V.c (.sl 0 j.length)), (1, V.c (.sl 21 o.length)), (2, V.i (k : Nat)), (8, V.i (harmO j (swapL 0 o k) o.length - harmO j o o.length)), (19, V.c (.sl 34 j.length)), (20, V.i (i : Nat))])
    (fun i => ⟨34, .vec 3 1, (nextO j o i).map C.i⟩ :: ⟨0, .ro 1, slsC 1 j⟩ :: ⟨21, .ro 0, o.map C.i⟩ :: entC 1 j) 35 (fun i => k - i) 0 (R0 := []) ?_ ?_ ?_
  · omega
  · skip
    refine ⟨?_, ?_, injB_ent (p := [_, _, _]) (by omega) rfl rfl, rfl, by first | exact Nat.le_of_ble_eq_true rfl | exact Nat.le_refl _ | omega⟩
    · repeat (first | exact trivial | refine And.intro (covS_syn (by first | rfl) rfl (by first | exact trivial | exact Nat.le_of_ble_eq_true rfl | exact hy | exact (fun p hp => nomatch hp) | (show (_ : Nat) < _; omega))) ?_ | refine And.intro (covS_bool rfl rfl (by first | rfl)) ?_)
    · repeat (first | exact trivial | (exact covL_ent (by omega) (fun k hk => by (try simp only [flatN]); (repeat (first | rw [find_skip (by omega)] | rw [find_hi (by omega) (by rfl)])))) | refine And.intro (covE_id (Nat.le_of_ble_eq_true rfl) (by first | exact wf_ints _ _ | exact wf_bools _ _ | first | exact wf_sls _ _ _ (by omega) | exact wf_jobs _ _ | simp [C.wf]) rfl (by first | rfl | (exact nextO_zero))) ?_)
  · intro i hik
    refine vc_ok tok ?_
    have hnm : ((nextO j o i).map C.i).length = j.length := by simp [nextO]
    have hom : (o.map C.i).length = o.length := by simp
    by_cases hlt : i < k
    · obtain ⟨hz, hb⟩ := hoo.beach i (by omega)
      have hcl := cntO_le (o := o) (i := i) (b := beachO o i)
      repeat ((conv => whnf); first
          | (refine And.intro (by first | omega | exact Nat.le_of_ble_eq_true rfl | (dsimp only [inK]; omega) | (simp only [mulS_eq]; omega) | (simp only [mulS_eq, setL_length]; omega) | (simp only [setL_length, List.length_map]; omega) | exact ⟨by omega, by omega, by first | exact Nat.le_of_ble_eq_true rfl | (dsimp only; omega) | (simp only [setL_length]; omega) | (simp only [setL_length, List.length_map]; omega)⟩ | exact ⟨by omega, by first | rfl | omega, by omega, Nat.le_of_ble_eq_true rfl, Nat.le_of_ble_eq_true rfl⟩ | exact ⟨rfl, rfl, rfl, Nat.le_of_ble_eq_true rfl, by first | rfl | omega | exact Nat.le_of_ble_eq_true rfl | (simp; done) | (simp; omega), by first | rfl | omega | exact Nat.le_of_ble_eq_true rfl | (simp; done) | (simp; omega), by omega, Nat.le_of_ble_eq_true rfl⟩ | exact Eq.refl true) ?_)
          | (with_reducible refine ld (intL (show i < o.length by omega)) ?_)
          | (with_reducible refine ld (nextL hz hb) ?_)
          | (refine Exists.intro _ (And.intro rfl ?_))
          | (refine And.intro (And.intro rfl (chk_rowI _ _ _ _)) ?_)
          | (refine br_t (by omega) ?_)
          | (refine br_f (by omega) ?_)
          | (refine bs_t (by omega) ?_)
          | (refine bs_f (by omega) ?_)
          | (refine fun (K' : K3) hK' => ?_)
          | (refine hK' _ _ _ ?_; clear hK' K')
          | (refine draw_auto tok mixed (by kernel_rfl) ?_)
          | (with_reducible refine updK_ent (by omega) ?_)
          | (refine bs_bt (Eq.refl true) ?_)
          | (refine bs_bf (Eq.refl false) ?_)
          | (refine br_bt (Eq.refl true) ?_)
          | (refine br_bf (Eq.refl false) ?_)
          | (refine CallK.m ?_)
          | (refine And.intro (And.intro rfl rfl) ?_))
      refine ⟨i + 1, [], by omega, by omega, ?_⟩
      refine ⟨?_, ?_, injB_ent (p := [_, _, _]) (by omega) rfl rfl, rfl, by first | exact Nat.le_of_ble_eq_true rfl | exact Nat.le_refl _ | omega⟩
      · repeat (first | exact trivial | refine And.intro (covS_syn (by first | rfl | (refine congrArg some (congrArg V.i ?_); omega)) rfl (by first | exact trivial | exact Nat.le_of_ble_eq_true rfl | exact hy | exact (fun p hp => nomatch hp) | (show (_ : Nat) < _; omega))) ?_ | refine And.intro (covS_bool rfl rfl (by first | rfl)) ?_)
      · repeat (first | exact trivial | (exact covL_ent (by omega) (fun k hk => by (try simp only [flatN]); (repeat (first | rw [find_skip (by omega)] | rw [find_hi (by omega) (by rfl)])))) | refine And.intro (covE_id (Nat.le_of_ble_eq_true rfl) (by first | exact wf_ints _ _ | exact wf_bools _ _ | first | exact wf_sls _ _ _ (by omega) | exact wf_jobs _ _ | simp [C.wf]) rfl (by first | rfl | (exact nextS2 (by omega) hz hz rfl))) ?_)
    · obtain rfl : i = k := by omega
      have hj1 := jobC_len (j.getD (beachO o i) [])
      have hj2 := jobC_len (j.getD (beachO o (i + 1)) [])
      repeat ((conv => whnf); first
          | (refine And.intro (by first | omega | exact Nat.le_of_ble_eq_true rfl | (dsimp only [inK]; omega) | (simp only [mulS_eq]; omega) | (simp only [mulS_eq, setL_length]; omega) | (simp only [setL_length, List.length_map]; omega) | exact ⟨by omega, by omega, by first | exact Nat.le_of_ble_eq_true rfl | (dsimp only; omega) | (simp only [setL_length]; omega) | (simp only [setL_length, List.length_map]; omega)⟩ | exact ⟨by omega, by first | rfl | omega, by omega, Nat.le_of_ble_eq_true rfl, Nat.le_of_ble_eq_true rfl⟩ | exact ⟨rfl, rfl, rfl, Nat.le_of_ble_eq_true rfl, by first | rfl | omega | exact Nat.le_of_ble_eq_true rfl | (simp; done) | (simp; omega), by first | rfl | omega | exact Nat.le_of_ble_eq_true rfl | (simp; done) | (simp; omega), by omega, Nat.le_of_ble_eq_true rfl⟩ | exact Eq.refl true) ?_)
          | (with_reducible refine ld (intL (show i < o.length by omega)) ?_)
          | (with_reducible refine ld (ints_get2 rfl hk) ?_)
          | (with_reducible refine ld (slLz hz1 hbl1) ?_)
          | (with_reducible refine ld (slLz hz2 hbl2) ?_)
          | (with_reducible refine ld (nextL hz1 hbl1) ?_)
          | (with_reducible refine ld (nextL hz2 hbl2) ?_)
          | (with_reducible refine ld (jobT rfl hp1) ?_)
          | (with_reducible refine ld (jobT rfl hp2) ?_)
          | (refine Exists.intro _ (And.intro rfl ?_))
          | (refine And.intro (And.intro rfl (chk_rowI _ _ _ _)) ?_)
          | (refine br_t (by omega) ?_)
          | (refine br_f (by omega) ?_)
          | (refine bs_t (by omega) ?_)
          | (refine bs_f (by omega) ?_)
          | (refine fun (K' : K3) hK' => ?_)
          | (refine hK' _ _ _ ?_; clear hK' K')
          | (refine draw_late 37 [35] tok mixed (by decide +kernel) ?_)
          | (refine draw_auto tok mixed (by kernel_rfl) ?_)
          | (refine onV_ld (c := ⟨1 + beachO o i, .ro 2, jobC (j.getD (beachO o i) [])⟩) (by ((try (conv => lhs; arg 1; whnf)); (repeat (first | rw [find_skip (by omega)] | rw [find_hi (by omega) (by rfl)] | rw [find_vis (memN_high rfl (by omega))])); exact entC_find hbl1)) ?_)
          | (refine onV_ld (c := ⟨1 + beachO o (i + 1), .ro 2, jobC (j.getD (beachO o (i + 1)) [])⟩) (by ((try (conv => lhs; arg 1; whnf)); (repeat (first | rw [find_skip (by omega)] | rw [find_hi (by omega) (by rfl)] | rw [find_vis (memN_high rfl (by omega))])); exact entC_find hbl2)) ?_)
          | (rw [adr_none (t := 31) (x := .tmp 145) (i := .tmp 152) rfl (memN_high rfl (by omega))])
          | (rw [adr_none (t := 31) (x := .tmp 162) (i := .tmp 170) rfl (memN_high rfl (by omega))])
          | (with_reducible refine visC_ent rfl (by omega) ?_)
          | (with_reducible refine relC_ent rfl (by omega) ?_)
          | (with_reducible refine updK_ent (by omega) ?_)
          | (with_reducible refine rmK_ent (by omega) ?_)
          | (refine bs_bt (Eq.refl true) ?_)
          | (refine bs_bf (Eq.refl false) ?_)
          | (refine br_bt (Eq.refl true) ?_)
          | (refine br_bf (Eq.refl false) ?_)
          | (refine CallK.m ?_)
          | (refine And.intro (And.intro rfl rfl) ?_))
      have hkb : i + 1 < (natsC (bestO j)).length := by rw [hbol]; exact hk
      have hEb := swapE_mk (o := natsC (bestO j)) (k := i) hv hbi hkb
      by_cases hqb : (natsC (bestO j)).getD i 0 = (natsC (bestO j)).getD (i + 1) 0
      · rw [if_pos hqb] at hEb
        have e1 : swapLs j (natsC (bestO j)) i = [] := by unfold swapLs; rw [if_neg (by omega)]
        have e2 : swapNm j (natsC (bestO j)) i = 0 := by unfold swapNm; rw [if_neg (by omega)]
        rw [e1, e2, hEb] at hS3
        repeat ((conv => whnf); first
            | (refine And.intro (by first | omega | exact Nat.le_of_ble_eq_true rfl | (dsimp only [inK]; omega) | (simp only [mulS_eq]; omega) | (simp only [mulS_eq, setL_length]; omega) | (simp only [setL_length, List.length_map]; omega) | exact ⟨by omega, by omega, by first | exact Nat.le_of_ble_eq_true rfl | (dsimp only; omega) | (simp only [setL_length]; omega) | (simp only [setL_length, List.length_map]; omega)⟩ | exact ⟨by omega, by first | rfl | omega, by omega, Nat.le_of_ble_eq_true rfl, Nat.le_of_ble_eq_true rfl⟩ | exact ⟨rfl, rfl, rfl, Nat.le_of_ble_eq_true rfl, by first | rfl | omega | exact Nat.le_of_ble_eq_true rfl | (simp; done) | (simp; omega), by first | rfl | omega | exact Nat.le_of_ble_eq_true rfl | (simp; done) | (simp; omega), by omega, Nat.le_of_ble_eq_true rfl⟩ | exact Eq.refl true) ?_)
            | (refine Exists.intro _ (And.intro rfl ?_))
            | (refine And.intro (And.intro rfl (chk_rowI _ _ _ _)) ?_)
            | (refine br_t (by omega) ?_)
            | (refine br_f (by omega) ?_)
            | (refine bs_t (by omega) ?_)
            | (refine bs_f (by omega) ?_)
            | (refine fun (K' : K3) hK' => ?_)
            | (refine hK' _ _ _ ?_; clear hK' K')
            | (refine draw_auto tok mixed (by kernel_rfl) ?_)
            | (refine CallK.intsE (R := []) hBe (by kernel_rfl) rfl (by simp [V.wf, A.wf, C.wf]) (HasC.ro ⟨rfl, fun k hk => by (repeat (first | rw [find_skip (by omega)] | rw [find_hi (by omega) (by rfl)])); exact entC_find hk⟩ hj) (injC hj) ?_)
            | (rw [hbol])
            | (refine CallK.intsN' (R := [(21, some 38)]) hS3 (by kernel_rfl) rfl (by simp [V.wf, A.wf, C.wf, V.i]) (HasC.roO ⟨rfl, fun k hk => by (repeat (first | rw [find_skip (by omega)] | rw [find_hi (by omega) (by rfl)])); exact entC_find hk⟩ hj rfl) (injO hj) ?_)
            | (refine sane_k ?_)
            | (refine bs_bt (Eq.refl true) ?_)
            | (refine bs_bf (Eq.refl false) ?_)
            | (refine br_bt (Eq.refl true) ?_)
            | (refine br_bf (Eq.refl false) ?_)
            | (refine CallK.m ?_)
            | (refine And.intro (And.intro rfl rfl) ?_))
        intro ρ; rfl
      · rw [if_neg hqb] at hEb
        have hnb : 0 ≤ swapNm j (natsC (bestO j)) i := by
          unfold swapNm; rw [if_pos hEb, Int.toNat_natCast]
          exact swap_best hc (by omega) (by rw [natsC_len] at hkb; exact hkb)
        rw [hEb] at hS3
        repeat ((conv => whnf); first
            | (refine And.intro (by first | omega | exact Nat.le_of_ble_eq_true rfl | (dsimp only [inK]; omega) | (simp only [mulS_eq]; omega) | (simp only [mulS_eq, setL_length]; omega) | (simp only [setL_length, List.length_map]; omega) | exact ⟨by omega, by omega, by first | exact Nat.le_of_ble_eq_true rfl | (dsimp only; omega) | (simp only [setL_length]; omega) | (simp only [setL_length, List.length_map]; omega)⟩ | exact ⟨by omega, by first | rfl | omega, by omega, Nat.le_of_ble_eq_true rfl, Nat.le_of_ble_eq_true rfl⟩ | exact ⟨rfl, rfl, rfl, Nat.le_of_ble_eq_true rfl, by first | rfl | omega | exact Nat.le_of_ble_eq_true rfl | (simp; done) | (simp; omega), by first | rfl | omega | exact Nat.le_of_ble_eq_true rfl | (simp; done) | (simp; omega), by omega, Nat.le_of_ble_eq_true rfl⟩ | exact Eq.refl true) ?_)
            | (refine Exists.intro _ (And.intro rfl ?_))
            | (refine And.intro (And.intro rfl (chk_rowI _ _ _ _)) ?_)
            | (refine br_t (by omega) ?_)
            | (refine br_f (by omega) ?_)
            | (refine bs_t (by omega) ?_)
            | (refine bs_f (by omega) ?_)
            | (refine fun (K' : K3) hK' => ?_)
            | (refine hK' _ _ _ ?_; clear hK' K')
            | (refine draw_auto tok mixed (by kernel_rfl) ?_)
            | (refine CallK.intsE (R := []) hBe (by kernel_rfl) rfl (by simp [V.wf, A.wf, C.wf]) (HasC.ro ⟨rfl, fun k hk => by (repeat (first | rw [find_skip (by omega)] | rw [find_hi (by omega) (by rfl)])); exact entC_find hk⟩ hj) (injC hj) ?_)
            | (rw [hbol])
            | (refine CallK.intsN' (R := [(21, some 38)]) hS3 (by kernel_rfl) rfl (by simp [V.wf, A.wf, C.wf, V.i]) (HasC.roO ⟨rfl, fun k hk => by (repeat (first | rw [find_skip (by omega)] | rw [find_hi (by omega) (by rfl)])); exact entC_find hk⟩ hj rfl) (injO hj) ?_)
            | (refine sane_k ?_)
            | (refine bs_bt (Eq.refl true) ?_)
            | (refine bs_bf (Eq.refl false) ?_)
            | (refine br_bt (Eq.refl true) ?_)
            | (refine br_bf (Eq.refl false) ?_)
            | (refine CallK.m ?_)
            | (refine And.intro (And.intro rfl rfl) ?_))
        intro ρ; rfl
theorem swapped_any (j : Coast) (o : List Int) (at' : Int) (ao : Option Addr) (c : Nat) (bs : Nat → Option Addr × Nat) (po : Option Addr) (pc : Nat) (w : World) (h : CoastAt w ao c j bs) (ho : RoAt w po (o.map (Value.int .i64))) (hat : -9223372036854775808 ≤ at' ∧ at' ≤ 9223372036854775807) :
    Calls Try.prog 6 #[.slice ao j.length c, .slice po o.length pc, .int .i64 at'] w fun e w' => e = .returned (.bool true) ∧ Below w.heap.size w w' := by
  by_cases hl : longB j = true ∨ 200 < o.length
  · refine isTrue_any (vs := [V.c (.sl 0 j.length), V.c (.sl (j.length + 31) o.length), V.i at']) (swapped_long j o at' h.lt hl) (hp_long h po pc) (by simp [V.wf, A.wf, C.wf, V.i]) ?_
    simp [V.den, A.den, C.den, C.i, V.i, coastE]
  · have h1 : longB j = false := by simpa using fun e => hl (.inl e)
    exact isTrue_any (vs := [V.c (.sl 0 j.length), V.c (.sl 21 o.length), V.i at']) (swapped_spec j o at' (longB_sized h1) h1 (by omega) hat) (hp_order h (longB_sized h1) ho) (by simp [V.wf, A.wf, C.wf, V.i]) rfl
end Go.Proofs.Ytjijjncddjkdlaa

/- The law of the shore's layer. -/
namespace Go.Proofs.Ytjijjncddjkdlaa
open Go.RowKit
set_option linter.unusedVariables false
set_option linter.unusedSimpArgs false
theorem top_long (j : Coast) (o : List Int) (hj : j.length < 9223372036854775808) (hl : longB j = true ∨ 200 < o.length) :
    Spec Try.prog 9 [V.c (.sl 0 j.length), V.c (.sl (j.length + 31) o.length)] [⟨0, .ro 1, slsC 1 j⟩] (j.length + 32) (Is (V.c (.bool true))) := by
  rcases bool_or (longB j) with h | h
  · have ho : (o.length : Int) > 200 := by have := hl.resolve_left (by rw [h]; simp); omega
    refine Spec.of tok Try.func9 rfl rfl rfl fun n0 cx => vc_ok tok ?_
    repeat ((conv => whnf); first
        | (refine And.intro (by first | omega | exact Nat.le_of_ble_eq_true rfl | (dsimp only [inK]; omega) | (simp only [mulS_eq]; omega) | (simp only [mulS_eq, setL_length]; omega) | (simp only [setL_length, List.length_map]; omega) | exact ⟨by omega, by omega, by first | exact Nat.le_of_ble_eq_true rfl | (dsimp only; omega) | (simp only [setL_length]; omega) | (simp only [setL_length, List.length_map]; omega)⟩ | exact ⟨by omega, by first | rfl | omega, by omega, Nat.le_of_ble_eq_true rfl, Nat.le_of_ble_eq_true rfl⟩ | exact ⟨rfl, rfl, rfl, Nat.le_of_ble_eq_true rfl, by first | rfl | omega | exact Nat.le_of_ble_eq_true rfl | (dsimp only; omega) | (simp; done) | (simp; omega), by first | rfl | omega | exact Nat.le_of_ble_eq_true rfl | (dsimp only; omega) | (simp; done) | (simp; omega), by omega, Nat.le_of_ble_eq_true rfl⟩ | exact Eq.refl true) ?_)
        | (refine Exists.intro _ (And.intro rfl ?_))
        | (refine And.intro (And.intro rfl (chk_rowI _ _ _ _)) ?_)
        | (refine br_t (by omega) ?_)
        | (refine br_f (by omega) ?_)
        | (refine bs_t (by omega) ?_)
        | (refine bs_f (by omega) ?_)
        | (refine fun (K' : K3) hK' => ?_)
        | (refine hK' _ _ _ ?_; clear hK' K')
        | (refine draw_auto tok mixed (by kernel_rfl) ?_)
        | (refine long_k hj rfl ?_)
        | (refine bs_bf h ?_)
        | (refine bs_t ho ?_)
        | (refine br_t ho ?_)
        | (refine sane_k ?_)
        | (refine bs_bt (Eq.refl true) ?_)
        | (refine bs_bf (Eq.refl false) ?_)
        | (refine br_bt (Eq.refl true) ?_)
        | (refine br_bf (Eq.refl false) ?_)
        | (refine CallK.m ?_)
        | (refine And.intro (And.intro rfl rfl) ?_))
    intro ρ; rfl
  · refine Spec.of tok Try.func9 rfl rfl rfl fun n0 cx => vc_ok tok ?_
    repeat ((conv => whnf); first
        | (refine And.intro (by first | omega | exact Nat.le_of_ble_eq_true rfl | (dsimp only [inK]; omega) | (simp only [mulS_eq]; omega) | (simp only [mulS_eq, setL_length]; omega) | (simp only [setL_length, List.length_map]; omega) | exact ⟨by omega, by omega, by first | exact Nat.le_of_ble_eq_true rfl | (dsimp only; omega) | (simp only [setL_length]; omega) | (simp only [setL_length, List.length_map]; omega)⟩ | exact ⟨by omega, by first | rfl | omega, by omega, Nat.le_of_ble_eq_true rfl, Nat.le_of_ble_eq_true rfl⟩ | exact ⟨rfl, rfl, rfl, Nat.le_of_ble_eq_true rfl, by first | rfl | omega | exact Nat.le_of_ble_eq_true rfl | (dsimp only; omega) | (simp; done) | (simp; omega), by first | rfl | omega | exact Nat.le_of_ble_eq_true rfl | (dsimp only; omega) | (simp; done) | (simp; omega), by omega, Nat.le_of_ble_eq_true rfl⟩ | exact Eq.refl true) ?_)
        | (refine Exists.intro _ (And.intro rfl ?_))
        | (refine And.intro (And.intro rfl (chk_rowI _ _ _ _)) ?_)
        | (refine br_t (by omega) ?_)
        | (refine br_f (by omega) ?_)
        | (refine bs_t (by omega) ?_)
        | (refine bs_f (by omega) ?_)
        | (refine fun (K' : K3) hK' => ?_)
        | (refine hK' _ _ _ ?_; clear hK' K')
        | (refine draw_auto tok mixed (by kernel_rfl) ?_)
        | (refine long_k hj rfl ?_)
        | (refine bs_bt h ?_)
        | (refine br_bt h ?_)
        | (refine sane_k ?_)
        | (refine bs_bt (Eq.refl true) ?_)
        | (refine bs_bf (Eq.refl false) ?_)
        | (refine br_bt (Eq.refl true) ?_)
        | (refine br_bf (Eq.refl false) ?_)
        | (refine CallK.m ?_)
        | (refine And.intro (And.intro rfl rfl) ?_))
    intro ρ; rfl
set_option maxHeartbeats 4000000 in
set_option maxRecDepth 100000 in
theorem top_spec (j : Coast) (o : List Int) (hj : Sized j) (hl : longB j = false) (ho : o.length ≤ 200) :
    Spec Try.prog 9 [V.c (.sl 0 j.length), V.c (.sl 21 o.length)] (⟨0, .ro 1, slsC 1 j⟩ :: ⟨21, .ro 0, o.map C.i⟩ :: entC 1 j) 32 (Is (V.c (.bool true))) := by
  have hj20 := hj.len
  have hlen := slsC_len (b := 1) (j := j)
  have h200 : ¬ (o.length : Int) > 200 := by omega
  cases hv : validL j with
  | false =>
    have h4 := rvalid_spec j hj
    rw [hv] at h4
    refine Spec.of tok Try.func9 rfl rfl rfl fun n0 cx => vc_ok tok ?_
    repeat ((conv => whnf); first
        | (refine And.intro (by first | omega | exact Nat.le_of_ble_eq_true rfl | (dsimp only [inK]; omega) | (simp only [mulS_eq]; omega) | (simp only [mulS_eq, setL_length]; omega) | (simp only [setL_length, List.length_map]; omega) | exact ⟨by omega, by omega, by first | exact Nat.le_of_ble_eq_true rfl | (dsimp only; omega) | (simp only [setL_length]; omega) | (simp only [setL_length, List.length_map]; omega)⟩ | exact ⟨by omega, by first | rfl | omega, by omega, Nat.le_of_ble_eq_true rfl, Nat.le_of_ble_eq_true rfl⟩ | exact ⟨rfl, rfl, rfl, Nat.le_of_ble_eq_true rfl, by first | rfl | omega | exact Nat.le_of_ble_eq_true rfl | (dsimp only; omega) | (simp; done) | (simp; omega), by first | rfl | omega | exact Nat.le_of_ble_eq_true rfl | (dsimp only; omega) | (simp; done) | (simp; omega), by omega, Nat.le_of_ble_eq_true rfl⟩ | exact Eq.refl true) ?_)
        | (refine Exists.intro _ (And.intro rfl ?_))
        | (refine And.intro (And.intro rfl (chk_rowI _ _ _ _)) ?_)
        | (refine br_t (by omega) ?_)
        | (refine br_f (by omega) ?_)
        | (refine bs_t (by omega) ?_)
        | (refine bs_f (by omega) ?_)
        | (refine fun (K' : K3) hK' => ?_)
        | (refine hK' _ _ _ ?_; clear hK' K')
        | (refine draw_auto tok mixed (by kernel_rfl) ?_)
        | (refine long_k (by omega) rfl ?_)
        | (refine bs_bf hl ?_)
        | (refine bs_f h200 ?_)
        | (refine CallK.val (R := []) h4 (by kernel_rfl) rfl (by simp [V.wf, A.wf, C.wf]) (HasC.ro ⟨rfl, fun k hk => by (repeat (first | rw [find_skip (by omega)] | rw [find_hi (by omega) (by rfl)])); exact entC_find hk⟩ hj) (injC hj) rfl trivial ?_)
        | (refine sane_k ?_)
        | (refine bs_bt (Eq.refl true) ?_)
        | (refine bs_bf (Eq.refl false) ?_)
        | (refine br_bt (Eq.refl true) ?_)
        | (refine br_bf (Eq.refl false) ?_)
        | (refine CallK.m ?_)
        | (refine And.intro (And.intro rfl rfl) ?_))
    intro ρ; rfl
  | true =>
  have hm := validL_many hv
  have hc := validL_coast hj hv
  have h4 := rvalid_spec j hj
  rw [hv] at h4
  have hBe := bestE_spec j hj
  rw [hv] at hBe
  have hLe := least_spec j hj
  rw [hv] at hLe
  have hBo := bound_spec j hj
  rw [hv] at hBo
  simp only [if_true] at hBe hLe hBo
  have hbl := bound_least hc
  have hbi : isOrdB j (natsC (bestO j)) = true := (isOrd_iff (by omega)).2 ⟨_, rfl, bestO_ord hc⟩
  have hboo := isOrd_ok hbi
  have hb100 := hboo.len
  have hIs := isOrderE_spec j (natsC (bestO j)) hj (by omega)
  rw [hv, hbi] at hIs
  simp only [if_true] at hIs
  have hlb := harmO_bd hc hboo (natsC (bestO j)).length (Nat.le_refl _)
  have hleast : leastO j = harmO j (natsC (bestO j)) (natsC (bestO j)).length := rfl
  refine Spec.of tok Try.func9 rfl rfl rfl fun n0 cx => vc_ok tok ?_
  repeat ((conv => whnf); first
      | (refine And.intro (by first | omega | exact Nat.le_of_ble_eq_true rfl | (dsimp only [inK]; omega) | (simp only [mulS_eq]; omega) | (simp only [mulS_eq, setL_length]; omega) | (simp only [setL_length, List.length_map]; omega) | exact ⟨by omega, by omega, by first | exact Nat.le_of_ble_eq_true rfl | (dsimp only; omega) | (simp only [setL_length]; omega) | (simp only [setL_length, List.length_map]; omega)⟩ | exact ⟨by omega, by first | rfl | omega, by omega, Nat.le_of_ble_eq_true rfl, Nat.le_of_ble_eq_true rfl⟩ | exact ⟨rfl, rfl, rfl, Nat.le_of_ble_eq_true rfl, by first | rfl | omega | exact Nat.le_of_ble_eq_true rfl | (dsimp only; omega) | (simp; done) | (simp; omega), by first | rfl | omega | exact Nat.le_of_ble_eq_true rfl | (dsimp only; omega) | (simp; done) | (simp; omega), by omega, Nat.le_of_ble_eq_true rfl⟩ | exact Eq.refl true) ?_)
      | (refine Exists.intro _ (And.intro rfl ?_))
      | (refine And.intro (And.intro rfl (chk_rowI _ _ _ _)) ?_)
      | (refine br_t (by omega) ?_)
      | (refine br_f (by omega) ?_)
      | (refine bs_t (by omega) ?_)
      | (refine bs_f (by omega) ?_)
      | (refine fun (K' : K3) hK' => ?_)
      | (refine hK' _ _ _ ?_; clear hK' K')
      | (refine draw_auto tok mixed (by kernel_rfl) ?_)
      | (refine long_k (by omega) rfl ?_)
      | (refine bs_bf hl ?_)
      | (refine bs_f h200 ?_)
      | (refine CallK.val (R := []) h4 (by kernel_rfl) rfl (by simp [V.wf, A.wf, C.wf]) (HasC.ro ⟨rfl, fun k hk => by (repeat (first | rw [find_skip (by omega)] | rw [find_hi (by omega) (by rfl)])); exact entC_find hk⟩ hj) (injC hj) rfl trivial ?_)
      | (refine CallK.intsE (R := []) hBe (by kernel_rfl) rfl (by simp [V.wf, A.wf, C.wf]) (HasC.ro ⟨rfl, fun k hk => by (repeat (first | rw [find_skip (by omega)] | rw [find_hi (by omega) (by rfl)])); exact entC_find hk⟩ hj) (injC hj) ?_)
      | (refine CallK.val (R := []) hLe (by kernel_rfl) rfl (by simp [V.wf, A.wf, C.wf]) (HasC.ro ⟨rfl, fun k hk => by (repeat (first | rw [find_skip (by omega)] | rw [find_hi (by omega) (by rfl)])); exact entC_find hk⟩ hj) (injC hj) rfl (by simp [V.wf, A.wf, C.wf]) ?_)
      | (refine CallK.val (R := []) hBo (by kernel_rfl) rfl (by simp [V.wf, A.wf, C.wf]) (HasC.ro ⟨rfl, fun k hk => by (repeat (first | rw [find_skip (by omega)] | rw [find_hi (by omega) (by rfl)])); exact entC_find hk⟩ hj) (injC hj) rfl (by simp [V.wf, A.wf, C.wf]) ?_)
      | (refine CallK.val (R := [(21, some 32)]) hIs (by kernel_rfl) rfl (by simp [V.wf, A.wf, C.wf]) (HasC.roO ⟨rfl, fun k hk => by (repeat (first | rw [find_skip (by omega)] | rw [find_hi (by omega) (by rfl)])); exact entC_find hk⟩ hj rfl) (injO hj) rfl (by simp [V.wf, A.wf, C.wf]) ?_)
      | (refine bs_bt (Eq.refl true) ?_)
      | (refine bs_bf (Eq.refl false) ?_)
      | (refine br_bt (Eq.refl true) ?_)
      | (refine br_bf (Eq.refl false) ?_)
      | (refine CallK.m ?_)
      | (refine And.intro (And.intro rfl rfl) ?_))
  refine Tri.loop (γ := Nat) (fun i => i ≤ (natsC (bestO j)).length) (fun i => [(0, V.c (.sl 0 j.length)), (1, V.c (.sl 21 o.length)), (5, V.c (.sl 32 (natsC (bestO j)).length)), (7, V.i (leastO j)), (12, V.i (i : Nat))])
    (fun i => ⟨32, .vec 3 1, (natsC (bestO j)).map C.i⟩ :: ⟨0, .ro 1, slsC 1 j⟩ :: ⟨21, .ro 0, o.map C.i⟩ :: entC 1 j) 33 (fun i => (natsC (bestO j)).length - i) 0 (R0 := []) ?_ ?_ ?_
  · omega
  · skip
    refine ⟨?_, ?_, injB_ent (p := [_, _, _]) (by omega) rfl rfl, rfl, by first | exact Nat.le_of_ble_eq_true rfl | exact Nat.le_refl _ | omega⟩
    · repeat (first | exact trivial | refine And.intro (covS_syn (by first | rfl) rfl (by first | exact trivial | exact Nat.le_of_ble_eq_true rfl | exact hy | exact (fun p hp => nomatch hp) | (show (_ : Nat) < _; omega))) ?_ | refine And.intro (covS_bool rfl rfl (by first | rfl)) ?_)
    · repeat (first | exact trivial | (exact covL_ent (by omega) (fun k hk => by (try simp only [flatN]); (repeat (first | rw [find_skip (by omega)] | rw [find_hi (by omega) (by rfl)])))) | refine And.intro (covE_id (Nat.le_of_ble_eq_true rfl) (by first | exact wf_ints _ _ | exact wf_bools _ _ | first | exact wf_sls _ _ _ (by omega) | exact wf_jobs _ _ | exact wf_famS _ _ _ (by omega) | simp [C.wf]) rfl (by first | rfl)) ?_)
  · intro i hii
    refine vc_ok tok ?_
    by_cases hlt : i + 1 < (natsC (bestO j)).length
    · have hEb := swapE_mk (o := natsC (bestO j)) (k := i) hv hbi hlt
      have hS := swap_spec j (natsC (bestO j)) i hj (by omega) (by omega)
      by_cases hqb : (natsC (bestO j)).getD i 0 = (natsC (bestO j)).getD (i + 1) 0
      · rw [if_pos hqb] at hEb
        rw [hEb] at hS
        repeat ((conv => whnf); first
            | (refine And.intro (by first | omega | exact Nat.le_of_ble_eq_true rfl | (dsimp only [inK]; omega) | (simp only [mulS_eq]; omega) | (simp only [mulS_eq, setL_length]; omega) | (simp only [setL_length, List.length_map]; omega) | exact ⟨by omega, by omega, by first | exact Nat.le_of_ble_eq_true rfl | (dsimp only; omega) | (simp only [setL_length]; omega) | (simp only [setL_length, List.length_map]; omega)⟩ | exact ⟨by omega, by first | rfl | omega, by omega, Nat.le_of_ble_eq_true rfl, Nat.le_of_ble_eq_true rfl⟩ | exact ⟨rfl, rfl, rfl, Nat.le_of_ble_eq_true rfl, by first | rfl | omega | exact Nat.le_of_ble_eq_true rfl | (dsimp only; omega) | (simp; done) | (simp; omega), by first | rfl | omega | exact Nat.le_of_ble_eq_true rfl | (dsimp only; omega) | (simp; done) | (simp; omega), by omega, Nat.le_of_ble_eq_true rfl⟩ | exact Eq.refl true) ?_)
            | (refine Exists.intro _ (And.intro rfl ?_))
            | (refine And.intro (And.intro rfl (chk_rowI _ _ _ _)) ?_)
            | (refine br_t (by omega) ?_)
            | (refine br_f (by omega) ?_)
            | (refine bs_t (by omega) ?_)
            | (refine bs_f (by omega) ?_)
            | (refine fun (K' : K3) hK' => ?_)
            | (refine hK' _ _ _ ?_; clear hK' K')
            | (refine draw_auto tok mixed (by kernel_rfl) ?_)
            | (refine CallK.intsN' (R := [(21, some 32)]) hS (by kernel_rfl) rfl (by simp [V.wf, A.wf, C.wf, V.i]) (HasC.roO ⟨rfl, fun k hk => by (repeat (first | rw [find_skip (by omega)] | rw [find_hi (by omega) (by rfl)])); exact entC_find hk⟩ hj rfl) (injO hj) ?_)
            | (refine bs_bt (Eq.refl true) ?_)
            | (refine bs_bf (Eq.refl false) ?_)
            | (refine br_bt (Eq.refl true) ?_)
            | (refine br_bf (Eq.refl false) ?_)
            | (refine CallK.m ?_)
            | (refine And.intro (And.intro rfl rfl) ?_))
        refine ⟨i + 1, [], by omega, by omega, ?_⟩
        refine ⟨?_, ?_, injB_ent (p := [_, _, _]) (by omega) rfl rfl, rfl, by first | exact Nat.le_of_ble_eq_true rfl | exact Nat.le_refl _ | omega⟩
        · repeat (first | exact trivial | refine And.intro (covS_syn (by first | rfl | (refine congrArg some (congrArg V.i ?_); omega)) rfl (by first | exact trivial | exact Nat.le_of_ble_eq_true rfl | exact hy | exact (fun p hp => nomatch hp) | (show (_ : Nat) < _; omega))) ?_ | refine And.intro (covS_bool rfl rfl (by first | rfl)) ?_)
        · repeat (first | exact trivial | (exact covL_ent (by omega) (fun k hk => by (try simp only [flatN]); (repeat (first | rw [find_skip (by omega)] | rw [find_hi (by omega) (by rfl)])))) | refine And.intro (covE_id (Nat.le_of_ble_eq_true rfl) (by first | exact wf_ints _ _ | exact wf_bools _ _ | first | exact wf_sls _ _ _ (by omega) | exact wf_jobs _ _ | exact wf_famS _ _ _ (by omega) | simp [C.wf]) rfl (by first | rfl)) ?_)
      · rw [if_neg hqb] at hEb
        have hnb : 0 ≤ harmO j (swapL 0 (natsC (bestO j)) i) (natsC (bestO j)).length - harmO j (natsC (bestO j)) (natsC (bestO j)).length := swap_best hc (by omega) (by rw [natsC_len] at hlt; exact hlt)
        have e1 : swapLs j (natsC (bestO j)) i = swapL 0 (natsC (bestO j)) i := by unfold swapLs; rw [if_pos hEb, Int.toNat_natCast]
        have e2 : swapNm j (natsC (bestO j)) i = harmO j (swapL 0 (natsC (bestO j)) i) (natsC (bestO j)).length - harmO j (natsC (bestO j)) (natsC (bestO j)).length := by unfold swapNm; rw [if_pos hEb, Int.toNat_natCast]
        rw [e1, e2, hEb] at hS
        have hsl : (swapL 0 (natsC (bestO j)) i).length = (natsC (bestO j)).length := swapL_len
        have hsi := swapI_ord (by omega) hbi hlt
        have hsb := harmO_bd hc (isOrd_ok hsi) (swapL 0 (natsC (bestO j)) i).length (Nat.le_refl _)
        have hH := harmE_spec j (swapL 0 (natsC (bestO j)) i) hj (by omega)
        rw [hv, hsi] at hH
        simp only [numO, if_true] at hH
        rw [hsl] at hsb hH
        repeat ((conv => whnf); first
            | (refine And.intro (by first | omega | exact Nat.le_of_ble_eq_true rfl | (dsimp only [inK]; omega) | (simp only [mulS_eq]; omega) | (simp only [mulS_eq, setL_length]; omega) | (simp only [setL_length, List.length_map]; omega) | exact ⟨by omega, by omega, by first | exact Nat.le_of_ble_eq_true rfl | (dsimp only; omega) | (simp only [setL_length]; omega) | (simp only [setL_length, List.length_map]; omega)⟩ | exact ⟨by omega, by first | rfl | omega, by omega, Nat.le_of_ble_eq_true rfl, Nat.le_of_ble_eq_true rfl⟩ | exact ⟨rfl, rfl, rfl, Nat.le_of_ble_eq_true rfl, by first | rfl | omega | exact Nat.le_of_ble_eq_true rfl | (dsimp only; omega) | (simp; done) | (simp; omega), by first | rfl | omega | exact Nat.le_of_ble_eq_true rfl | (dsimp only; omega) | (simp; done) | (simp; omega), by omega, Nat.le_of_ble_eq_true rfl⟩ | exact Eq.refl true) ?_)
            | (refine Exists.intro _ (And.intro rfl ?_))
            | (refine And.intro (And.intro rfl (chk_rowI _ _ _ _)) ?_)
            | (refine br_t (by omega) ?_)
            | (refine br_f (by omega) ?_)
            | (refine bs_t (by omega) ?_)
            | (refine bs_f (by omega) ?_)
            | (refine fun (K' : K3) hK' => ?_)
            | (refine hK' _ _ _ ?_; clear hK' K')
            | (refine draw_auto tok mixed (by kernel_rfl) ?_)
            | (refine CallK.intsN' (R := [(21, some 32)]) hS (by kernel_rfl) rfl (by simp [V.wf, A.wf, C.wf, V.i]) (HasC.roO ⟨rfl, fun k hk => by (repeat (first | rw [find_skip (by omega)] | rw [find_hi (by omega) (by rfl)])); exact entC_find hk⟩ hj rfl) (injO hj) ?_)
            | (rw [hsl])
            | (refine CallK.val (R := [(21, some 33)]) hH (by kernel_rfl) rfl (by simp [V.wf, A.wf, C.wf]) (HasC.roO ⟨rfl, fun k hk => by (repeat (first | rw [find_skip (by omega)] | rw [find_hi (by omega) (by rfl)])); exact entC_find hk⟩ hj rfl) (injO hj) rfl (by simp [V.wf, A.wf, C.wf]) ?_)
            | (refine bs_bt (Eq.refl true) ?_)
            | (refine bs_bf (Eq.refl false) ?_)
            | (refine br_bt (Eq.refl true) ?_)
            | (refine br_bf (Eq.refl false) ?_)
            | (refine CallK.m ?_)
            | (refine And.intro (And.intro rfl rfl) ?_))
        refine ⟨i + 1, [], by omega, by omega, ?_⟩
        refine ⟨?_, ?_, injB_ent (p := [_, _, _]) (by omega) rfl rfl, rfl, by first | exact Nat.le_of_ble_eq_true rfl | exact Nat.le_refl _ | omega⟩
        · repeat (first | exact trivial | refine And.intro (covS_syn (by first | rfl | (refine congrArg some (congrArg V.i ?_); omega)) rfl (by first | exact trivial | exact Nat.le_of_ble_eq_true rfl | exact hy | exact (fun p hp => nomatch hp) | (show (_ : Nat) < _; omega))) ?_ | refine And.intro (covS_bool rfl rfl (by first | rfl)) ?_)
        · repeat (first | exact trivial | (exact covL_ent (by omega) (fun k hk => by (try simp only [flatN]); (repeat (first | rw [find_skip (by omega)] | rw [find_hi (by omega) (by rfl)])))) | refine And.intro (covE_id (Nat.le_of_ble_eq_true rfl) (by first | exact wf_ints _ _ | exact wf_bools _ _ | first | exact wf_sls _ _ _ (by omega) | exact wf_jobs _ _ | exact wf_famS _ _ _ (by omega) | simp [C.wf]) rfl (by first | rfl)) ?_)
    · have hlt' : ¬ ((i : Int) + 1 < ((natsC (bestO j)).length : Int)) := by omega
      have hHo := harmE_spec j o hj ho
      have hTu := Turned_spec j hj
      cases hh : harmful j with
      | false =>
        have e5 : turnE j = 5 := by simp [turnE, hv, hh]
        have eR : turnR j = [] := by simp [turnR, e5]
        rw [e5, eR] at hTu
        rcases bool_or (isOrdB j o) with hi | hi
        · rw [hv, hi] at hHo
          simp only [numO, if_true, Bool.false_eq_true, if_false] at hHo
          repeat ((conv => whnf); first
              | (refine And.intro (by first | omega | exact Nat.le_of_ble_eq_true rfl | (dsimp only [inK]; omega) | (simp only [mulS_eq]; omega) | (simp only [mulS_eq, setL_length]; omega) | (simp only [setL_length, List.length_map]; omega) | exact ⟨by omega, by omega, by first | exact Nat.le_of_ble_eq_true rfl | (dsimp only; omega) | (simp only [setL_length]; omega) | (simp only [setL_length, List.length_map]; omega)⟩ | exact ⟨by omega, by first | rfl | omega, by omega, Nat.le_of_ble_eq_true rfl, Nat.le_of_ble_eq_true rfl⟩ | exact ⟨rfl, rfl, rfl, Nat.le_of_ble_eq_true rfl, by first | rfl | omega | exact Nat.le_of_ble_eq_true rfl | (dsimp only; omega) | (simp; done) | (simp; omega), by first | rfl | omega | exact Nat.le_of_ble_eq_true rfl | (dsimp only; omega) | (simp; done) | (simp; omega), by omega, Nat.le_of_ble_eq_true rfl⟩ | exact Eq.refl true) ?_)
              | (refine Exists.intro _ (And.intro rfl ?_))
              | (refine And.intro (And.intro rfl (chk_rowI _ _ _ _)) ?_)
              | (refine br_t (by omega) ?_)
              | (refine br_f (by omega) ?_)
              | (refine bs_t (by omega) ?_)
              | (refine bs_f (by omega) ?_)
              | (refine fun (K' : K3) hK' => ?_)
              | (refine hK' _ _ _ ?_; clear hK' K')
              | (refine CallM.rows (d := []) (R := []) 40 (by omega) plain_jobs (fun p x => chk_jobs p x) rfl (fun e => by cases e) (by simp) hTu (by kernel_rfl) rfl (by simp [V.wf, A.wf, C.wf]) (HasC.ro ⟨rfl, fun k hk => by (repeat (first | rw [find_skip (by omega)] | rw [find_hi (by omega) (by rfl)])); exact entC_find hk⟩ hj) (injC hj) ?_)
              | (refine draw_auto tok mixed (by kernel_rfl) ?_)
              | (refine CallK.val (R := []) hHo (by kernel_rfl) rfl (by simp [V.wf, A.wf, C.wf]) (HasO.ro ⟨⟨rfl, fun k hk => by (repeat (first | rw [find_skip (by omega)] | rw [find_hi (by omega) (by rfl)])); exact entC_find hk⟩, rfl⟩ hj) (injO hj) rfl (by simp [V.wf, A.wf, C.wf]) ?_)
              | (refine sane_k ?_)
              | (refine bs_bt (Eq.refl true) ?_)
              | (refine bs_bf (Eq.refl false) ?_)
              | (refine br_bt (Eq.refl true) ?_)
              | (refine br_bf (Eq.refl false) ?_)
              | (refine CallK.m ?_)
              | (refine And.intro (And.intro rfl rfl) ?_))
          intro ρ; rfl
        · rw [hv, hi] at hHo
          simp only [numO, if_true] at hHo
          have hle : leastO j ≤ harmO j o o.length := by
            obtain ⟨o', rfl, h1⟩ := (isOrd_iff (by omega)).1 hi
            rw [hleast, harm_costS, harm_costS]
            exact bestO_least hc h1
          repeat ((conv => whnf); first
              | (refine And.intro (by first | omega | exact Nat.le_of_ble_eq_true rfl | (dsimp only [inK]; omega) | (simp only [mulS_eq]; omega) | (simp only [mulS_eq, setL_length]; omega) | (simp only [setL_length, List.length_map]; omega) | exact ⟨by omega, by omega, by first | exact Nat.le_of_ble_eq_true rfl | (dsimp only; omega) | (simp only [setL_length]; omega) | (simp only [setL_length, List.length_map]; omega)⟩ | exact ⟨by omega, by first | rfl | omega, by omega, Nat.le_of_ble_eq_true rfl, Nat.le_of_ble_eq_true rfl⟩ | exact ⟨rfl, rfl, rfl, Nat.le_of_ble_eq_true rfl, by first | rfl | omega | exact Nat.le_of_ble_eq_true rfl | (dsimp only; omega) | (simp; done) | (simp; omega), by first | rfl | omega | exact Nat.le_of_ble_eq_true rfl | (dsimp only; omega) | (simp; done) | (simp; omega), by omega, Nat.le_of_ble_eq_true rfl⟩ | exact Eq.refl true) ?_)
              | (refine Exists.intro _ (And.intro rfl ?_))
              | (refine And.intro (And.intro rfl (chk_rowI _ _ _ _)) ?_)
              | (refine br_t (by omega) ?_)
              | (refine br_f (by omega) ?_)
              | (refine bs_t (by omega) ?_)
              | (refine bs_f (by omega) ?_)
              | (refine fun (K' : K3) hK' => ?_)
              | (refine hK' _ _ _ ?_; clear hK' K')
              | (refine CallM.rows (d := []) (R := []) 40 (by omega) plain_jobs (fun p x => chk_jobs p x) rfl (fun e => by cases e) (by simp) hTu (by kernel_rfl) rfl (by simp [V.wf, A.wf, C.wf]) (HasC.ro ⟨rfl, fun k hk => by (repeat (first | rw [find_skip (by omega)] | rw [find_hi (by omega) (by rfl)])); exact entC_find hk⟩ hj) (injC hj) ?_)
              | (refine draw_auto tok mixed (by kernel_rfl) ?_)
              | (refine CallK.val (R := []) hHo (by kernel_rfl) rfl (by simp [V.wf, A.wf, C.wf]) (HasO.ro ⟨⟨rfl, fun k hk => by (repeat (first | rw [find_skip (by omega)] | rw [find_hi (by omega) (by rfl)])); exact entC_find hk⟩, rfl⟩ hj) (injO hj) rfl (by simp [V.wf, A.wf, C.wf]) ?_)
              | (refine sane_k ?_)
              | (refine bs_bt (Eq.refl true) ?_)
              | (refine bs_bf (Eq.refl false) ?_)
              | (refine br_bt (Eq.refl true) ?_)
              | (refine br_bf (Eq.refl false) ?_)
              | (refine CallK.m ?_)
              | (refine And.intro (And.intro rfl rfl) ?_))
          intro ρ; rfl
      | true =>
        have e0 : turnE j = 0 := by simp [turnE, hv, hh]
        have eR : turnR j = turnJ j := by simp [turnR, e0]
        rw [e0, eR] at hTu
        have hvt := turn_valid hv hh
        have hst := turn_sized hj
        have hst20 := hst.len
        have hct := validL_coast hst hvt
        have hLt := least_spec (turnJ j) hst
        rw [hvt, turn_least hc hct] at hLt
        simp only [if_true] at hLt
        have hK1 := back_spec (natsC (bestO j)) (by omega)
        obtain ⟨hr1, hr2⟩ := harm_rev hv hh hbi
        have hrl : (natsC (bestO j)).reverse.length = (natsC (bestO j)).length := List.length_reverse
        have hHb := harmE_spec (turnJ j) (natsC (bestO j)).reverse hst (by omega)
        rw [hvt, hr1] at hHb
        simp only [numO, if_true] at hHb
        rw [show harmO (turnJ j) (natsC (bestO j)).reverse (natsC (bestO j)).reverse.length = leastO j by rw [hrl, hr2]; rfl] at hHb
        rcases bool_or (isOrdB j o) with hi | hi
        · rw [hv, hi] at hHo
          simp only [numO, if_true, Bool.false_eq_true, if_false] at hHo
          repeat ((conv => whnf); first
              | (refine And.intro (by first | omega | exact Nat.le_of_ble_eq_true rfl | (dsimp only [inK]; omega) | (simp only [mulS_eq]; omega) | (simp only [mulS_eq, setL_length]; omega) | (simp only [setL_length, List.length_map]; omega) | exact ⟨by omega, by omega, by first | exact Nat.le_of_ble_eq_true rfl | (dsimp only; omega) | (simp only [setL_length]; omega) | (simp only [setL_length, List.length_map]; omega)⟩ | exact ⟨by omega, by first | rfl | omega, by omega, Nat.le_of_ble_eq_true rfl, Nat.le_of_ble_eq_true rfl⟩ | exact ⟨rfl, rfl, rfl, Nat.le_of_ble_eq_true rfl, by first | rfl | omega | exact Nat.le_of_ble_eq_true rfl | (dsimp only; omega) | (simp; done) | (simp; omega), by first | rfl | omega | exact Nat.le_of_ble_eq_true rfl | (dsimp only; omega) | (simp; done) | (simp; omega), by omega, Nat.le_of_ble_eq_true rfl⟩ | exact Eq.refl true) ?_)
              | (refine Exists.intro _ (And.intro rfl ?_))
              | (refine And.intro (And.intro rfl (chk_rowI _ _ _ _)) ?_)
              | (refine br_t (by omega) ?_)
              | (refine br_f (by omega) ?_)
              | (refine bs_t (by omega) ?_)
              | (refine bs_f (by omega) ?_)
              | (refine fun (K' : K3) hK' => ?_)
              | (refine hK' _ _ _ ?_; clear hK' K')
              | (refine CallM.rows (d := []) (R := []) 40 (by omega) plain_jobs (fun p x => chk_jobs p x) rfl (fun e => by cases e) hst.len hTu (by kernel_rfl) rfl (by simp [V.wf, A.wf, C.wf]) (HasC.ro ⟨rfl, fun k hk => by (repeat (first | rw [find_skip (by omega)] | rw [find_hi (by omega) (by rfl)])); exact entC_find hk⟩ hj) (injC hj) ?_)
              | (refine draw_auto tok mixed (by kernel_rfl) ?_)
              | (refine CallK.val (R := []) hHo (by kernel_rfl) rfl (by simp [V.wf, A.wf, C.wf]) (HasO.ro ⟨⟨rfl, fun k hk => by (repeat (first | rw [find_skip (by omega)] | rw [find_hi (by omega) (by rfl)])); exact entC_find hk⟩, rfl⟩ hj) (injO hj) rfl (by simp [V.wf, A.wf, C.wf]) ?_)
              | (refine CallK.val (R := turR 33 0 (turnJ j).length 40) hLt (by kernel_rfl) rfl (by simp [V.wf, A.wf, C.wf]) (HasT.ro0 ⟨rfl, fun i hi => by (try (conv => lhs; arg 1; whnf)); (repeat rw [find_skip (by omega)]); exact find_app_some (famE_find hi)⟩ hst) (injC hst) rfl (by simp [V.wf, A.wf, C.wf]) ?_)
              | (refine CallK.ints (R := [(0, some 32)]) hK1 (by kernel_rfl) rfl (by simp [V.wf, A.wf, C.wf]) ⟨⟨Nat.one_pos, wf_ints _ _, .vec 3 1, _, (by ((try (conv => lhs; arg 1; whnf)); (repeat (first | rw [find_skip (by omega)] | rw [find_fam (by omega)])); rfl)), .inl rfl, ren_ints _ _⟩, trivial⟩ rfl ?_)
              | (refine CallK.val (R := turR 33 60 (turnJ j).length 40) hHb (by kernel_rfl) rfl (by simp [V.wf, A.wf, C.wf]) (HasT.ro ⟨rfl, fun i hi => by (try (conv => lhs; arg 1; whnf)); (repeat rw [find_skip (by omega)]); exact find_app_some (famE_find hi)⟩ hst rfl) (injO hst) rfl (by simp [V.wf, A.wf, C.wf]) ?_)
              | (refine sane_k ?_)
              | (refine bs_bt (Eq.refl true) ?_)
              | (refine bs_bf (Eq.refl false) ?_)
              | (refine br_bt (Eq.refl true) ?_)
              | (refine br_bf (Eq.refl false) ?_)
              | (refine CallK.m ?_)
              | (refine And.intro (And.intro rfl rfl) ?_))
          intro ρ; rfl
        · rw [hv, hi] at hHo
          simp only [numO, if_true] at hHo
          have hle : leastO j ≤ harmO j o o.length := by
            obtain ⟨o', rfl, h1⟩ := (isOrd_iff (by omega)).1 hi
            rw [hleast, harm_costS, harm_costS]
            exact bestO_least hc h1
          have hK2 := back_spec o (by omega)
          obtain ⟨hs1, hs2⟩ := harm_rev hv hh hi
          have hrl2 : o.reverse.length = o.length := List.length_reverse
          have hHr := harmE_spec (turnJ j) o.reverse hst (by omega)
          rw [hvt, hs1] at hHr
          simp only [numO, if_true] at hHr
          rw [show harmO (turnJ j) o.reverse o.reverse.length = harmO j o o.length by rw [hrl2, hs2]] at hHr
          repeat ((conv => whnf); first
              | (refine And.intro (by first | omega | exact Nat.le_of_ble_eq_true rfl | (dsimp only [inK]; omega) | (simp only [mulS_eq]; omega) | (simp only [mulS_eq, setL_length]; omega) | (simp only [setL_length, List.length_map]; omega) | exact ⟨by omega, by omega, by first | exact Nat.le_of_ble_eq_true rfl | (dsimp only; omega) | (simp only [setL_length]; omega) | (simp only [setL_length, List.length_map]; omega)⟩ | exact ⟨by omega, by first | rfl | omega, by omega, Nat.le_of_ble_eq_true rfl, Nat.le_of_ble_eq_true rfl⟩ | exact ⟨rfl, rfl, rfl, Nat.le_of_ble_eq_true rfl, by first | rfl | omega | exact Nat.le_of_ble_eq_true rfl | (dsimp only; omega) | (simp; done) | (simp; omega), by first | rfl | omega | exact Nat.le_of_ble_eq_true rfl | (dsimp only; omega) | (simp; done) | (simp; omega), by omega, Nat.le_of_ble_eq_true rfl⟩ | exact Eq.refl true) ?_)
              | (refine Exists.intro _ (And.intro rfl ?_))
              | (refine And.intro (And.intro rfl (chk_rowI _ _ _ _)) ?_)
              | (refine br_t (by omega) ?_)
              | (refine br_f (by omega) ?_)
              | (refine bs_t (by omega) ?_)
              | (refine bs_f (by omega) ?_)
              | (refine fun (K' : K3) hK' => ?_)
              | (refine hK' _ _ _ ?_; clear hK' K')
              | (refine CallM.rows (d := []) (R := []) 40 (by omega) plain_jobs (fun p x => chk_jobs p x) rfl (fun e => by cases e) hst.len hTu (by kernel_rfl) rfl (by simp [V.wf, A.wf, C.wf]) (HasC.ro ⟨rfl, fun k hk => by (repeat (first | rw [find_skip (by omega)] | rw [find_hi (by omega) (by rfl)])); exact entC_find hk⟩ hj) (injC hj) ?_)
              | (refine draw_auto tok mixed (by kernel_rfl) ?_)
              | (refine CallK.val (R := []) hHo (by kernel_rfl) rfl (by simp [V.wf, A.wf, C.wf]) (HasO.ro ⟨⟨rfl, fun k hk => by (repeat (first | rw [find_skip (by omega)] | rw [find_hi (by omega) (by rfl)])); exact entC_find hk⟩, rfl⟩ hj) (injO hj) rfl (by simp [V.wf, A.wf, C.wf]) ?_)
              | (refine CallK.val (R := turR 33 0 (turnJ j).length 40) hLt (by kernel_rfl) rfl (by simp [V.wf, A.wf, C.wf]) (HasT.ro0 ⟨rfl, fun i hi => by (try (conv => lhs; arg 1; whnf)); (repeat rw [find_skip (by omega)]); exact find_app_some (famE_find hi)⟩ hst) (injC hst) rfl (by simp [V.wf, A.wf, C.wf]) ?_)
              | (refine CallK.ints (R := [(0, some 32)]) hK1 (by kernel_rfl) rfl (by simp [V.wf, A.wf, C.wf]) ⟨⟨Nat.one_pos, wf_ints _ _, .vec 3 1, _, (by ((try (conv => lhs; arg 1; whnf)); (repeat (first | rw [find_skip (by omega)] | rw [find_fam (by omega)])); rfl)), .inl rfl, ren_ints _ _⟩, trivial⟩ rfl ?_)
              | (refine CallK.val (R := turR 33 60 (turnJ j).length 40) hHb (by kernel_rfl) rfl (by simp [V.wf, A.wf, C.wf]) (HasT.ro ⟨rfl, fun i hi => by (try (conv => lhs; arg 1; whnf)); (repeat rw [find_skip (by omega)]); exact find_app_some (famE_find hi)⟩ hst rfl) (injO hst) rfl (by simp [V.wf, A.wf, C.wf]) ?_)
              | (refine sane_k ?_)
              | (refine CallK.ints (R := [(0, some 21)]) hK2 (by kernel_rfl) rfl (by simp [V.wf, A.wf, C.wf]) ⟨⟨Nat.one_pos, wf_ints _ _, .ro 0, _, (by ((try (conv => lhs; arg 1; whnf)); (repeat (first | rw [find_skip (by omega)] | rw [find_fam (by omega)])); rfl)), .inl rfl, ren_ints _ _⟩, trivial⟩ rfl ?_)
              | (refine CallK.val (R := turR 33 61 (turnJ j).length 40) hHr (by kernel_rfl) rfl (by simp [V.wf, A.wf, C.wf]) (HasT.ro ⟨rfl, fun i hi => by (try (conv => lhs; arg 1; whnf)); (repeat rw [find_skip (by omega)]); exact find_app_some (famE_find hi)⟩ hst rfl) (injO hst) rfl (by simp [V.wf, A.wf, C.wf]) ?_)
              | (refine bs_bt (Eq.refl true) ?_)
              | (refine bs_bf (Eq.refl false) ?_)
              | (refine br_bt (Eq.refl true) ?_)
              | (refine br_bf (Eq.refl false) ?_)
              | (refine CallK.m ?_)
              | (refine And.intro (And.intro rfl rfl) ?_))
          intro ρ; rfl
theorem top_any (j : Coast) (o : List Int) (ao : Option Addr) (c : Nat) (bs : Nat → Option Addr × Nat) (po : Option Addr) (pc : Nat) (w : World) (h : CoastAt w ao c j bs) (ho : RoAt w po (o.map (Value.int .i64))) :
    Calls Try.prog 9 #[.slice ao j.length c, .slice po o.length pc] w fun e w' => e = .returned (.bool true) ∧ Below w.heap.size w w' := by
  by_cases hl : longB j = true ∨ 200 < o.length
  · refine isTrue_any (vs := [V.c (.sl 0 j.length), V.c (.sl (j.length + 31) o.length)]) (top_long j o h.lt hl) (hp_long h po pc) (by simp [V.wf, A.wf, C.wf, V.i]) ?_
    simp [V.den, A.den, C.den, C.i, V.i, coastE]
  · have h1 : longB j = false := by simpa using fun e => hl (.inl e)
    exact isTrue_any (vs := [V.c (.sl 0 j.length), V.c (.sl 21 o.length)]) (top_spec j o (longB_sized h1) h1 (by omega)) (hp_order h (longB_sized h1) ho) (by simp [V.wf, A.wf, C.wf, V.i]) rfl
end Go.Proofs.Ytjijjncddjkdlaa

