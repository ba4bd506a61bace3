/- Texts of the proof, part 5: B8, B9, P5, KA, P6, R6, P9, P8, H2, NR2, H3. -/
import Derived.Test.YtbhpnhcdjmcaoaaG4
import Derived.WalkKit
import Derived.Below
import Derived.Laws.OwnMore
import Derived.Maps.AppendAt
import Derived.Laws.IdiomCopy
import Derived.Laws.CopyRow
import Derived.IntWalk
import Derived.StillTail
import Derived.Scope
import Derived.ChangeKeysEq
import Derived.Laws.Small
import Derived.OrdersIn
import Derived.TacticsIn
import Derived.OwnWalkIn
import Derived.RangeFuncNested
import Derived.RangeFuncLeaves
import Derived.RangeFuncRecord
import Derived.Maps.Keyed
import Derived.Maps.RangeRun
import Derived.DeepKeys4
import Derived.Test.YtbhpnhcdjmcaoaaRows
import Derived.KernelRfl
import Derived.ProofKit
import Derived.OpenShut
import Derived.Lib.SmallJoins
import Derived.Deep.Slices
/- Boom: lists of cells that are barriers, and what they cost. -/
namespace Go.Proofs.Ytbhpnhcdjmcaoaa
open Go.RowKit
set_option linter.unusedVariables false
set_option linter.unusedSimpArgs false
theorem indexI_spec (l : List Int) (x : Int) (hl : l.length ≤ 300) : Spec Try.prog 113 [V.c (.sl 0 l.length), V.i x] [⟨0, .ro 0, l.map C.i⟩] 1 (Is (V.i (idxV l fun y => decide (x = y)))) := by
  have hlm : (l.map C.i).length = l.length := by simp
  refine Spec.of tok Try.func113 rfl rfl rfl fun n0 cx => vc_ok tok ?_
  repeat ((conv => whnf); first | refine fun (K' : K3) hK' => ?_ | (refine hK' _ _ _ ?_; clear hK' K'))
  refine Tri.loop (γ := Nat) (fun k => k ≤ l.length ∧ ∀ i, i < k → decide (x = l.getD i 0) = false) (fun k => [(0, V.c (.sl 0 l.length)), (1, V.i x), (7, V.i l.length), (8, V.i (k : Nat))]) (fun k => [⟨0, .ro 0, l.map C.i⟩]) 1 (fun k => l.length - k) 0 (R0 := []) ?_ ?_ ?_
  · exact ⟨by omega, by omega⟩
  · skip
    refine ⟨?_, ?_, rfl, rfl, by exact Nat.le_of_ble_eq_true rfl⟩
    · repeat (first | exact trivial | (refine And.intro (covS_syn (by rfl) rfl (by first | exact trivial | exact Nat.le_of_ble_eq_true rfl)) ?_))
    · repeat (first | exact trivial | refine And.intro (covE_id (Nat.le_of_ble_eq_true rfl) (by exact wf_ints _ _) rfl (by rfl)) ?_)
  · rintro k ⟨hk, hb⟩
    refine vc_ok tok ?_
    by_cases hlt : k < l.length
    · by_cases hx : x = l.getD k 0
      · repeat ((conv => whnf); first | (refine And.intro (by first | omega | (dsimp only [inK]; omega)) ?_) | with_reducible refine ld (intL hlt) ?_ | refine br_t (by omega) ?_ | refine fun (K' : K3) hK' => ?_ | (refine hK' _ _ _ ?_; clear hK' K'))
        intro ρ
        rw [idxV, find_num hlt (dd_t hx) hb]; rfl
      · repeat ((conv => whnf); first | (refine And.intro (by first | omega | (dsimp only [inK]; omega)) ?_) | with_reducible refine ld (intL hlt) ?_ | refine br_t (by omega) ?_ | refine br_f (by omega) ?_ | refine fun (K' : K3) hK' => ?_ | (refine hK' _ _ _ ?_; clear hK' K'))
        refine ⟨k + 1, [], ⟨by omega, fun i hi => ?_⟩, by omega, ?_⟩
        · by_cases h : i = k
          · rw [h]; exact dd_f hx
          · exact hb i (by omega)
        · skip
          refine ⟨?_, ?_, rfl, rfl, by exact Nat.le_of_ble_eq_true rfl⟩
          · repeat (first | exact trivial | (refine And.intro (covS_syn (by rfl) rfl (by first | exact trivial | exact Nat.le_of_ble_eq_true rfl)) ?_))
          · repeat (first | exact trivial | refine And.intro (covE_id (Nat.le_of_ble_eq_true rfl) (by exact wf_ints _ _) rfl (by rfl)) ?_)
    · have hkl : k = l.length := by omega
      repeat ((conv => whnf); first | refine br_f (by omega) ?_ | refine fun (K' : K3) hK' => ?_ | (refine hK' _ _ _ ?_; clear hK' K'))
      intro ρ
      rw [idxV, find_not (fun i hi => hb i (by omega))]; rfl
def hasI (l : List Int) (x : Int) : Bool := l.any fun y => decide (x = y)
theorem containsI_spec (l : List Int) (x : Int) (hl : l.length ≤ 300) : Spec Try.prog 106 [V.c (.sl 0 l.length), V.i x] [⟨0, .ro 0, l.map C.i⟩] 1 (Is (V.c (.bool (hasI l x)))) := by
  refine Spec.of tok Try.func106 rfl rfl rfl fun n0 cx => vc_ok tok ?_
  repeat ((conv => whnf); first | refine fun (K' : K3) hK' => ?_ | (refine hK' _ _ _ ?_; clear hK' K') | refine CallK.val (R := []) (indexI_spec l x hl) (by kernel_rfl) rfl (by simp [V.wf, A.wf, C.wf]) ⟨roE_ints rfl (by omega) rfl (.inl rfl), trivial⟩ rfl rfl trivial ?_ | refine CallK.m ?_)
  intro ρ
  show Value.bool _ = Value.bool _
  rw [hasI, ← any_idx]
/-- The indexes of cells. -/
def listI (W H : Int) (l : List Cell) : List Int := l.map (idxC W H)
def listOk (W H : Int) (l : List Cell) (j : Nat) : Bool := !(decide (idxC W H (l.getD j cz) < 0) || hasI (listI W H (l.take j)) (idxC W H (l.getD j cz)))
def listOkK (W H : Int) (l : List Cell) (k : Nat) : Bool := (List.range k).all (listOk W H l)
theorem listOkK_succ (W H : Int) (l : List Cell) (k : Nat) : listOkK W H l (k + 1) = (listOkK W H l k && listOk W H l k) := by simp [listOkK, List.range_succ, List.all_append]
theorem listOkK_false {W H : Int} {l : List Cell} {k : Nat} (hk : k < l.length) (h : listOk W H l k = false) : listOkK W H l l.length = false := by
  unfold listOkK; rw [List.all_eq_false]; exact ⟨k, by simpa using hk, by simp [h]⟩
def lenOk (l : List Cell) : Bool := decide (1 ≤ (l.length : Int) ∧ (l.length : Int) ≤ 100)
def lisR (W H : Int) (l : List Cell) (v : V) (L' : List E) : Prop :=
  if listOkK W H l l.length then ∃ lab, v = V.tup [A.c (.sl lab l.length), A.c (.bool (lenOk l))] ∧ find L' lab = some ⟨lab, .vec 3 1, (listI W H l).map C.i⟩
  else v = V.tup [A.c .nil, A.c .ff]
theorem listI_take {W H : Int} {l : List Cell} {k : Nat} (h : k < l.length) : (listI W H (l.take (k + 1))).map C.i = (listI W H (l.take k)).map C.i ++ [C.i (idxC W H (l.getD k cz))] := by
  rw [List.take_add_one, show l[k]?.toList = [l.getD k cz] by rw [List.getElem?_eq_getElem h, List.getD_eq_getElem?_getD, List.getElem?_eq_getElem h]; rfl]
  simp [listI]
set_option maxHeartbeats 4000000 in
theorem listed_spec (W H : Int) (n : Nat) (l : List Cell) (hW : 0 < W ∧ W ≤ 10) (hH : 0 < H ∧ H ≤ 10) (hl : l.length ≤ 300) :
    Spec Try.prog 79 [chV W H n, V.c (.sl 2 l.length)] [⟨2, .ro 2, cellC l⟩] 3 (fun v L' _ => lisR W H l v L') := by
  have hcl := cellC_len l
  have hb := between_spec 1 (l.length : Int) 100
  refine Spec.of tok Try.func79 rfl rfl rfl fun n0 cx => vc_ok tok ?_
  repeat ((conv => whnf); first | refine fun (K' : K3) hK' => ?_ | (refine hK' _ _ _ ?_; clear hK' K'))
  refine Tri.loop (γ := Nat) (fun k => k ≤ l.length ∧ listOkK W H l k = true) (fun k => [(1, V.c (.sl 2 l.length)), (2, V.c (.ptr 3 0)), (6, V.c (.sl 4 k)), (10, V.c (.sl 2 l.length)), (11, V.i l.length), (12, V.i (k : Nat))])
    (fun k => [⟨4, .vec 3 1, (listI W H (l.take k)).map C.i⟩, ⟨3, .own 65, [C.i W, C.i H, .sl 0 n, .mp 1]⟩, ⟨2, .ro 2, cellC l⟩]) 5 (fun k => l.length - k) 0 (R0 := [(4, none)]) ?_ ?_ ?_
  · exact ⟨by omega, rfl⟩
  · skip
    refine ⟨?_, ?_, rfl, rfl, by exact Nat.le_of_ble_eq_true rfl⟩
    · repeat (first | exact trivial | (refine And.intro (covS_syn (by rfl) rfl (by first | exact trivial | exact Nat.le_of_ble_eq_true rfl)) ?_))
    · repeat (first | exact trivial | refine And.intro (covE_some rfl (Nat.le_of_ble_eq_true rfl) (wf_cells _ _) rfl (ren_cells _ _)) ?_ | refine And.intro (covE_nil rfl (Nat.le_of_ble_eq_true rfl) rfl rfl) ?_ | refine And.intro (covE_some rfl (Nat.le_of_ble_eq_true rfl) (by simp [C.wf]) rfl (by rfl)) ?_)
  · rintro k ⟨hk, hok⟩
    refine vc_ok tok ?_
    by_cases hlt : k < l.length
    · have hld := cellT (l := l) (k := k) rfl hlt
      have hix := index_spec W H n (l.getD k cz).1 (l.getD k cz).2 hW hH
      have hib := idxI_bd (x := (l.getD k cz).1) (y := (l.getD k cz).2) hW hH
      have hlen : (listI W H (l.take k)).length = k := by simp [listI]; omega
      have hco := containsI_spec (listI W H (l.take k)) (idxC W H (l.getD k cz)) (by omega)
      rw [hlen] at hco
      have hlk : listOk W H l k = !(decide (idxC W H (l.getD k cz) < 0) || hasI (listI W H (l.take k)) (idxC W H (l.getD k cz))) := rfl
      have hno := fun h => listOkK_false (W := W) (H := H) hlt h
      have htk := listI_take (W := W) (H := H) hlt
      have hie : idxC W H (l.getD k cz) = idxI W H (l.getD k cz).1 (l.getD k cz).2 := rfl
      obtain ⟨p, hp⟩ : ∃ p, p = l.getD k cz := ⟨_, rfl⟩
      rw [← hp] at hld hix hib hco hlk htk hie
      obtain ⟨i, hi⟩ : ∃ i, i = idxC W H p := ⟨_, rfl⟩
      rw [← hi] at hco hlk htk hie
      rw [← hie] at hix hib
      have hrow : ((listI W H (l.take k)).map C.i).length = k := by simp [hlen]
      by_cases h1 : i < 0
      · have hr := hno (by rw [hlk, dd_t h1]; rfl)
        repeat ((conv => whnf); first | (refine And.intro (by first | omega | exact Nat.le_of_ble_eq_true rfl | (dsimp only [inK]; omega)) ?_) | with_reducible refine ld (hld) ?_ | refine Exists.intro _ (And.intro rfl ?_) | refine br_t (by omega) ?_ | refine bs_t (by omega) ?_ | refine fun (K' : K3) hK' => ?_ | (refine hK' _ _ _ ?_; clear hK' K') | refine CallK.val (R := []) hix (by kernel_rfl) rfl (by simp [V.wf, A.wf, C.wf]) trivial rfl rfl trivial ?_ | refine CallK.m ?_)
        unfold lisR; rw [hr]; rfl
      · cases h2 : hasI (listI W H (l.take k)) i with
        | true =>
          have hr := hno (by rw [hlk, h2]; simp)
          repeat ((conv => whnf); first | (refine And.intro (by first | omega | exact Nat.le_of_ble_eq_true rfl | (dsimp only [inK]; omega)) ?_) | with_reducible refine ld (hld) ?_ | refine Exists.intro _ (And.intro rfl ?_) | refine br_t (by omega) ?_ | refine bs_f (by omega) ?_ | refine fun (K' : K3) hK' => ?_ | (refine hK' _ _ _ ?_; clear hK' K') | refine CallK.val (R := []) hix (by kernel_rfl) rfl (by simp [V.wf, A.wf, C.wf]) trivial rfl rfl trivial ?_ | refine CallK.val (R := [(0, some 4)]) hco (by kernel_rfl) rfl (by simp [V.wf, A.wf, C.wf]) ⟨roE_ints (l := 4) rfl (by omega) rfl (.inl rfl), trivial⟩ rfl rfl trivial ?_ | refine br_bt h2 ?_ | refine CallK.m ?_)
          unfold lisR; rw [hr]; rfl
        | false =>
          have hgo : listOkK W H l (k + 1) = true := by rw [listOkK_succ, hok, hlk, h2, dd_f h1]; rfl
          repeat ((conv => whnf); first | (refine And.intro (by first | omega | exact Nat.le_of_ble_eq_true rfl | (dsimp only [inK]; omega) | (exact ⟨rfl, rfl, rfl, Nat.le_of_ble_eq_true rfl, by dsimp only; omega, by exact Nat.le_of_ble_eq_true rfl, by omega, Nat.le_of_ble_eq_true rfl⟩)) ?_) | with_reducible refine ld (hld) ?_ | refine Exists.intro _ (And.intro rfl ?_) | refine br_t (by omega) ?_ | refine bs_f (by omega) ?_ | refine fun (K' : K3) hK' => ?_ | (refine hK' _ _ _ ?_; clear hK' K') | refine CallK.val (R := []) hix (by kernel_rfl) rfl (by simp [V.wf, A.wf, C.wf]) trivial rfl rfl trivial ?_ | refine CallK.val (R := [(0, some 4)]) hco (by kernel_rfl) rfl (by simp [V.wf, A.wf, C.wf]) ⟨roE_ints (l := 4) rfl (by omega) rfl (.inl rfl), trivial⟩ rfl rfl trivial ?_ | refine br_bf h2 ?_ | refine CallK.m ?_)
          refine ⟨k + 1, [(4, some 7)], ⟨by omega, hgo⟩, by omega, ?_⟩
          refine ⟨?_, ?_, rfl, rfl, by exact Nat.le_of_ble_eq_true rfl⟩
          · repeat (first | exact trivial | (refine And.intro (covS_syn (by rfl) rfl (by first | exact trivial | exact Nat.le_of_ble_eq_true rfl)) ?_))
          · repeat (first | exact trivial | refine And.intro (covE_some rfl (Nat.le_of_ble_eq_true rfl) (wf_cells _ _) rfl (ren_cells _ _)) ?_ | (refine And.intro (covE_some rfl (Nat.le_of_ble_eq_true rfl) (by first | exact wf_ints _ _ | simp [C.wf]) rfl (by first | (refine (ren_ints _ _).trans (congrArg some ?_); rw [htk]; rfl) | rfl)) ?_))
    · have hkl : k = l.length := by omega
      subst hkl
      repeat ((conv => whnf); first | refine br_f (by omega) ?_ | refine fun (K' : K3) hK' => ?_ | (refine hK' _ _ _ ?_; clear hK' K') | refine CallK.val (R := []) hb (by kernel_rfl) rfl (by simp [V.wf, A.wf, C.wf]) trivial rfl rfl trivial ?_ | refine CallK.m ?_)
      unfold lisR; rw [hok, List.take_length]
      exact ⟨4, rfl, rfl⟩
def pbarOk (W H : Int) (cs : List Int) (is : List Int) (k : Nat) : Bool :=
  !(!decide (cs.getD (is.getD k 0).toNat 0 ≠ 0) || ((decide (is.getD k 0 / W = 0) != decide ((k : Int) = 0)) || (decide (is.getD k 0 / W = H - 1) != decide ((k : Int) = (is.length : Int) - 1))))
def pbarOkK (W H : Int) (cs : List Int) (is : List Int) (k : Nat) : Bool := (List.range k).all (pbarOk W H cs is)
def isBarP (W H : Int) (cs : List Int) (is : List Int) : Bool := pbarOkK W H cs is is.length && follB W H true is is.length
theorem pbarOkK_succ (W H : Int) (cs is : List Int) (k : Nat) : pbarOkK W H cs is (k + 1) = (pbarOkK W H cs is k && pbarOk W H cs is k) := by simp [pbarOkK, List.range_succ, List.all_append]
theorem isBarP_false {W H : Int} {cs is : List Int} {k : Nat} (hk : k < is.length) (h : pbarOk W H cs is k = false) : isBarP W H cs is = false := by
  have : pbarOkK W H cs is is.length = false := by
    unfold pbarOkK; rw [List.all_eq_false]; exact ⟨k, by simpa using hk, by simp [h]⟩
  unfold isBarP; rw [this]; rfl
set_option maxHeartbeats 4000000 in
theorem pisBar_spec (W H : Int) (cs is : List Int) (hok : CO W H cs) (hl : is.length ≤ 300) (hin : ∀ k, k < is.length → 0 ≤ is.getD k 0 ∧ is.getD k 0 < W * H) :
    Spec Try.prog 80 [chV W H cs.length, V.c (.sl 2 is.length)] [⟨0, .ro 0, cs.map C.i⟩, ⟨2, .ro 0, is.map C.i⟩] 3 (Is (V.c (.bool (isBarP W H cs is)))) := by
  have hlm : (cs.map C.i).length = cs.length := by simp
  have hlm2 : (is.map C.i).length = is.length := by simp
  obtain ⟨hW, hH, hcn, hcost⟩ := hok
  have hn : W * H ≤ 100 := by have := Int.mul_le_mul hW.2 hH.2 (by omega) (by omega : (0:Int) ≤ 10); omega
  have hfo := follows_spec W H cs.length true is (by omega) (by omega) hl hin
  refine Spec.of tok Try.func80 rfl rfl rfl fun n0 cx => vc_ok tok ?_
  repeat ((conv => whnf); first | refine fun (K' : K3) hK' => ?_ | (refine hK' _ _ _ ?_; clear hK' K'))
  refine Tri.loop (γ := Nat) (fun k => k ≤ is.length ∧ pbarOkK W H cs is k = true) (fun k => [(1, V.c (.sl 2 is.length)), (2, V.c (.ptr 3 0)), (7, V.c (.sl 2 is.length)), (8, V.i is.length), (9, V.i (k : Nat))])
    (fun k => [⟨3, .own 65, [C.i W, C.i H, .sl 0 cs.length, .mp 1]⟩, ⟨2, .ro 0, is.map C.i⟩, ⟨0, .ro 0, cs.map C.i⟩]) 4 (fun k => is.length - k) 0 (R0 := []) ?_ ?_ ?_
  · exact ⟨by omega, rfl⟩
  · skip
    refine ⟨?_, ?_, rfl, rfl, by exact Nat.le_of_ble_eq_true rfl⟩
    · repeat (first | exact trivial | (refine And.intro (covS_syn (by rfl) rfl (by first | exact trivial | exact Nat.le_of_ble_eq_true rfl)) ?_))
    · repeat (first | exact trivial | (refine And.intro (covE_id (Nat.le_of_ble_eq_true rfl) (by first | exact wf_ints _ _ | simp [C.wf]) rfl (by rfl)) ?_))
  · rintro k ⟨hk, hokk⟩
    refine vc_ok tok ?_
    by_cases hlt : k < is.length
    · have hld := intL hlt
      have hi0 := hin k hlt
      have hno := fun h => isBarP_false (W := W) (H := H) (cs := cs) hlt h
      have hpk : pbarOk W H cs is k = !(!decide (cs.getD (is.getD k 0).toNat 0 ≠ 0) || ((decide (is.getD k 0 / W = 0) != decide ((k : Int) = 0)) || (decide (is.getD k 0 / W = H - 1) != decide ((k : Int) = (is.length : Int) - 1)))) := rfl
      obtain ⟨i, hi⟩ : ∃ i : Nat, (i : Int) = is.getD k 0 := ⟨(is.getD k 0).toNat, by omega⟩
      rw [← hi] at hld hi0 hpk
      rw [Int.toNat_natCast] at hpk
      have hho := holds_spec W H cs i (by omega)
      have hr0 := row_spec W H cs.length (i : Int) 0 (by omega) (by omega) (by omega)
      have hr1 := row_spec W H cs.length (i : Int) (H - 1) (by omega) (by omega) (by omega)
      obtain ⟨ci, hci⟩ : ∃ ci, ci = cs.getD i 0 := ⟨_, rfl⟩
      rw [← hci] at hho hpk
      by_cases g1 : ci ≠ 0
      · rw [dd_t g1, Bool.not_true, Bool.false_or] at hpk
        cases g2 : (decide ((i : Int) / W = 0) != decide ((k : Int) = 0)) with
        | true =>
          have hr := hno (by rw [hpk, g2]; rfl)
          repeat ((conv => whnf); first | (refine And.intro (by first | omega | (dsimp only [inK]; omega)) ?_) | with_reducible refine ld (hld) ?_ | refine Exists.intro _ (And.intro rfl ?_) | refine br_t (by omega) ?_ | refine fun (K' : K3) hK' => ?_ | (refine hK' _ _ _ ?_; clear hK' K') | refine CallK.val (R := []) hho (by kernel_rfl) rfl (by simp [V.wf, A.wf, C.wf]) ⟨roE_ints rfl (by omega) rfl (.inl rfl), trivial⟩ rfl rfl trivial ?_ | refine bs_bf (congrArg Bool.not (dd_t g1)) ?_ | refine CallK.val (R := []) hr0 (by kernel_rfl) rfl (by simp [V.wf, A.wf, C.wf]) trivial rfl rfl trivial ?_ | refine bs_bt g2 ?_ | refine CallK.m ?_)
          intro ρ; rw [hr]; rfl
        | false =>
          rw [g2, Bool.false_or] at hpk
          cases g3 : (decide ((i : Int) / W = H - 1) != decide ((k : Int) = (is.length : Int) - 1)) with
          | true =>
            have hr := hno (by rw [hpk, g3]; rfl)
            repeat ((conv => whnf); first | (refine And.intro (by first | omega | exact Nat.le_of_ble_eq_true rfl | (dsimp only [inK]; omega)) ?_) | with_reducible refine ld (hld) ?_ | refine Exists.intro _ (And.intro rfl ?_) | refine br_t (by omega) ?_ | refine fun (K' : K3) hK' => ?_ | (refine hK' _ _ _ ?_; clear hK' K') | refine CallK.val (R := []) hho (by kernel_rfl) rfl (by simp [V.wf, A.wf, C.wf]) ⟨roE_ints rfl (by omega) rfl (.inl rfl), trivial⟩ rfl rfl trivial ?_ | refine bs_bf (congrArg Bool.not (dd_t g1)) ?_ | refine CallK.val (R := []) hr0 (by kernel_rfl) rfl (by simp [V.wf, A.wf, C.wf]) trivial rfl rfl trivial ?_ | refine bs_bf g2 ?_ | refine CallK.val (R := []) hr1 (by kernel_rfl) rfl (by simp [V.wf, A.wf, C.wf]) trivial rfl rfl trivial ?_ | refine br_bt g3 ?_ | refine CallK.m ?_)
            intro ρ; rw [hr]; rfl
          | false =>
            have hgo : pbarOkK W H cs is (k + 1) = true := by rw [pbarOkK_succ, hokk, hpk, g3]; rfl
            repeat ((conv => whnf); first | (refine And.intro (by first | omega | exact Nat.le_of_ble_eq_true rfl | (dsimp only [inK]; omega)) ?_) | with_reducible refine ld (hld) ?_ | refine Exists.intro _ (And.intro rfl ?_) | refine br_t (by omega) ?_ | refine fun (K' : K3) hK' => ?_ | (refine hK' _ _ _ ?_; clear hK' K') | refine CallK.val (R := []) hho (by kernel_rfl) rfl (by simp [V.wf, A.wf, C.wf]) ⟨roE_ints rfl (by omega) rfl (.inl rfl), trivial⟩ rfl rfl trivial ?_ | refine bs_bf (congrArg Bool.not (dd_t g1)) ?_ | refine CallK.val (R := []) hr0 (by kernel_rfl) rfl (by simp [V.wf, A.wf, C.wf]) trivial rfl rfl trivial ?_ | refine bs_bf g2 ?_ | refine CallK.val (R := []) hr1 (by kernel_rfl) rfl (by simp [V.wf, A.wf, C.wf]) trivial rfl rfl trivial ?_ | refine br_bf g3 ?_ | refine CallK.m ?_)
            refine ⟨k + 1, [], ⟨by omega, hgo⟩, by omega, ?_⟩
            refine ⟨?_, ?_, rfl, rfl, by exact Nat.le_of_ble_eq_true rfl⟩
            · repeat (first | exact trivial | (refine And.intro (covS_syn (by rfl) rfl (by first | exact trivial | exact Nat.le_of_ble_eq_true rfl)) ?_))
            · repeat (first | exact trivial | (refine And.intro (covE_id (Nat.le_of_ble_eq_true rfl) (by first | exact wf_ints _ _ | simp [C.wf]) rfl (by rfl)) ?_))
      · have hr := hno (by rw [hpk, dd_f g1]; rfl)
        repeat ((conv => whnf); first | (refine And.intro (by first | omega | (dsimp only [inK]; omega)) ?_) | with_reducible refine ld (hld) ?_ | refine Exists.intro _ (And.intro rfl ?_) | refine br_t (by omega) ?_ | refine fun (K' : K3) hK' => ?_ | (refine hK' _ _ _ ?_; clear hK' K') | refine CallK.val (R := []) hho (by kernel_rfl) rfl (by simp [V.wf, A.wf, C.wf]) ⟨roE_ints rfl (by omega) rfl (.inl rfl), trivial⟩ rfl rfl trivial ?_ | refine bs_bt (congrArg Bool.not (dd_f g1)) ?_ | refine CallK.m ?_)
        intro ρ; rw [hr]; rfl
    · have hkl : k = is.length := by omega
      subst hkl
      repeat ((conv => whnf); first | refine Exists.intro _ (And.intro rfl ?_) | refine br_f (by omega) ?_ | refine fun (K' : K3) hK' => ?_ | (refine hK' _ _ _ ?_; clear hK' K') | refine CallK.den (vs := [chV W H cs.length, V.c (.sl 2 is.length), V.c (.bool true)]) (fun ρ => rfl) (by simp [V.wf, A.wf, C.wf]) (CallK.val (R := []) hfo (by kernel_rfl) rfl (by simp [V.wf, A.wf, C.wf]) ⟨roE_ints rfl (by omega) rfl (.inl rfl), trivial⟩ rfl rfl trivial ?_) | refine CallK.m ?_)
      intro ρ; rw [isBarP, hokk]; rfl
end Go.Proofs.Ytbhpnhcdjmcaoaa

/- Boom: IsBarrier, CostOf, Cheapest, Barrier. -/
namespace Go.Proofs.Ytbhpnhcdjmcaoaa
open Go.RowKit
set_option linter.unusedVariables false
set_option linter.unusedSimpArgs false
section
variable {P : Program} {n0 nx nac : Nat} {f : FuncId} {vs vs' : List V} {Lc L : List E} {R : Rn} {K : V → List E → Nat → Prop}
theorem CallK.lisT {W H : Int} {l : List Cell} (ho : listOkK W H l l.length = true) (spec : Spec P f vs Lc nac (fun v L' _ => lisR W H l v L')) (hok : callB P f = true)
    (hv : renVs R vs = some vs') (hvw : ∀ v ∈ vs, v.wf nac) (hL : roL R nac L Lc) (hLc : injB [] Lc = true)
    (hK : K (V.tup [A.c (.sl nx l.length), A.c (.bool (lenOk l))]) [⟨nx, .vec 3 1, (listI W H l).map C.i⟩] (nx + 1)) : CallK P n0 f vs' L nx K := by
  refine CallK.mk' hok spec hv hvw hL hLc ?_
  intro v L' nx' hw hq
  unfold lisR at hq
  rw [ho] at hq
  obtain ⟨lab, rfl, hf⟩ := hq
  refine ⟨V.tup [A.c (.sl nx l.length), A.c (.bool (lenOk l))], [⟨nx, .vec 3 1, (listI W H l).map C.i⟩], nx + 1, [(nx, some lab)], ⟨Nat.le_succ _, ?_, ?_, ⟨covE_some (renL_one _ _) (Nat.lt_succ_self nx) (wf_ints _ _) hf (ren_ints _ _), trivial⟩, rfl, ?_⟩, hK⟩
  · simp [V.ren, A.ren, C.ren, renL_one, seqO]
  · simp [V.chk, A.chk, C.chk, inLab_one]
  · simp only [List.all_cons, List.all_nil, Bool.and_true, inLab_one, Kd.isRo, Bool.not_false, Bool.true_and]
    exact chk_ints _ _
theorem CallK.lisF {W H : Int} {l : List Cell} (ho : listOkK W H l l.length = false) (spec : Spec P f vs Lc nac (fun v L' _ => lisR W H l v L')) (hok : callB P f = true)
    (hv : renVs R vs = some vs') (hvw : ∀ v ∈ vs, v.wf nac) (hL : roL R nac L Lc) (hLc : injB [] Lc = true)
    (hK : K (V.tup [A.c .nil, A.c .ff]) [] nx) : CallK P n0 f vs' L nx K := by
  refine CallK.mk' hok spec hv hvw hL hLc ?_
  intro v L' nx' hw hq
  unfold lisR at hq
  rw [ho] at hq
  have hq : v = V.tup [A.c .nil, A.c .ff] := hq
  subst hq
  exact ⟨V.tup [A.c .nil, A.c .ff], [], nx, [], ⟨Nat.le_refl _, rfl, rfl, trivial, rfl, rfl⟩, hK⟩
theorem CallK.cellsR {l : List Cell} (spec : Spec P f vs Lc nac (fun v L' _ => cellsX l v L')) (hok : callB P f = true)
    (hv : renVs R vs = some vs') (hvw : ∀ v ∈ vs, v.wf nac) (hL : roL R nac L Lc) (hLc : injB [] Lc = true)
    (hK : K (V.c (.sl nx l.length)) [⟨nx, .vec 57 2, cellC l⟩] (nx + 1)) : CallK P n0 f vs' L nx K := by
  refine CallK.mk' hok spec hv hvw hL hLc ?_
  rintro v L' nx' hw (⟨rfl, rfl⟩ | ⟨lab, rfl, hf⟩)
  · refine ⟨V.c (.sl nx 0), [⟨nx, .vec 57 2, []⟩], nx + 1, [(nx, none)], ⟨Nat.le_succ _, ?_, ?_, ⟨covE_nil (renL_one _ _) (Nat.lt_succ_self nx) rfl rfl, trivial⟩, rfl, ?_⟩, hK⟩
    · simp only [V.ren, A.ren, C.ren, renL_one]
    · simp only [V.chk, A.chk, C.chk]; exact inLab_one nx
    · simp only [List.all_cons, List.all_nil, Bool.and_true, inLab_one, Kd.isRo, Bool.not_false]
  · refine ⟨V.c (.sl nx l.length), [⟨nx, .vec 57 2, cellC l⟩], nx + 1, [(nx, some lab)], ⟨Nat.le_succ _, ?_, ?_, ⟨covE_some (renL_one _ _) (Nat.lt_succ_self nx) (wf_cells _ _) hf (ren_cells _ _), trivial⟩, rfl, ?_⟩, hK⟩
    · simp only [V.ren, A.ren, C.ren, renL_one]
    · simp only [V.chk, A.chk, C.chk]; exact inLab_one nx
    · simp only [List.all_cons, List.all_nil, Bool.and_true, inLab_one, Kd.isRo, Bool.not_false, Bool.true_and]
      exact chk_cells _ _
/-- Cells and an error. -/
def cellsE (l : List Cell) (Er : Int) (v : V) (L' : List E) : Prop :=
  ∃ o : C, v = V.tup [A.c o, A.c (C.i Er)] ∧ ((o = C.nil ∧ l = []) ∨ ∃ lab, o = C.sl lab l.length ∧ find L' lab = some ⟨lab, .vec 57 2, cellC l⟩)
theorem CallK.cellsE {l : List Cell} {Er : Int} (spec : Spec P f vs Lc nac (fun v L' _ => cellsE l Er v L')) (hok : callB P f = true)
    (hv : renVs R vs = some vs') (hvw : ∀ v ∈ vs, v.wf nac) (hL : roL R nac L Lc) (hLc : injB [] Lc = true)
    (hK : K (V.tup [A.c (.sl nx l.length), A.c (C.i Er)]) [⟨nx, .vec 57 2, cellC l⟩] (nx + 1)) : CallK P n0 f vs' L nx K := by
  refine CallK.mk' hok spec hv hvw hL hLc ?_
  rintro v L' nx' hw ⟨o, rfl, ⟨rfl, rfl⟩ | ⟨lab, rfl, hf⟩⟩
  · refine ⟨V.tup [A.c (.sl nx 0), A.c (C.i Er)], [⟨nx, .vec 57 2, []⟩], nx + 1, [(nx, none)], ⟨Nat.le_succ _, ?_, ?_, ⟨covE_nil (renL_one _ _) (Nat.lt_succ_self nx) rfl rfl, trivial⟩, rfl, ?_⟩, hK⟩
    · simp [V.ren, A.ren, C.ren, renL_one, C.i, seqO]
    · simp [V.chk, A.chk, C.chk, inLab_one, C.i]
    · simp only [List.all_cons, List.all_nil, Bool.and_true, inLab_one, Kd.isRo, Bool.not_false]
  · refine ⟨V.tup [A.c (.sl nx l.length), A.c (C.i Er)], [⟨nx, .vec 57 2, cellC l⟩], nx + 1, [(nx, some lab)], ⟨Nat.le_succ _, ?_, ?_, ⟨covE_some (renL_one _ _) (Nat.lt_succ_self nx) (wf_cells _ _) hf (ren_cells _ _), trivial⟩, rfl, ?_⟩, hK⟩
    · simp [V.ren, A.ren, C.ren, renL_one, C.i, seqO]
    · simp [V.chk, A.chk, C.chk, inLab_one, C.i]
    · simp only [List.all_cons, List.all_nil, Bool.and_true, inLab_one, Kd.isRo, Bool.not_false, Bool.true_and]
      exact chk_cells _ _
end
theorem listI_len (W H : Int) (l : List Cell) : (listI W H l).length = l.length := by simp [listI]
theorem listI_get {W H : Int} {l : List Cell} {k : Nat} (h : k < l.length) : (listI W H l).getD k 0 = idxC W H (l.getD k cz) := by
  simp [listI, List.getD_eq_getElem?_getD, h]
theorem listOk_in {W H : Int} {l : List Cell} (hW : 0 < W) (ho : listOkK W H l l.length = true) : ∀ k, k < (listI W H l).length → 0 ≤ (listI W H l).getD k 0 ∧ (listI W H l).getD k 0 < W * H := fun k hk => by
  rw [listI_len] at hk
  rw [listI_get hk]
  have h1 := List.all_eq_true.1 ho k (by simpa using hk)
  unfold listOk at h1
  simp only [Bool.not_eq_true', Bool.or_eq_false_iff, decide_eq_false_iff_not] at h1
  have h2 : idxC W H (l.getD k cz) ≥ 0 := by have := h1.1; omega
  exact ⟨h2, (idxI_lt hW h2).1⟩
/-- A list is a barrier, as the program finds it. -/
def pIsBar (W H : Int) (cs : List Int) (l : List Cell) : Bool := listOkK W H l l.length && (lenOk l && isBarP W H cs (listI W H l))
set_option maxHeartbeats 4000000 in
theorem isBarrier_spec (W H : Int) (cs : List Int) (l : List Cell) (hl : cs.length ≤ 300) (hc : l.length ≤ 300) :
    Spec Try.prog 37 [chR W H cs.length, V.c (.sl 1 l.length)] [⟨0, .ro 0, cs.map C.i⟩, ⟨1, .ro 2, cellC l⟩] 2 (Is (V.tup [A.c (.bool (okC W H cs && pIsBar W H cs l)), A.c (C.i (if okC W H cs then 0 else 30))])) := by
  refine Spec.of tok Try.func37 rfl rfl rfl fun n0 cx => vc_ok tok ?_
  cases hv : okC W H cs with
  | false =>
    repeat ((conv => whnf); first | (refine And.intro (by first | omega | exact Nat.le_of_ble_eq_true rfl) ?_) | refine Exists.intro _ (And.intro rfl ?_) | refine br_t (by omega) ?_ | refine fun (K' : K3) hK' => ?_ | (refine hK' _ _ _ ?_; clear hK' K') | refine CallK.newNo (a := 0) (bs := []) (R := [(1, none)]) 30 hl (by simp) (.inl ⟨hv, rfl⟩) rfl rfl (roNil rfl) ?_ | refine CallK.m ?_)
    intro ρ; rfl
  | true =>
    have hok := okC_iff.1 hv
    have hW := hok.w
    have hH := hok.h
    have hli := listed_spec W H cs.length l (by omega) (by omega) hc
    cases hlo : listOkK W H l l.length with
    | false =>
      have hr : pIsBar W H cs l = false := by unfold pIsBar; rw [hlo]; rfl
      rw [hr]
      repeat ((conv => whnf); first | (refine And.intro (by first | omega | exact Nat.le_of_ble_eq_true rfl) ?_) | refine Exists.intro _ (And.intro rfl ?_) | refine br_f (by omega) ?_ | refine fun (K' : K3) hK' => ?_ | (refine hK' _ _ _ ?_; clear hK' K') | refine CallK.newOk (a := 0) (bs := []) (R := [(1, none)]) hl (by simp) hv (okB_nil _ _ _) rfl rfl (by omega) (roNil rfl) ?_ | refine CallK.lisF (R := [(1, some 3), (2, some 1)]) hlo hli (by kernel_rfl) rfl (by simp [V.wf, A.wf, C.wf]) ⟨roE_cells rfl (by omega) rfl (.inr rfl), trivial⟩ rfl ?_ | refine CallK.m ?_)
      intro ρ; rfl
    | true =>
      have hib := pisBar_spec W H cs (listI W H l) hok (by rw [listI_len]; exact hc) (listOk_in (by omega) hlo)
      rw [listI_len] at hib
      have hr : pIsBar W H cs l = (lenOk l && isBarP W H cs (listI W H l)) := by unfold pIsBar; rw [hlo]; rfl
      rw [hr]
      have LT := @CallK.lisT
      cases hle : lenOk l with
      | false =>
        repeat ((conv => whnf); first | (refine And.intro (by first | omega | exact Nat.le_of_ble_eq_true rfl) ?_) | refine Exists.intro _ (And.intro rfl ?_) | refine br_f (by omega) ?_ | refine fun (K' : K3) hK' => ?_ | (refine hK' _ _ _ ?_; clear hK' K') | refine CallK.newOk (a := 0) (bs := []) (R := [(1, none)]) hl (by simp) hv (okB_nil _ _ _) rfl rfl (by omega) (roNil rfl) ?_ | refine CallK.lisT (R := [(1, some 3), (2, some 1)]) hlo hli (by kernel_rfl) rfl (by simp [V.wf, A.wf, C.wf]) ⟨roE_cells rfl (by omega) rfl (.inr rfl), trivial⟩ rfl ?_ | refine br_bf hle ?_ | refine CallK.m ?_)
        intro ρ; rfl
      | true =>
        repeat ((conv => whnf); first | (refine And.intro (by first | omega | exact Nat.le_of_ble_eq_true rfl) ?_) | refine Exists.intro _ (And.intro rfl ?_) | refine br_f (by omega) ?_ | refine fun (K' : K3) hK' => ?_ | (refine hK' _ _ _ ?_; clear hK' K') | refine CallK.newOk (a := 0) (bs := []) (R := [(1, none)]) hl (by simp) hv (okB_nil _ _ _) rfl rfl (by omega) (roNil rfl) ?_ | refine CallK.lisT (R := [(1, some 3), (2, some 1)]) hlo hli (by kernel_rfl) rfl (by simp [V.wf, A.wf, C.wf]) ⟨roE_cells rfl (by omega) rfl (.inr rfl), trivial⟩ rfl ?_ | refine br_bt hle ?_ | refine CallK.val (R := [(1, some 3), (2, some 5)]) hib (by kernel_rfl) rfl (by simp [V.wf, A.wf, C.wf]) ⟨roE_ints (l := 0) rfl (by omega) rfl (.inl rfl), roE_ints (l := 5) rfl (by omega) rfl (.inl rfl), trivial⟩ rfl rfl trivial ?_ | refine CallK.m ?_)
        intro ρ; rfl
def psumK (cs is : List Int) (k : Nat) : Int := ((is.take k).map (cstI cs)).sum
def psum (cs is : List Int) : Int := psumK cs is is.length
theorem psumK_succ {cs is : List Int} {k : Nat} (h : k < is.length) : psumK cs is (k + 1) = psumK cs is k + cstI cs (is.getD k 0) := by
  unfold psumK
  rw [List.take_add_one, show is[k]?.toList = [is.getD k 0] by rw [List.getElem?_eq_getElem h, List.getD_eq_getElem?_getD, List.getElem?_eq_getElem h]; rfl]
  simp
set_option maxHeartbeats 4000000 in
theorem costOf_spec (W H : Int) (cs : List Int) (l : List Cell) (hl : cs.length ≤ 300) (hc : l.length ≤ 300) :
    Spec Try.prog 39 [chR W H cs.length, V.c (.sl 1 l.length)] [⟨0, .ro 0, cs.map C.i⟩, ⟨1, .ro 2, cellC l⟩] 2 (Is (if okC W H cs then (if pIsBar W H cs l then V.tup [A.c (C.i (psum cs (listI W H l))), A.c (C.i 0)] else V.tup [A.c (C.i 0), A.c (C.i 5)]) else V.tup [A.c (C.i 0), A.c (C.i 30)])) := by
  refine Spec.of tok Try.func39 rfl rfl rfl fun n0 cx => vc_ok tok ?_
  cases hv : okC W H cs with
  | false =>
    repeat ((conv => whnf); first | (refine And.intro (by first | omega | exact Nat.le_of_ble_eq_true rfl) ?_) | refine Exists.intro _ (And.intro rfl ?_) | refine br_t (by omega) ?_ | refine fun (K' : K3) hK' => ?_ | (refine hK' _ _ _ ?_; clear hK' K') | refine CallK.newNo (a := 0) (bs := []) (R := [(1, none)]) 30 hl (by simp) (.inl ⟨hv, rfl⟩) rfl rfl (roNil rfl) ?_ | refine CallK.m ?_)
    intro ρ; rfl
  | true =>
    have hok := okC_iff.1 hv
    have hW := hok.w
    have hH := hok.h
    have hli := listed_spec W H cs.length l (by omega) (by omega) hc
    cases hlo : listOkK W H l l.length with
    | false =>
      have hr : pIsBar W H cs l = false := by unfold pIsBar; rw [hlo]; rfl
      rw [hr]
      repeat ((conv => whnf); first | (refine And.intro (by first | omega | exact Nat.le_of_ble_eq_true rfl) ?_) | refine Exists.intro _ (And.intro rfl ?_) | refine br_f (by omega) ?_ | refine fun (K' : K3) hK' => ?_ | (refine hK' _ _ _ ?_; clear hK' K') | refine CallK.newOk (a := 0) (bs := []) (R := [(1, none)]) hl (by simp) hv (okB_nil _ _ _) rfl rfl (by omega) (roNil rfl) ?_ | refine CallK.lisF (R := [(1, some 3), (2, some 1)]) hlo hli (by kernel_rfl) rfl (by simp [V.wf, A.wf, C.wf]) ⟨roE_cells rfl (by omega) rfl (.inr rfl), trivial⟩ rfl ?_ | refine CallK.m ?_)
      intro ρ; rfl
    | true =>
      have hin := listOk_in (show 0 < W by omega) hlo
      have hib := pisBar_spec W H cs (listI W H l) hok (by rw [listI_len]; exact hc) hin
      rw [listI_len] at hib
      have hr : pIsBar W H cs l = (lenOk l && isBarP W H cs (listI W H l)) := by unfold pIsBar; rw [hlo]; rfl
      rw [hr]
      cases hle : lenOk l with
      | false =>
        repeat ((conv => whnf); first | (refine And.intro (by first | omega | exact Nat.le_of_ble_eq_true rfl) ?_) | refine Exists.intro _ (And.intro rfl ?_) | refine br_f (by omega) ?_ | refine fun (K' : K3) hK' => ?_ | (refine hK' _ _ _ ?_; clear hK' K') | refine CallK.newOk (a := 0) (bs := []) (R := [(1, none)]) hl (by simp) hv (okB_nil _ _ _) rfl rfl (by omega) (roNil rfl) ?_ | refine CallK.lisT (R := [(1, some 3), (2, some 1)]) hlo hli (by kernel_rfl) rfl (by simp [V.wf, A.wf, C.wf]) ⟨roE_cells rfl (by omega) rfl (.inr rfl), trivial⟩ rfl ?_ | refine bs_bt (congrArg Bool.not hle) ?_ | refine CallK.m ?_)
        intro ρ; rfl
      | true =>
        cases hbp : isBarP W H cs (listI W H l) with
        | false =>
          repeat ((conv => whnf); first | (refine And.intro (by first | omega | exact Nat.le_of_ble_eq_true rfl) ?_) | refine Exists.intro _ (And.intro rfl ?_) | refine br_f (by omega) ?_ | refine fun (K' : K3) hK' => ?_ | (refine hK' _ _ _ ?_; clear hK' K') | refine CallK.newOk (a := 0) (bs := []) (R := [(1, none)]) hl (by simp) hv (okB_nil _ _ _) rfl rfl (by omega) (roNil rfl) ?_ | refine CallK.lisT (R := [(1, some 3), (2, some 1)]) hlo hli (by kernel_rfl) rfl (by simp [V.wf, A.wf, C.wf]) ⟨roE_cells rfl (by omega) rfl (.inr rfl), trivial⟩ rfl ?_ | refine bs_bf (congrArg Bool.not hle) ?_ | refine CallK.val (R := [(1, some 3), (2, some 5)]) hib (by kernel_rfl) rfl (by simp [V.wf, A.wf, C.wf]) ⟨roE_ints (l := 0) rfl (by omega) rfl (.inl rfl), roE_ints (l := 5) rfl (by omega) rfl (.inl rfl), trivial⟩ rfl rfl trivial ?_ | refine br_bt (congrArg Bool.not hbp) ?_ | refine CallK.m ?_)
          intro ρ; rfl
        | true =>
          have hn : W * H ≤ 100 := by have := Int.mul_le_mul hW.2 hH.2 (by omega) (by omega : (0:Int) ≤ 10); omega
          have hcn := hok.len
          have hcb := cst_bd hok.cost
          obtain ⟨is, his⟩ : ∃ is, is = listI W H l := ⟨_, rfl⟩
          have hlis : is.length = l.length := by rw [his, listI_len]
          rw [← his] at hin
          repeat ((conv => whnf); first | (refine And.intro (by first | omega | exact Nat.le_of_ble_eq_true rfl) ?_) | refine Exists.intro _ (And.intro rfl ?_) | refine br_f (by omega) ?_ | refine fun (K' : K3) hK' => ?_ | (refine hK' _ _ _ ?_; clear hK' K') | refine CallK.newOk (a := 0) (bs := []) (R := [(1, none)]) hl (by simp) hv (okB_nil _ _ _) rfl rfl (by omega) (roNil rfl) ?_ | refine CallK.lisT (R := [(1, some 3), (2, some 1)]) hlo hli (by kernel_rfl) rfl (by simp [V.wf, A.wf, C.wf]) ⟨roE_cells rfl (by omega) rfl (.inr rfl), trivial⟩ rfl ?_ | refine bs_bf (congrArg Bool.not hle) ?_ | refine CallK.val (R := [(1, some 3), (2, some 5)]) hib (by kernel_rfl) rfl (by simp [V.wf, A.wf, C.wf]) ⟨roE_ints (l := 0) rfl (by omega) rfl (.inl rfl), roE_ints (l := 5) rfl (by omega) rfl (.inl rfl), trivial⟩ rfl rfl trivial ?_ | refine br_bf (congrArg Bool.not hbp) ?_ | refine CallK.m ?_)
          rw [← his]
          clear hib hli his hbp hle hlo
          refine Tri.loop (γ := Nat) (fun k => k ≤ is.length ∧ 0 ≤ psumK cs is k ∧ psumK cs is k ≤ 100 * k) (fun k => [(6, V.c (.ptr 4 0)), (10, V.i (psumK cs is k)), (35, V.c (.sl 5 l.length)), (36, V.i l.length), (37, V.i (k : Nat))])
            (fun k => [⟨5, .vec 3 1, is.map C.i⟩, ⟨4, .own 65, [C.i W, C.i H, .sl 0 cs.length, .mp 3]⟩, ⟨0, .ro 0, cs.map C.i⟩]) 6 (fun k => is.length - k) 0 (R0 := []) ?_ ?_ ?_
          · exact ⟨by omega, by simp [psumK], by simp [psumK]⟩
          · skip
            refine ⟨?_, ?_, rfl, rfl, by exact Nat.le_of_ble_eq_true rfl⟩
            · repeat (first | exact trivial | (refine And.intro (covS_syn (by rfl) rfl (by first | exact trivial | exact Nat.le_of_ble_eq_true rfl)) ?_))
            · repeat (first | exact trivial | (refine And.intro (covE_id (Nat.le_of_ble_eq_true rfl) (by first | exact wf_ints _ _ | simp [C.wf]) rfl (by rfl)) ?_))
          · rintro k ⟨hk, hs0, hs1⟩
            refine vc_ok tok ?_
            by_cases hlt : k < is.length
            · have hld := intL hlt
              have hi0 := hin k hlt
              have hsu := psumK_succ (cs := cs) hlt
              obtain ⟨i, hi⟩ : ∃ i : Nat, (i : Int) = is.getD k 0 := ⟨(is.getD k 0).toNat, by omega⟩
              rw [← hi] at hld hi0 hsu
              have hc' := cost_spec W H cs i (by omega)
              have hck : cstI cs (i : Int) = if cs.getD i 0 > 0 then cs.getD i 0 else 0 := by simp [cstI]
              have hci := hcb (i : Int)
              rw [← hck] at hc'
              obtain ⟨ci, hcie⟩ : ∃ ci, ci = cstI cs (i : Int) := ⟨_, rfl⟩
              rw [← hcie] at hc' hci hsu
              repeat ((conv => whnf); first | (refine And.intro (by first | omega | (dsimp only [inK]; omega) | (simp only [setL_length, List.length_map]; omega)) ?_) | with_reducible refine ld (hld) ?_ | refine Exists.intro _ (And.intro rfl ?_) | refine br_t (by omega) ?_ | refine fun (K' : K3) hK' => ?_ | (refine hK' _ _ _ ?_; clear hK' K') | refine CallK.val (R := [(1, some 3)]) hc' (by kernel_rfl) rfl (by simp [V.wf, A.wf, C.wf]) ⟨roE_ints (l := 0) rfl (by omega) rfl (.inl rfl), trivial⟩ rfl rfl trivial ?_ | refine CallK.m ?_)
              refine ⟨k + 1, [], ⟨by omega, by omega, by omega⟩, by omega, ?_⟩
              refine ⟨?_, ?_, rfl, rfl, by exact Nat.le_of_ble_eq_true rfl⟩
              · repeat (first | exact trivial | (refine And.intro (covS_syn (by first | rfl | (refine congrArg some (congrArg V.i ?_); omega)) rfl (by first | exact trivial | exact Nat.le_of_ble_eq_true rfl)) ?_))
              · repeat (first | exact trivial | (refine And.intro (covE_id (Nat.le_of_ble_eq_true rfl) (by first | exact wf_ints _ _ | simp [C.wf]) rfl (by rfl)) ?_))
            · have hkl : k = is.length := by omega
              subst hkl
              repeat ((conv => whnf); first | refine br_f (by omega) ?_ | refine fun (K' : K3) hK' => ?_ | (refine hK' _ _ _ ?_; clear hK' K'))
              intro ρ; rfl
end Go.Proofs.Ytbhpnhcdjmcaoaa

/- Boom, plain: what a barrier is. -/
namespace Go.Proofs.Ytbhpnhcdjmcaoaa
open Go.RowKit
set_option linter.unusedVariables false
set_option linter.unusedSimpArgs false
def adj (e : Bool) (p q : Cell) : Prop := (-1 ≤ p.1 - q.1 ∧ p.1 - q.1 ≤ 1) ∧ (-1 ≤ p.2 - q.2 ∧ p.2 - q.2 ≤ 1) ∧ ¬ (p.1 = q.1 ∧ p.2 = q.2) ∧ (e = true ∨ p.1 = q.1 ∨ p.2 = q.2)
theorem four_iff (x y u v : Int) : fourB x y u v = true ↔ adj false (x, y) (u, v) := by
  unfold fourB mx adj
  rw [decide_eq_true_eq]
  simp only [Bool.false_eq_true, false_or]
  split <;> split <;> omega
theorem eight_iff (x y u v : Int) : eightB x y u v = true ↔ adj true (x, y) (u, v) := by
  unfold eightB mx adj
  rw [decide_eq_true_eq]
  simp only [true_or, and_true]
  split <;> split <;> split <;> omega
theorem adj_mono {e : Bool} {p q : Cell} (h : adj false p q) : adj e p q := ⟨h.1, h.2.1, h.2.2.1, .inr (h.2.2.2.resolve_left (by simp))⟩
theorem step_iff {W H : Int} {e : Bool} {p q : Cell} : stepB W H e p q = true ↔ adj e p q := by
  unfold stepB
  rw [Bool.or_eq_true, Bool.and_eq_true, four_iff, eight_iff]
  constructor
  · rintro (h | ⟨rfl, h⟩)
    · exact adj_mono h
    · exact h
  · intro h
    cases e with
    | true => exact .inr ⟨rfl, h⟩
    | false => exact .inl h
theorem adj_symm {e : Bool} {p q : Cell} (h : adj e p q) : adj e q p := by
  obtain ⟨h1, h2, h3, h4⟩ := h
  exact ⟨by omega, by omega, fun hh => h3 ⟨hh.1.symm, hh.2.symm⟩, h4.imp id (Or.imp Eq.symm Eq.symm)⟩
theorem idxC_mod {W H : Int} {p : Cell} (h : onB W H p.1 p.2 = true) : idxC W H p = idxU W p ∧ idxC W H p % W = p.1 ∧ idxC W H p / W = p.2 := by
  have ho := onB_t h
  have h1 := idxI_on h
  have e : idxC W H p = idxU W p := h1.1
  have e2 : idxC W H p = p.1 + p.2 * W := by rw [e]; unfold idxU; omega
  have hm : p.1 % W = p.1 := Int.emod_eq_of_lt ho.1.1 ho.1.2
  have hd : p.1 / W = 0 := Int.ediv_eq_zero_of_lt ho.1.1 ho.1.2
  refine ⟨e, ?_, ?_⟩
  · rw [e2, Int.add_mul_emod_self_right, hm]
  · rw [e2, Int.add_mul_ediv_right _ _ (by omega), hd]; omega
theorem idxC_inj {W H : Int} {p q : Cell} (hp : onB W H p.1 p.2 = true) (hq : onB W H q.1 q.2 = true) (h : idxC W H p = idxC W H q) : p = q := by
  obtain ⟨_, p1, p2⟩ := idxC_mod hp
  obtain ⟨_, q1, q2⟩ := idxC_mod hq
  exact Prod.ext (by rw [← p1, h, q1]) (by rw [← p2, h, q2])
theorem near_iff {W H : Int} {e : Bool} {p q : Cell} (hp : onB W H p.1 p.2 = true) (hq : onB W H q.1 q.2 = true) : idxC W H p ∈ nearL W H e (idxC W H q) ↔ adj e p q := by
  obtain ⟨_, q1, q2⟩ := idxC_mod hq
  have hpo := onB_t hp
  unfold nearL
  rw [List.mem_filterMap]
  constructor
  · rintro ⟨j, hj, hc⟩
    have hj9 := List.mem_range.1 hj
    unfold candJ cand at hc
    rw [q1, q2] at hc
    split at hc
    · cases hc
    · rename_i hs
      split at hc
      · rename_i hx
        have hx2 := idxI_lt (show 0 < W by omega) hx
        have hr : onB W H (q.1 + ((j % 3 : Nat) : Int) - 1) (q.2 + ((j / 3 : Nat) : Int) - 1) = true := by
          simp only [onB, Bool.and_eq_true, decide_eq_true_eq]; omega
        have := idxC_inj (p := (q.1 + ((j % 3 : Nat) : Int) - 1, q.2 + ((j / 3 : Nat) : Int) - 1)) (q := p) hr hp (by
          injection hc with hc
          rw [← hc]
          show idxI W H _ _ = idxI W H _ _
          congr 1 <;> omega)
        rw [← this]
        have ha : j / 3 < 3 := by omega
        have hb : j % 3 < 3 := by omega
        generalize j / 3 = a at *
        generalize j % 3 = b at *
        refine ⟨by simp only; omega, by simp only; omega, fun hh => hs (.inl ?_), ?_⟩
        · simp only at hh; omega
        · cases e with
          | true => exact .inl rfl
          | false =>
            right
            by_cases hb1 : b = 1
            · left; simp only; omega
            · by_cases ha1 : a = 1
              · right; simp only; omega
              · exact absurd (.inr ⟨rfl, hb1, ha1⟩) hs
      · cases hc
  · rintro ⟨h1, h2, h3, h4⟩
    refine ⟨3 * (p.2 - q.2 + 1).toNat + (p.1 - q.1 + 1).toNat, List.mem_range.2 (by omega), ?_⟩
    have ha : (3 * (p.2 - q.2 + 1).toNat + (p.1 - q.1 + 1).toNat) / 3 = (p.2 - q.2 + 1).toNat := by omega
    have hb : (3 * (p.2 - q.2 + 1).toNat + (p.1 - q.1 + 1).toNat) % 3 = (p.1 - q.1 + 1).toNat := by omega
    have e1 : q.1 + (((p.1 - q.1 + 1).toNat : Int) - 1) = p.1 := by omega
    have e2 : q.2 + (((p.2 - q.2 + 1).toNat : Int) - 1) = p.2 := by omega
    have hx := idxI_on hp
    unfold candJ cand
    rw [q1, q2, ha, hb, e1, e2, if_neg, if_pos hx.2]
    · rfl
    · rintro (⟨g1, g2⟩ | ⟨g1, g2, g3⟩)
      · exact h3 ⟨by omega, by omega⟩
      · rcases h4 with h4 | h4 | h4
        · rw [g1] at h4; cases h4
        · omega
        · omega
/-- A barrier. -/
structure BarP (W H : Int) (cs : List Int) (l : List Cell) : Prop where
  on : ∀ j, j < l.length → onB W H (l.getD j cz).1 (l.getD j cz).2 = true
  nd : ∀ j i, j < l.length → i < j → ¬ l.getD j cz = l.getD i cz
  len : 1 ≤ l.length ∧ l.length ≤ 100
  adj : ∀ j, j + 1 < l.length → adj true (l.getD (j + 1) cz) (l.getD j cz)
  hold : ∀ j, j < l.length → ¬ cs.getD (idxU W (l.getD j cz)).toNat 0 = 0
  top : ∀ j, j < l.length → ((l.getD j cz).2 = 0 ↔ j = 0)
  bot : ∀ j, j < l.length → ((l.getD j cz).2 = H - 1 ↔ j + 1 = l.length)
theorem bne_dec {p q : Prop} [Decidable p] [Decidable q] : (decide p != decide q) = false ↔ (p ↔ q) := by
  by_cases hp : p <;> by_cases hq : q <;> simp [hp, hq]
theorem wayOk_iff {W H : Int} {l : List Cell} {e : Bool} {k : Nat} (hk : k < l.length) : wayOk W H l e k = true ↔ onB W H (l.getD k cz).1 (l.getD k cz).2 = true ∧ (k = 0 ∨ adj e (l.getD k cz) (l.getD (k - 1) cz)) ∧ ∀ i, i < k → ¬ l.getD k cz = l.getD i cz := by
  unfold wayOk
  rw [Bool.and_eq_true, Bool.and_eq_true, Bool.or_eq_true, decide_eq_true_eq, step_iff, Bool.not_eq_true']
  constructor
  · rintro ⟨h1, h2, h3⟩
    refine ⟨h1, h2, fun i hi h => ?_⟩
    rw [any_take hi (by omega) h] at h3; cases h3
  · rintro ⟨h1, h2, h3⟩
    exact ⟨h1, h2, any_none (by omega) h3⟩
theorem isWay_iff {W H : Int} {l : List Cell} {e : Bool} : isWayB W H l e = true ↔ (∀ j, j < l.length → onB W H (l.getD j cz).1 (l.getD j cz).2 = true) ∧ (∀ j i, j < l.length → i < j → ¬ l.getD j cz = l.getD i cz) ∧ (1 ≤ l.length ∧ l.length ≤ 100) ∧ ∀ j, j + 1 < l.length → adj e (l.getD (j + 1) cz) (l.getD j cz) := by
  unfold isWayB isWayK
  rw [Bool.and_eq_true, Bool.and_eq_true, List.all_eq_true, decide_eq_true_eq, decide_eq_true_eq]
  constructor
  · rintro ⟨h1, h2, h3⟩
    have key := fun j (hj : j < l.length) => (wayOk_iff hj).1 (h1 j (by simpa using hj))
    refine ⟨fun j hj => (key j hj).1, fun j i hj hi => (key j hj).2.2 i hi, by omega, fun j hj => ?_⟩
    have := (key (j + 1) hj).2.1
    simpa using this
  · rintro ⟨h1, h2, h3, h4⟩
    refine ⟨fun j hj => ?_, by omega, by omega⟩
    have hj := List.mem_range.1 hj
    refine (wayOk_iff hj).2 ⟨h1 j hj, ?_, fun i hi => h2 j i hj hi⟩
    match j, hj with
    | 0, _ => exact .inl rfl
    | j + 1, hj => exact .inr (h4 j hj)
theorem barOk_iff {W H : Int} {cs : List Int} {l : List Cell} {k : Nat} : barOk W H cs l k = true ↔ ¬ cs.getD (idxU W (l.getD k cz)).toNat 0 = 0 ∧ ((l.getD k cz).2 = 0 ↔ k = 0) ∧ ((l.getD k cz).2 = H - 1 ↔ k + 1 = l.length) := by
  unfold barOk
  rw [Bool.not_eq_true', Bool.or_eq_false_iff, Bool.or_eq_false_iff, decide_eq_false_iff_not, bne_dec, bne_dec]
  constructor
  · rintro ⟨h1, h2, h3⟩
    exact ⟨h1, by omega, by omega⟩
  · rintro ⟨h1, h2, h3⟩
    exact ⟨h1, by omega, by omega⟩
theorem isBar_iff {W H : Int} {cs : List Int} {l : List Cell} : isBarB W H cs l = true ↔ BarP W H cs l := by
  unfold isBarB barOkK
  rw [Bool.and_eq_true, Bool.and_eq_true, isWay_iff, List.all_eq_true, Bool.not_eq_true', decide_eq_false_iff_not]
  constructor
  · rintro ⟨h0, ⟨h1, h2, h3, h4⟩, h5⟩
    have key := fun j (hj : j < l.length) => barOk_iff.1 (h5 j (by simpa using hj))
    exact ⟨h1, h2, h3, h4, fun j hj => (key j hj).1, fun j hj => (key j hj).2.1, fun j hj => (key j hj).2.2⟩
  · rintro ⟨h1, h2, h3, h4, h5, h6, h7⟩
    refine ⟨by omega, ⟨h1, h2, h3, h4⟩, fun j hj => ?_⟩
    have hj := List.mem_range.1 hj
    exact barOk_iff.2 ⟨h5 j hj, h6 j hj, h7 j hj⟩
theorem hasI_iff {l : List Int} {x : Int} : hasI l x = true ↔ x ∈ l := by
  unfold hasI
  rw [List.any_eq_true]
  constructor
  · rintro ⟨y, h1, h2⟩; rw [of_decide_eq_true h2]; exact h1
  · intro h; exact ⟨x, h, dd_t rfl⟩
theorem idx_on {W H : Int} {p : Cell} (h : idxC W H p ≥ 0) (hW : 0 < W) : onB W H p.1 p.2 = true := by
  have := idxI_lt hW h
  simp only [onB, Bool.and_eq_true, decide_eq_true_eq]; omega
theorem listOk_iff {W H : Int} {l : List Cell} (hW : 0 < W) : listOkK W H l l.length = true ↔ (∀ j, j < l.length → onB W H (l.getD j cz).1 (l.getD j cz).2 = true) ∧ (∀ j i, j < l.length → i < j → ¬ l.getD j cz = l.getD i cz) := by
  unfold listOkK
  rw [List.all_eq_true]
  have key : ∀ j, listOk W H l j = true ↔ idxC W H (l.getD j cz) ≥ 0 ∧ ¬ idxC W H (l.getD j cz) ∈ listI W H (l.take j) := fun j => by
    unfold listOk
    rw [Bool.not_eq_true', Bool.or_eq_false_iff, decide_eq_false_iff_not, ← Bool.not_eq_true, hasI_iff]
    constructor
    · rintro ⟨a, b⟩; exact ⟨by omega, b⟩
    · rintro ⟨a, b⟩; exact ⟨by omega, b⟩
  constructor
  · intro h
    have h1 : ∀ j, j < l.length → onB W H (l.getD j cz).1 (l.getD j cz).2 = true := fun j hj => idx_on ((key j).1 (h j (by simpa using hj))).1 hW
    refine ⟨h1, fun j i hj hi he => ((key j).1 (h j (by simpa using hj))).2 ?_⟩
    rw [he]
    refine List.mem_map.2 ⟨l.getD i cz, ?_, rfl⟩
    rw [List.getD_eq_getElem?_getD, List.getElem?_eq_getElem (by omega)]
    exact List.mem_take_iff_getElem.2 ⟨i, by omega, rfl⟩
  · rintro ⟨h1, h2⟩ j hj
    have hj := List.mem_range.1 hj
    refine (key j).2 ⟨(idxI_on (h1 j hj)).2, fun hm => ?_⟩
    obtain ⟨q, hq, he⟩ := List.mem_map.1 hm
    obtain ⟨i, hi, rfl⟩ := List.mem_take_iff_getElem.1 hq
    have hg : l.getD i cz = l[i] := by rw [List.getD_eq_getElem?_getD, List.getElem?_eq_getElem (by omega)]; rfl
    rw [← hg] at he
    exact h2 j i hj (by omega) (idxC_inj (h1 j hj) (h1 i (by omega)) he.symm)
theorem foll_iff {W H : Int} {e : Bool} {l : List Cell} (hon : ∀ j, j < l.length → onB W H (l.getD j cz).1 (l.getD j cz).2 = true) : follB W H e (listI W H l) l.length = true ↔ ∀ j, j + 1 < l.length → adj e (l.getD (j + 1) cz) (l.getD j cz) := by
  unfold follB
  rw [List.all_eq_true]
  constructor
  · intro h j hj
    have := h j (List.mem_range.2 (by omega))
    rw [List.contains_iff_mem, listI_get hj, listI_get (by omega)] at this
    exact (near_iff (hon _ hj) (hon _ (by omega))).1 this
  · intro h j hj
    have hj := List.mem_range.1 hj
    rw [List.contains_iff_mem, listI_get (by omega), listI_get (by omega)]
    exact (near_iff (hon _ (by omega)) (hon _ (by omega))).2 (h j (by omega))
theorem pbarOk_iff {W H : Int} {cs : List Int} {l : List Cell} {k : Nat} (hk : k < l.length) (hon : onB W H (l.getD k cz).1 (l.getD k cz).2 = true) : pbarOk W H cs (listI W H l) k = true ↔ ¬ cs.getD (idxU W (l.getD k cz)).toNat 0 = 0 ∧ ((l.getD k cz).2 = 0 ↔ k = 0) ∧ ((l.getD k cz).2 = H - 1 ↔ k + 1 = l.length) := by
  obtain ⟨h1, _, h3⟩ := idxC_mod hon
  unfold pbarOk
  rw [listI_len, listI_get hk, h3, h1, Bool.not_eq_true', Bool.or_eq_false_iff, Bool.or_eq_false_iff, bne_dec, bne_dec, Bool.not_eq_false', decide_eq_true_eq]
  constructor
  · rintro ⟨h1, h2, h3⟩
    exact ⟨h1, by omega, by omega⟩
  · rintro ⟨h1, h2, h3⟩
    exact ⟨h1, by omega, by omega⟩
theorem pIsBar_iff {W H : Int} {cs : List Int} {l : List Cell} (hW : 0 < W) : pIsBar W H cs l = true ↔ BarP W H cs l := by
  unfold pIsBar isBarP lenOk pbarOkK
  rw [Bool.and_eq_true, Bool.and_eq_true, Bool.and_eq_true, listOk_iff hW, List.all_eq_true, decide_eq_true_eq, listI_len]
  constructor
  · rintro ⟨⟨h1, h2⟩, h3, h4, h5⟩
    have key := fun j (hj : j < l.length) => (pbarOk_iff hj (h1 j hj)).1 (h4 j (by simpa using hj))
    exact ⟨h1, h2, by omega, (foll_iff h1).1 h5, fun j hj => (key j hj).1, fun j hj => (key j hj).2.1, fun j hj => (key j hj).2.2⟩
  · rintro ⟨h1, h2, h3, h4, h5, h6, h7⟩
    refine ⟨⟨h1, h2⟩, by omega, fun j hj => ?_, (foll_iff h1).2 h4⟩
    have hj := List.mem_range.1 hj
    exact (pbarOk_iff hj (h1 j hj)).2 ⟨h5 j hj, h6 j hj, h7 j hj⟩
theorem pIsBar_eq {W H : Int} {cs : List Int} {l : List Cell} (hW : 0 < W) : pIsBar W H cs l = isBarB W H cs l := by
  rw [Bool.eq_iff_iff, pIsBar_iff hW, isBar_iff]
theorem psum_eq {W H : Int} {cs : List Int} {l : List Cell} (hon : ∀ j, j < l.length → onB W H (l.getD j cz).1 (l.getD j cz).2 = true) : psum cs (listI W H l) = sumC W cs l := by
  unfold psum psumK sumC sumK
  rw [List.take_length, List.take_length]
  unfold listI
  rw [List.map_map]
  congr 1
  refine List.map_congr_left fun p hp => ?_
  obtain ⟨j, hj, rfl⟩ := List.mem_iff_getElem.1 hp
  have := hon j hj
  rw [List.getD_eq_getElem?_getD, List.getElem?_eq_getElem hj] at this
  simp only [Function.comp]
  have h2 : onB W H l[j].1 l[j].2 = true := this
  rw [(idxC_mod h2).1]
end Go.Proofs.Ytbhpnhcdjmcaoaa

/- Boom: callees of the laws. -/
namespace Go.Proofs.Ytbhpnhcdjmcaoaa
open Go.RowKit
set_option linter.unusedVariables false
set_option linter.unusedSimpArgs false
theorem chk_rowC (p : Nat → Bool) (l : List Cell) (lab : Nat) (kd : Kd) : (([⟨lab, kd, cellC l⟩] : List E).all fun e => e.cs.all (C.chk p)) = true := by
  simp only [List.all_cons, List.all_nil, Bool.and_true]
  exact chk_cells _ _
section
variable {P : Program} {n0 nx nac : Nat} {f : FuncId} {vs vs' : List V} {Lc L : List E} {R : Rn} {K : V → List E → Nat → Prop}
theorem CallK.intsE {l : List Int} {Er : Int} (spec : Spec P f vs Lc nac (fun v L' _ => intsE l Er v L')) (hok : callB P f = true)
    (hv : renVs R vs = some vs') (hvw : ∀ v ∈ vs, v.wf nac) (hL : roL R nac L Lc) (hLc : injB [] Lc = true)
    (hK : K (V.tup [A.c (.sl nx l.length), A.c (C.i Er)]) [⟨nx, .vec 3 1, l.map C.i⟩] (nx + 1)) : CallK P n0 f vs' L nx K := by
  refine CallK.mk' hok spec hv hvw hL hLc ?_
  rintro v L' nx' hw ⟨o, rfl, ⟨rfl, rfl⟩ | ⟨lab, rfl, hf⟩⟩
  · refine ⟨V.tup [A.c (.sl nx 0), A.c (C.i Er)], [⟨nx, .vec 3 1, []⟩], nx + 1, [(nx, none)], ⟨Nat.le_succ _, ?_, ?_, ⟨covE_nil (renL_one _ _) (Nat.lt_succ_self nx) rfl rfl, trivial⟩, rfl, ?_⟩, hK⟩
    · simp [V.ren, A.ren, C.ren, renL_one, C.i, seqO]
    · simp [V.chk, A.chk, C.chk, inLab_one, C.i]
    · simp only [List.all_cons, List.all_nil, Bool.and_true, inLab_one, Kd.isRo, Bool.not_false]
  · refine ⟨V.tup [A.c (.sl nx l.length), A.c (C.i Er)], [⟨nx, .vec 3 1, l.map C.i⟩], nx + 1, [(nx, some lab)], ⟨Nat.le_succ _, ?_, ?_, ⟨covE_some (renL_one _ _) (Nat.lt_succ_self nx) (wf_ints _ _) hf (ren_ints _ _), trivial⟩, rfl, ?_⟩, hK⟩
    · simp [V.ren, A.ren, C.ren, renL_one, C.i, seqO]
    · simp [V.chk, A.chk, C.chk, inLab_one, C.i]
    · simp only [List.all_cons, List.all_nil, Bool.and_true, inLab_one, Kd.isRo, Bool.not_false, Bool.true_and]
      exact chk_ints _ _
end
theorem hts_len (W H : Int) (cs : List Int) (hl : cs.length ≤ 300) : (htsO W H cs).length ≤ 300 := by
  unfold htsO
  split
  · unfold hts
    split
    · rename_i h
      have := (Classical.choose_spec h).len
      omega
    · simp
  · simp
theorem cheapN {W H : Int} {cs : List Int} (hl : cs.length ≤ 300) (hv : okC W H cs = true) (h : barO W H cs = none) : Spec Try.prog 18 [chR W H cs.length] [⟨0, .ro 0, cs.map C.i⟩] 2 (Is (V.tup [A.c (C.i 0), A.c (C.i 5)])) := by
  have := cheapest_spec W H cs hl
  rw [hv, h] at this
  exact this
theorem cheapS {W H : Int} {cs : List Int} {l : List Int} {w : Way} (hl : cs.length ≤ 300) (hv : okC W H cs = true) (h : barO W H cs = some (l, w)) : Spec Try.prog 18 [chR W H cs.length] [⟨0, .ro 0, cs.map C.i⟩] 2 (Is (V.tup [A.c (C.i w.1), A.c (C.i 0)])) := by
  have := cheapest_spec W H cs hl
  rw [hv, h] at this
  exact this
theorem cost_same (W H : Int) (cs : List Int) (l : List Cell) : ∃ a e : Int, (if okC W H cs then (if pIsBar W H cs l then V.tup [A.c (C.i (psum cs (listI W H l))), A.c (C.i 0)] else V.tup [A.c (C.i 0), A.c (C.i 5)]) else V.tup [A.c (C.i 0), A.c (C.i 30)]) = V.tup [A.c (C.i a), A.c (C.i e)] ∧
    (if okC W H cs then (if isBarB W H cs l then V.tup [A.c (C.i (sumC W cs l)), A.c (C.i 0)] else V.tup [A.c (C.i 0), A.c (C.i 5)]) else V.tup [A.c (C.i 0), A.c (C.i 30)]) = V.tup [A.c (C.i a), A.c (C.i e)] := by
  cases hv : okC W H cs with
  | false => exact ⟨0, 30, rfl, rfl⟩
  | true =>
    have hW : 0 < W := by have := (okC_iff.1 hv).w; omega
    rw [pIsBar_eq hW]
    cases hb : isBarB W H cs l with
    | false => exact ⟨0, 5, rfl, rfl⟩
    | true =>
      rw [psum_eq (isBar_iff.1 hb).on]
      exact ⟨_, 0, rfl, rfl⟩
theorem isbar_same (W H : Int) (cs : List Int) (l : List Cell) : (okC W H cs && pIsBar W H cs l) = (okC W H cs && isBarB W H cs l) := by
  cases hv : okC W H cs with
  | false => rfl
  | true =>
    have hW : 0 < W := by have := (okC_iff.1 hv).w; omega
    rw [pIsBar_eq hW]
end Go.Proofs.Ytbhpnhcdjmcaoaa

/- Boom, plain: the program's barrier is the reference's, and is one. -/
namespace Go.Proofs.Ytbhpnhcdjmcaoaa
open Go.RowKit
set_option linter.unusedVariables false
set_option linter.unusedSimpArgs false
def nextR (W H : Int) (d : Int → Option Way) (i : Int) (rest : Way) : Option Int := (nearL W H true i).find? fun k => decide (d k = some rest)
def pathR (W H : Int) (cs : List Int) (d : Int → Option Way) : Nat → Int → List Int
  | 0, i => [i]
  | f + 1, i => match d i with
    | none => [i]
    | some w => if w.2 > 1 then (match nextR W H d i (w.1 - cstI cs i, w.2 - 1) with
      | none => [i]
      | some k => i :: pathR W H cs d f k) else [i]
def rbarO (W H : Int) (cs : List Int) : Option (List Int × Way) :=
  match wayR W H cs (bestP (wayR W H cs) W.toNat) with
  | none => none
  | some w => some (pathR W H cs (wayR W H cs) w.2.toNat (bestP (wayR W H cs) W.toNat), w)
section
variable {cost : Int → Int} {ini : Int → Bool} {nb : Int → List Int} {d : Int → Option Way}
theorem OptD.sub (h : OptD cost ini nb d) {i k : Int} {r : List Int} (hk : k ∈ nb i) (hw : isWalk ini nb (k :: r)) (ho : d i = some (valW cost (i :: k :: r))) : d k = some (valW cost (k :: r)) := by
  obtain ⟨w1, h3, h4⟩ := h.comp k r hw
  obtain ⟨l', h5, h6⟩ := h.sound k w1 h3
  obtain ⟨w2, h7, h8⟩ := h.comp i (k :: l') ⟨hk, h5⟩
  rw [ho] at h7; cases h7
  have e1 : valW cost (i :: k :: l') = addW (cost i) w1 := by show addW _ (valW cost (k :: l')) = _; rw [h6]
  have e2 : valW cost (i :: k :: r) = addW (cost i) (valW cost (k :: r)) := rfl
  rw [e1, e2] at h8
  rw [h3, leW_anti h4 (by unfold leW addW at h8; unfold leW; simp only at h8; omega)]
theorem OptD.pos (h : OptD cost ini nb d) {i : Int} {w : Way} (hw : d i = some w) : 1 ≤ w.2 := by
  obtain ⟨l, _, h2⟩ := h.sound i w hw
  have := valW_cells cost (i :: l)
  rw [h2] at this; simp at this; omega
end
section
variable {W H : Int} {cs : List Int}
theorem nbB_cond {i k : Int} (h : k ∈ nbB W H cs i) : inR cs i = true ∧ hldI cs i = true ∧ ¬ i / W = H - 1 := by
  unfold nbB at h
  split at h
  · rename_i hh; simp only [Bool.and_eq_true, Bool.not_eq_true', decide_eq_false_iff_not] at hh; exact hh
  · cases h
theorem nbR_cond {i k : Int} (h : k ∈ nbR W H cs i) : inR cs i = true ∧ hldI cs i = true ∧ k ∈ nearL W H true i := by
  unfold nbR at h
  split at h
  · rename_i hh; simp only [Bool.and_eq_true] at hh; exact ⟨hh.1, hh.2, h⟩
  · cases h
theorem nbR_mk {i k : Int} (h1 : inR cs i = true) (h2 : hldI cs i = true) (h3 : k ∈ nearL W H true i) : k ∈ nbR W H cs i := by
  unfold nbR; rw [h1, h2]; exact h3
theorem nbB_mk {i k : Int} (h1 : inR cs i = true) (h2 : hldI cs i = true) (h3 : k ∈ nearL W H true i) (h4 : ¬ i / W = H - 1) (h5 : ¬ k / W = 0) : k ∈ nbB W H cs i := by
  unfold nbB; rw [h1, h2, dd_f h4]
  exact List.mem_filter.2 ⟨h3, by simp [h5]⟩
theorem walk_BR : ∀ {l : List Int}, isWalk (iniB W H cs) (nbB W H cs) l → isWalk (iniB W H cs) (nbR W H cs) l
  | [i], h => h
  | i :: k :: r, h => ⟨by obtain ⟨h1, h2, _⟩ := nbB_cond h.1; exact nbR_mk h1 h2 (nbB_mem h.1).1, walk_BR h.2⟩
theorem iniB_cond {i : Int} (h : iniB W H cs i = true) : inR cs i = true ∧ hldI cs i = true ∧ i / W = H - 1 := by
  unfold iniB at h; simp only [Bool.and_eq_true, decide_eq_true_eq] at h; exact h
theorem walkR_cond {i : Int} {l : List Int} (h : isWalk (iniB W H cs) (nbR W H cs) (i :: l)) : inR cs i = true ∧ hldI cs i = true := by
  match l, h with
  | [], h => exact ⟨(iniB_cond h).1, (iniB_cond h).2.1⟩
  | k :: r, h => exact ⟨(nbR_cond h.1).1, (nbR_cond h.1).2.1⟩
theorem R_le_B (hok : CO W H cs) {i : Int} {w : Way} (h : wayB W H cs i = some w) : ∃ w', wayR W H cs i = some w' ∧ leW w' w := by
  obtain ⟨l, h1, h2⟩ := (wayB_opt hok).sound i w h
  obtain ⟨w', h3, h4⟩ := (wayR_opt hok).comp i l (walk_BR h1)
  exact ⟨w', h3, h2 ▸ h4⟩
theorem opt_B (hok : CO W H cs) : ∀ (l : List Int) {i : Int}, isWalk (iniB W H cs) (nbR W H cs) (i :: l) → wayR W H cs i = some (valW (cstI cs) (i :: l)) → (∀ x ∈ l, ¬ x / W = 0) → isWalk (iniB W H cs) (nbB W H cs) (i :: l)
  | [], i, h, _, _ => h
  | k :: r, i, h, ho, hr => by
    have hk := (wayR_opt hok).sub h.1 h.2 ho
    have ih := opt_B hok r h.2 hk (fun x hx => hr x (by simp [hx]))
    obtain ⟨c1, c2, c3⟩ := nbR_cond h.1
    refine ⟨nbB_mk c1 c2 c3 (fun hrow => ?_) (hr k (by simp)), ih⟩
    have hi : isWalk (iniB W H cs) (nbR W H cs) [i] := by
      show iniB W H cs i = true
      unfold iniB; rw [c1, c2, dd_t hrow]; rfl
    obtain ⟨w', g1, g2⟩ := (wayR_opt hok).comp i [] hi
    rw [ho] at g1; cases g1
    have g3 := valW_cells (cstI cs) (i :: k :: r)
    have g4 := valW_pos (fun i => (cst_bd hok.cost i).1) (k :: r)
    have e1 : valW (cstI cs) (i :: k :: r) = addW (cstI cs i) (valW (cstI cs) (k :: r)) := rfl
    have e2 : valW (cstI cs) [i] = (cstI cs i, 1) := by simp [valW, addW]
    rw [e2] at g2
    have g5 := valW_cells (cstI cs) (k :: r)
    rw [e1] at g2
    unfold leW addW at g2
    simp only [List.length_cons] at g2 g5
    omega
theorem row0_free (hok : CO W H cs) {ws : Way} (hmin : ∀ x, 0 ≤ x → x < W → ∀ u, wayR W H cs x = some u → leW ws u) {l : List Int} {i : Int} (h : isWalk (iniB W H cs) (nbR W H cs) (i :: l)) (hle : leW (valW (cstI cs) (i :: l)) ws) : ∀ x ∈ l, ¬ x / W = 0 := by
  intro x hx hr
  obtain ⟨a, b, rfl⟩ := List.append_of_mem hx
  have hs : isWalk (iniB W H cs) (nbR W H cs) (x :: b) := walk_suffix (a := i :: a) h
  have hx0 := walk_rng (n := cs.length) iniB_in (nbR_in (by have := hok.w; omega) hok.len) hs x (by simp)
  have hW := hok.w
  have hxW : x < W := by
    have h1 := Int.emod_lt_of_pos x (show 0 < W by omega)
    have h2 := Int.mul_ediv_add_emod x W
    rw [hr] at h2; omega
  obtain ⟨u, g1, g2⟩ := (wayR_opt hok).comp x b hs
  have g3 := hmin x hx0.1 hxW u g1
  have e : valW (cstI cs) (i :: (a ++ x :: b)) = ((valW (cstI cs) (i :: a)).1 + (valW (cstI cs) (x :: b)).1, (valW (cstI cs) (i :: a)).2 + (valW (cstI cs) (x :: b)).2) := valW_app (i :: a) (x :: b)
  have g4 := valW_pos (fun i => (cst_bd hok.cost i).1) (i :: a)
  have g5 := valW_cells (cstI cs) (i :: a)
  have g6 := leW_trans g3 g2
  have g7 := leW_trans hle g6
  rw [e] at g7
  unfold leW at g7
  simp only [List.length_cons] at g7 g5
  omega
theorem eq_B (hok : CO W H cs) {ws : Way} (hmin : ∀ x, 0 ≤ x → x < W → ∀ u, wayR W H cs x = some u → leW ws u) {i : Int} {v : Way} (h : wayR W H cs i = some v) (hle : leW v ws) : wayB W H cs i = some v := by
  obtain ⟨l, h1, h2⟩ := (wayR_opt hok).sound i v h
  have hf := row0_free hok hmin h1 (h2 ▸ hle)
  have hb := opt_B hok l h1 (h2 ▸ h) hf
  obtain ⟨u, g1, g2⟩ := (wayB_opt hok).comp i l hb
  obtain ⟨w', g3, g4⟩ := R_le_B hok g1
  rw [h] at g3; cases g3
  rw [g1, leW_anti (h2 ▸ g2) g4]
theorem path_eq (hok : CO W H cs) {ws : Way} (hmin : ∀ x, 0 ≤ x → x < W → ∀ u, wayR W H cs x = some u → leW ws u) : ∀ (f : Nat) {i : Int} {v : Way}, wayB W H cs i = some v → wayR W H cs i = some v → leW v ws → pathB W H cs (wayB W H cs) f i = pathR W H cs (wayR W H cs) f i
  | 0, i, v, _, _, _ => rfl
  | f + 1, i, v, hB, hR, hle => by
    simp only [pathB, pathR, hB, hR]
    by_cases h1 : v.2 > 1
    · rw [if_pos h1, if_pos h1]
      obtain ⟨l0, s1, s2⟩ := (wayR_opt hok).sound i v hR
      obtain ⟨c1, c2⟩ := walkR_cond s1
      have hci := (cst_bd hok.cost i).1
      have hle2 : leW (v.1 - cstI cs i, v.2 - 1) ws := by unfold leW at hle ⊢; simp only; omega
      have hfun : nextB W H (wayB W H cs) i (v.1 - cstI cs i, v.2 - 1) = nextR W H (wayR W H cs) i (v.1 - cstI cs i, v.2 - 1) := by
        unfold nextB nextR
        refine find_congr fun k hk => ?_
        rw [Bool.eq_iff_iff, Bool.and_eq_true, decide_eq_true_eq, decide_eq_true_eq, Bool.not_eq_true', decide_eq_false_iff_not]
        constructor
        · rintro ⟨g1, g2⟩
          obtain ⟨w', g3, g4⟩ := R_le_B hok g1
          obtain ⟨l', g5, g6⟩ := (wayR_opt hok).sound k w' g3
          obtain ⟨w2, g7, g8⟩ := (wayR_opt hok).comp i (k :: l') ⟨nbR_mk c1 c2 hk, g5⟩
          rw [hR] at g7; cases g7
          have e1 : valW (cstI cs) (i :: k :: l') = addW (cstI cs i) w' := by show addW _ (valW (cstI cs) (k :: l')) = _; rw [g6]
          rw [e1] at g8
          rw [g3, leW_anti g4 (by unfold leW addW at g8; unfold leW; simp only at g8 ⊢; omega)]
        · intro g1
          refine ⟨eq_B hok hmin g1 hle2, fun g2 => ?_⟩
          have hW := hok.w
          obtain ⟨l', g5, _⟩ := (wayR_opt hok).sound k _ g1
          have hx0 := walk_rng (n := cs.length) iniB_in (nbR_in (by omega) hok.len) g5 k (by simp)
          have hxW : k < W := by
            have h1 := Int.emod_lt_of_pos k (show 0 < W by omega)
            have h2 := Int.mul_ediv_add_emod k W
            rw [g2] at h2; omega
          have g3 := leW_trans hle (hmin k hx0.1 hxW _ g1)
          unfold leW at g3; simp only at g3; omega
      rw [hfun]
      cases hn : nextR W H (wayR W H cs) i (v.1 - cstI cs i, v.2 - 1) with
      | none => rfl
      | some k =>
        have g1 := List.find?_some hn
        have g1 := of_decide_eq_true g1
        simp only
        rw [path_eq hok hmin f (eq_B hok hmin g1 hle2) g1 hle2]
    · rw [if_neg h1, if_neg h1]
where
  find_congr {l : List Int} {p q : Int → Bool} (h : ∀ x ∈ l, p x = q x) : l.find? p = l.find? q := by
    induction l with
    | nil => rfl
    | cons x r ih =>
      rw [List.find?_cons, List.find?_cons, h x (by simp), ih (fun y hy => h y (by simp [hy]))]
theorem bar_eq (hok : CO W H cs) : barO W H cs = rbarO W H cs := by
  have hW := hok.w
  obtain ⟨w0, hw0⟩ : ∃ w0 : Nat, (w0 : Int) = W := ⟨W.toNat, by omega⟩
  have hwt : W.toNat = w0 := by omega
  unfold barO rbarO
  rw [hwt]
  have neg1 : ∀ (d : Int → Option Way), (∀ i w, d i = some w → 0 ≤ i) → d (-1) = none := fun d hd => by
    cases h : d (-1) with
    | none => rfl
    | some w => have := hd _ w h; omega
  have hBd : ∀ i w, wayB W H cs i = some w → 0 ≤ i := fun i w h => (wayB_dom hok h).1
  have hRd : ∀ i w, wayR W H cs i = some w → 0 ≤ i := fun i w h => by
    obtain ⟨l, h1, _⟩ := (wayR_opt hok).sound i w h
    exact (walk_rng (n := cs.length) iniB_in (nbR_in (by omega) hok.len) h1 i (by simp)).1
  rcases bestP_spec (wayR W H cs) w0 with ⟨h1, h2⟩ | ⟨b, h1, h2, wb, h3, h4, h5⟩
  · rw [h1, neg1 _ hRd]
    rcases bestP_spec (wayB W H cs) w0 with ⟨g1, _⟩ | ⟨b', g1, g2, wb', g3, _, _⟩
    · rw [g1, neg1 _ hBd]
    · obtain ⟨w', q1, _⟩ := R_le_B hok g3
      rw [h2 b' g2] at q1; cases q1
  · have hmin : ∀ x, 0 ≤ x → x < W → ∀ u, wayR W H cs x = some u → leW wb u := fun x hx0 hxW u hu => by
      obtain ⟨j, rfl⟩ : ∃ j : Nat, (j : Int) = x := ⟨x.toNat, by omega⟩
      exact h4 j (by omega) u hu
    have hbB := eq_B hok hmin h3 (leW_refl _)
    rcases bestP_spec (wayB W H cs) w0 with ⟨g1, g2⟩ | ⟨b', g1, g2, wb', g3, g4, g5⟩
    · rw [g2 b h2] at hbB; cases hbB
    · have k1 := g4 b h2 wb hbB
      obtain ⟨w', q1, q2⟩ := R_le_B hok g3
      have k2 := h4 b' g2 w' q1
      have e1 : wb' = wb := leW_anti k1 (leW_trans k2 q2)
      have e2 : w' = wb := leW_anti (leW_trans q2 k1) k2
      have hbb : b = b' := by
        rcases Nat.lt_trichotomy b b' with h | h | h
        · exact absurd (e1 ▸ leW_refl wb) (g5 b h wb hbB)
        · exact h
        · exact absurd (e2 ▸ leW_refl wb) (h5 b' h w' q1)
      subst hbb
      rw [h1, g1, h3, hbB]
      simp only
      rw [path_eq hok hmin _ hbB h3 (leW_refl _)]
/-- The way down is a walk of that cost, without a cell twice. -/
theorem path_walk (hok : CO W H cs) : ∀ (f : Nat) {i : Int} {w : Way}, wayB W H cs i = some w → w.2.toNat ≤ f → isWalk (iniB W H cs) (nbB W H cs) (pathB W H cs (wayB W H cs) f i) ∧ valW (cstI cs) (pathB W H cs (wayB W H cs) f i) = w ∧ (∃ r, pathB W H cs (wayB W H cs) f i = i :: r) ∧ (pathB W H cs (wayB W H cs) f i).Nodup ∧ ∀ x ∈ pathB W H cs (wayB W H cs) f i, ∃ u, wayB W H cs x = some u ∧ u.2 ≤ w.2
  | 0, i, w, hw, hf => by have := (wayB_opt hok).pos hw; omega
  | f + 1, i, w, hw, hf => by
    have hpos := (wayB_opt hok).pos hw
    obtain ⟨l, s1, s2⟩ := (wayB_opt hok).sound i w hw
    have hc := valW_cells (cstI cs) (i :: l)
    rw [s2] at hc
    by_cases h1 : 1 < w.2
    · obtain ⟨k, hk, hdk⟩ := nextB_some hok hw h1
      obtain ⟨i1, i2, ⟨r, i3⟩, i4, i5⟩ := path_walk hok f hdk (by simp only; omega)
      have hp : pathB W H cs (wayB W H cs) (f + 1) i = i :: pathB W H cs (wayB W H cs) f k := by
        simp only [pathB, hw, hk]; rw [if_pos h1]
      have hkm : k ∈ nbB W H cs i := by
        match l, s1, hc with
        | [], _, hc => simp at hc; omega
        | k' :: r', s1, _ =>
          obtain ⟨c1, c2, c3⟩ := nbB_cond s1.1
          have q1 := List.mem_of_find?_eq_some hk
          have q2 := List.find?_some hk
          simp only [Bool.and_eq_true, Bool.not_eq_true', decide_eq_false_iff_not] at q2
          exact nbB_mk c1 c2 q1 c3 q2.2
      rw [hp]
      refine ⟨by rw [i3] at i1 ⊢; exact ⟨hkm, i1⟩, ?_, ⟨_, rfl⟩, List.nodup_cons.2 ⟨fun hm => ?_, i4⟩, fun x hx => ?_⟩
      · show addW _ (valW (cstI cs) (pathB W H cs (wayB W H cs) f k)) = w
        rw [i2]; unfold addW; exact Prod.ext (by simp only; omega) (by simp only; omega)
      · obtain ⟨u, u1, u2⟩ := i5 i hm
        rw [hw] at u1; cases u1
        simp only at u2; omega
      · rcases List.mem_cons.1 hx with rfl | hx
        · exact ⟨w, hw, Int.le_refl _⟩
        · obtain ⟨u, u1, u2⟩ := i5 x hx
          exact ⟨u, u1, by simp only at u2; omega⟩
    · have hp : pathB W H cs (wayB W H cs) (f + 1) i = [i] := by simp only [pathB, hw]; rw [if_neg (by omega)]
      have hl : l = [] := by
        match l, hc with
        | [], _ => rfl
        | _ :: _, hc => simp at hc; omega
      subst hl
      rw [hp]
      exact ⟨s1, s2, ⟨[], rfl⟩, by simp, fun x hx => by rw [List.mem_singleton.1 hx]; exact ⟨w, hw, Int.le_refl _⟩⟩
theorem cellI_idx {i : Int} (hW : 0 < W) (hi : 0 ≤ i) (hn : i < W * H) : onB W H (cellI W i).1 (cellI W i).2 = true ∧ idxU W (cellI W i) = i := by
  have h1 := Int.emod_nonneg i (show W ≠ 0 by omega)
  have h2 := Int.emod_lt_of_pos i hW
  have h3 := Int.mul_ediv_add_emod i W
  have h4 : 0 ≤ i / W := Int.ediv_nonneg hi (by omega)
  have h5 : i / W < H := Int.ediv_lt_of_lt_mul hW (by rw [Int.mul_comm]; exact hn)
  refine ⟨by simp only [onB, cellI, Bool.and_eq_true]; exact ⟨dd_t h1, dd_t h2, dd_t h4, dd_t h5⟩, ?_⟩
  unfold idxU cellI
  simp only
  rw [Int.mul_comm (i / W) W]; omega
/-- A walk from the first row is a barrier. -/
theorem walk_bar (hok : CO W H cs) {l : List Int} {i : Int} (hw : isWalk (iniB W H cs) (nbB W H cs) (i :: l)) (hi : i / W = 0) (hd : (i :: l).Nodup) : BarP W H cs (cellsL W (i :: l)) := by
  have hW := hok.w
  have hin := walk_rng (n := cs.length) iniB_in (nbB_in (by omega) hok.len) hw
  have hlen := hok.len
  have hn : W * H ≤ 100 := by have := Int.mul_le_mul hok.w.2 hok.h.2 (by have := hok.h; omega) (by omega : (0:Int) ≤ 10); omega
  have hll : (cellsL W (i :: l)).length = (i :: l).length := by simp [cellsL]
  have hget : ∀ j, j < (i :: l).length → (cellsL W (i :: l)).getD j cz = cellI W ((i :: l).getD j 0) := fun j hj => by
    simp only [cellsL, List.getD_eq_getElem?_getD, List.getElem?_map, List.getElem?_eq_getElem hj]; rfl
  have hmem : ∀ j, j < (i :: l).length → (i :: l).getD j 0 ∈ (i :: l) := fun j hj => getD_mem hj
  have hci := fun j hj => cellI_idx (W := W) (H := H) (i := (i :: l).getD j 0) (by omega) (hin _ (hmem j hj)).1 (by have := (hin _ (hmem j hj)).2; omega)
  -- what each member of a walk is
  have key : ∀ (l : List Int), isWalk (iniB W H cs) (nbB W H cs) l → ∀ j, j < l.length → hldI cs (l.getD j 0) = true ∧ (0 < j → ¬ l.getD j 0 / W = 0) ∧ (l.getD j 0 / W = H - 1 ↔ j + 1 = l.length) ∧ (j + 1 < l.length → l.getD (j + 1) 0 ∈ nearL W H true (l.getD j 0)) := by
    intro l
    induction l with
    | nil => intro _ j hj; simp at hj
    | cons a r ih =>
      intro hw j hj
      match r, hw, ih with
      | [], hw, _ =>
        have : j = 0 := by simp at hj; omega
        subst this
        obtain ⟨c1, c2, c3⟩ := iniB_cond hw
        exact ⟨c2, fun h => by omega, ⟨fun _ => rfl, fun _ => c3⟩, fun h => by simp at h⟩
      | k :: r, hw, ih =>
        obtain ⟨c1, c2, c3⟩ := nbB_cond hw.1
        match j with
        | 0 => exact ⟨c2, fun h => by omega, ⟨fun h => absurd h c3, fun h => by simp at h⟩, fun _ => (nbB_mem hw.1).1⟩
        | j + 1 =>
          obtain ⟨q1, q2, q3, q4⟩ := ih hw.2 j (by simpa using hj)
          refine ⟨q1, fun _ => ?_, ⟨fun h => by have := q3.1 h; simp at this ⊢; omega, fun h => q3.2 (by simp at h ⊢; omega)⟩, fun h => q4 (by simpa using h)⟩
          by_cases hj0 : j = 0
          · subst hj0; exact (nbB_mem hw.1).2
          · exact q2 (by omega)
  have hk := key (i :: l) hw
  refine ⟨fun j hj => ?_, fun j m hj hm he => ?_, ⟨by rw [hll]; simp, ?_⟩, fun j hj => ?_, fun j hj => ?_, fun j hj => ?_, fun j hj => ?_⟩
  · rw [hll] at hj; rw [hget j hj]; exact (hci j hj).1
  · rw [hll] at hj
    rw [hget j hj, hget m (by omega)] at he
    have h1 : (i :: l).getD j 0 = (i :: l).getD m 0 := by
      rw [← (hci j hj).2, ← (hci m (by omega)).2, he]
    rw [List.getD_eq_getElem?_getD, List.getD_eq_getElem?_getD, List.getElem?_eq_getElem hj, List.getElem?_eq_getElem (show m < (i :: l).length by omega)] at h1
    exact (List.pairwise_iff_getElem.1 hd) m j (by omega) hj hm h1.symm
  · have := nodup_len cs.length _ hd hin
    rw [hll]; omega
  · rw [hll] at hj
    rw [hget (j + 1) hj, hget j (by omega)]
    have h1 := hci (j + 1) hj
    have h2 := hci j (by omega)
    refine (near_iff h1.1 h2.1).1 ?_
    rw [(idxC_mod h1.1).1, (idxC_mod h2.1).1, h1.2, h2.2]
    exact (hk j (by omega)).2.2.2 hj
  · rw [hll] at hj
    rw [hget j hj, (hci j hj).2]
    have := (hk j hj).1
    unfold hldI at this
    simpa using this
  · rw [hll] at hj
    rw [hget j hj]
    show _ / W = 0 ↔ _
    constructor
    · intro h
      by_cases hj0 : j = 0
      · exact hj0
      · exact absurd h ((hk j hj).2.1 (by omega))
    · rintro rfl; exact hi
  · rw [hll] at hj ⊢
    rw [hget j hj]
    exact (hk j hj).2.2.1
theorem walk_sum {l : List Int} (hW : 0 < W) (hin : ∀ x ∈ l, 0 ≤ x ∧ x < W * H) : sumC W cs (cellsL W l) = (valW (cstI cs) l).1 := by
  unfold sumC sumK
  rw [List.take_length]
  induction l with
  | nil => rfl
  | cons i r ih =>
    have := ih (fun x hx => hin x (by simp [hx]))
    have hi := hin i (by simp)
    have h2 := (cellI_idx (W := W) (H := H) hW hi.1 hi.2).2
    show (cstI cs (idxU W (cellI W i)) :: (cellsL W r).map _).sum = _
    rw [List.sum_cons, this, h2]
    simp only [valW, addW]; omega
/-- The barrier that is found is one, and costs what is said. -/
theorem bar_is (hok : CO W H cs) {l : List Int} {w : Way} (h : barO W H cs = some (l, w)) : BarP W H cs (cellsL W l) ∧ sumC W cs (cellsL W l) = w.1 ∧ (∀ x ∈ l, 0 ≤ x ∧ x < cs.length) ∧ l.length ≤ 100 := by
  have hW := hok.w
  have hlen := hok.len
  obtain ⟨w0, hw0⟩ : ∃ w0 : Nat, (w0 : Int) = W := ⟨W.toNat, by omega⟩
  have hwt : W.toNat = w0 := by omega
  unfold barO at h
  rw [hwt] at h
  rcases bestP_spec (wayB W H cs) w0 with ⟨g1, _⟩ | ⟨b, g1, g2, wb, g3, _, _⟩
  · rw [g1] at h
    cases hd : wayB W H cs (-1) with
    | none => rw [hd] at h; cases h
    | some u => have := (wayB_dom hok hd).1; omega
  · rw [g1, g3] at h
    cases h
    obtain ⟨p1, p2, ⟨r, p3⟩, p4, _⟩ := path_walk hok w.2.toNat g3 (Nat.le_refl _)
    have hin := walk_rng (n := cs.length) iniB_in (nbB_in (by omega) hok.len) p1
    rw [p3] at p1 p2 p4 hin ⊢
    have hbar := walk_bar hok p1 (Int.ediv_eq_zero_of_lt (by omega) (by omega)) p4
    refine ⟨hbar, by rw [walk_sum (H := H) (by omega) (fun x hx => by have := hin x hx; omega), p2], hin, ?_⟩
    have := hbar.len.2
    simpa [cellsL] using this
end
end Go.Proofs.Ytbhpnhcdjmcaoaa

/- Boom: Barrier, the program's and the reference's; lists of cells that are the same. -/
namespace Go.Proofs.Ytbhpnhcdjmcaoaa
open Go.RowKit
set_option linter.unusedVariables false
set_option linter.unusedSimpArgs false
def barC (W H : Int) (cs : List Int) : List Cell := if okC W H cs then (match barO W H cs with | none => [] | some (l, _) => cellsL W l) else []
def barE (W H : Int) (cs : List Int) : Int := if okC W H cs then (match barO W H cs with | none => 5 | some _ => 0) else 30
theorem barC_some {W H : Int} {cs : List Int} {l : List Int} {w : Way} (hv : okC W H cs = true) (h : barO W H cs = some (l, w)) : barC W H cs = cellsL W l ∧ barE W H cs = 0 := by
  unfold barC barE; rw [hv, h]; exact ⟨rfl, rfl⟩
theorem barC_none {W H : Int} {cs : List Int} (hv : okC W H cs = true) (h : barO W H cs = none) : barC W H cs = [] ∧ barE W H cs = 5 := by
  unfold barC barE; rw [hv, h]; exact ⟨rfl, rfl⟩
theorem barC_bad {W H : Int} {cs : List Int} (hv : okC W H cs = false) : barC W H cs = [] ∧ barE W H cs = 30 := by
  unfold barC barE; rw [hv]; exact ⟨rfl, rfl⟩
set_option maxHeartbeats 4000000 in
theorem pBarrier_spec (W H : Int) (cs : List Int) (hl : cs.length ≤ 300) :
    Spec Try.prog 20 [chR W H cs.length] [⟨0, .ro 0, cs.map C.i⟩] 2 (fun v L' _ => cellsE (barC W H cs) (barE W H cs) v L') := by
  refine Spec.of tok Try.func20 rfl rfl rfl fun n0 cx => vc_ok tok ?_
  cases hv : okC W H cs with
  | false =>
    obtain ⟨e1, e2⟩ := barC_bad hv
    rw [e1, e2]
    repeat ((conv => whnf); first | (refine And.intro (by first | omega | exact Nat.le_of_ble_eq_true rfl) ?_) | refine Exists.intro _ (And.intro rfl ?_) | refine br_t (by omega) ?_ | refine fun (K' : K3) hK' => ?_ | (refine hK' _ _ _ ?_; clear hK' K') | refine CallK.newNo (a := 0) (bs := []) (R := [(1, none)]) 30 hl (by simp) (.inl ⟨hv, rfl⟩) rfl rfl (roNil rfl) ?_ | refine CallK.m ?_)
    exact .inl ⟨rfl, rfl⟩
  | true =>
    have hok := okC_iff.1 hv
    have hba := barrier_spec W H cs hok
    cases hbo : barO W H cs with
    | none =>
      obtain ⟨e1, e2⟩ := barC_none hv hbo
      rw [e1, e2]
      repeat ((conv => whnf); first | (refine And.intro (by first | omega | exact Nat.le_of_ble_eq_true rfl) ?_) | refine Exists.intro _ (And.intro rfl ?_) | refine br_f (by omega) ?_ | refine fun (K' : K3) hK' => ?_ | (refine hK' _ _ _ ?_; clear hK' K') | refine CallK.newOk (a := 0) (bs := []) (R := [(1, none)]) hl (by simp) hv (okB_nil _ _ _) rfl rfl (by omega) (roNil rfl) ?_ | refine CallK.barN (R := [(1, some 3)]) hbo hba (by kernel_rfl) rfl (by simp [V.wf, A.wf, C.wf]) ⟨roE_ints (l := 0) rfl (by omega) rfl (.inl rfl), trivial⟩ rfl ?_ | refine CallK.m ?_)
      exact .inl ⟨rfl, rfl⟩
    | some q =>
      obtain ⟨l, w⟩ := q
      obtain ⟨e1, e2⟩ := barC_some hv hbo
      rw [e1, e2]
      obtain ⟨_, _, hin, hlen⟩ := bar_is hok hbo
      have hW := hok.w
      have hn : (cs.length : Int) ≤ 100 := by have := Int.mul_le_mul hok.w.2 hok.h.2 (by have := hok.h; omega) (by omega : (0:Int) ≤ 10); have := hok.len; omega
      have hce := cells_spec W H cs.length l (by omega) (by omega) (fun k hk => by have := hin _ (getD_mem hk); omega)
      repeat ((conv => whnf); first | (refine And.intro (by first | omega | exact Nat.le_of_ble_eq_true rfl) ?_) | refine Exists.intro _ (And.intro rfl ?_) | refine br_f (by omega) ?_ | refine fun (K' : K3) hK' => ?_ | (refine hK' _ _ _ ?_; clear hK' K') | refine CallK.newOk (a := 0) (bs := []) (R := [(1, none)]) hl (by simp) hv (okB_nil _ _ _) rfl rfl (by omega) (roNil rfl) ?_ | refine CallK.barS (R := [(1, some 3)]) hbo hba (by kernel_rfl) rfl (by simp [V.wf, A.wf, C.wf]) ⟨roE_ints (l := 0) rfl (by omega) rfl (.inl rfl), trivial⟩ rfl ?_ | refine CallK.cellsR (R := [(1, some 3), (2, some 5)]) hce (by kernel_rfl) rfl (by simp [V.wf, A.wf, C.wf]) ⟨roE_ints (l := 5) rfl (by omega) rfl (.inl rfl), trivial⟩ rfl ?_ | refine CallK.m ?_)
      exact .inr ⟨_, rfl, rfl⟩
section
variable {P : Program} {n0 nx nac : Nat} {f : FuncId} {vs vs' : List V} {Lc L : List E} {R : Rn} {K : V → List E → Nat → Prop}
/-- A callee that gives a row of cells that are numbers. -/
theorem CallK.rowW {t m : Nat} {l : List Cell} (spec : Spec P f vs Lc nac (fun v L' _ => ∃ lab, v = V.c (.sl lab m) ∧ find L' lab = some ⟨lab, .vec t 2, cellC l⟩)) (hok : callB P f = true)
    (hv : renVs R vs = some vs') (hvw : ∀ v ∈ vs, v.wf nac) (hL : roL R nac L Lc) (hLc : injB [] Lc = true)
    (hK : K (V.c (.sl nx m)) [⟨nx, .vec t 2, cellC l⟩] (nx + 1)) : CallK P n0 f vs' L nx K := by
  refine CallK.mk' hok spec hv hvw hL hLc ?_
  rintro v L' nx' hw ⟨lab, rfl, hf⟩
  refine ⟨V.c (.sl nx m), [⟨nx, .vec t 2, cellC l⟩], nx + 1, [(nx, some lab)], ⟨Nat.le_succ _, ?_, ?_, ⟨covE_some (renL_one _ _) (Nat.lt_succ_self nx) (wf_cells _ _) hf (ren_cells _ _), trivial⟩, rfl, ?_⟩, hK⟩
  · simp only [V.ren, A.ren, C.ren, renL_one]
  · simp only [V.chk, A.chk, C.chk]; exact inLab_one nx
  · simp only [List.all_cons, List.all_nil, Bool.and_true, inLab_one, Kd.isRo, Bool.not_false, Bool.true_and]
    exact chk_cells _ _
end
/-- The first of some neighbours from which the rest goes on; -1: none does. -/
def nextF (d : Int → Option Way) (rest : Way) (l : List Int) : Int := match l.find? (fun k => decide (d k = some rest)) with
  | some k => k
  | none => -1
theorem nextF_hit {d : Int → Option Way} {rest : Way} {l : List Int} {j : Nat} (hj : j < l.length) (h0 : nextF d rest (l.take j) < 0) (hpos : ∀ x ∈ l, 0 ≤ x) (h : d (l.getD j 0) = some rest) : nextF d rest (l.take (j + 1)) = l.getD j 0 := by
  have hn : (l.take j).find? (fun k => decide (d k = some rest)) = none := by
    cases hf : (l.take j).find? (fun k => decide (d k = some rest)) with
    | none => rfl
    | some k =>
      unfold nextF at h0; rw [hf] at h0
      have := hpos k (List.mem_of_mem_take (List.mem_of_find?_eq_some hf))
      simp only at h0; omega
  unfold nextF
  rw [List.take_add_one, show l[j]?.toList = [l.getD j 0] by rw [List.getElem?_eq_getElem hj, List.getD_eq_getElem?_getD, List.getElem?_eq_getElem hj]; rfl, List.find?_append, hn]
  generalize l.getD j 0 = x at *
  simp [h]
theorem nextF_miss {d : Int → Option Way} {rest : Way} {l : List Int} {j : Nat} (hj : j < l.length) (h : ¬ d (l.getD j 0) = some rest) : nextF d rest (l.take (j + 1)) = nextF d rest (l.take j) := by
  unfold nextF
  rw [List.take_add_one, show l[j]?.toList = [l.getD j 0] by rw [List.getElem?_eq_getElem hj, List.getD_eq_getElem?_getD, List.getElem?_eq_getElem hj]; rfl, List.find?_append]
  generalize l.getD j 0 = x at *
  simp [h]
theorem nextF_keep {d : Int → Option Way} {rest : Way} {l : List Int} {j : Nat} (hj : j < l.length) (h0 : ¬ nextF d rest (l.take j) < 0) : nextF d rest (l.take (j + 1)) = nextF d rest (l.take j) := by
  unfold nextF at *
  rw [List.take_add_one, List.find?_append]
  cases hf : (l.take j).find? (fun k => decide (d k = some rest)) with
  | none => rw [hf] at h0; simp at h0
  | some k => rfl
theorem wayR_dom {W H : Int} {cs : List Int} (hok : CO W H cs) {i : Int} {w : Way} (h : wayR W H cs i = some w) : 0 ≤ i ∧ i < cs.length := by
  obtain ⟨l, h1, _⟩ := (wayR_opt hok).sound i w h
  exact walk_rng (n := cs.length) iniB_in (nbR_in (by have := hok.w; omega) hok.len) h1 i (by simp)
theorem nextR_some {W H : Int} {cs : List Int} (h : CO W H cs) {i : Int} {w : Way} (hw : wayR W H cs i = some w) (h1 : 1 < w.2) : ∃ k, nextR W H (wayR W H cs) i (w.1 - cstI cs i, w.2 - 1) = some k ∧ wayR W H cs k = some (w.1 - cstI cs i, w.2 - 1) := by
  obtain ⟨k, hk, hd⟩ := (wayR_opt h).next hw h1
  cases hf : nextR W H (wayR W H cs) i (w.1 - cstI cs i, w.2 - 1) with
  | none =>
    have := List.find?_eq_none.1 hf k (nbR_cond hk).2.2
    simp [hd] at this
  | some k' => exact ⟨k', rfl, of_decide_eq_true (List.find?_some (p := fun k => decide (wayR W H cs k = some (w.1 - cstI cs i, w.2 - 1))) hf)⟩
set_option maxRecDepth 10000 in
set_option maxHeartbeats 8000000 in
theorem rBarrier_spec (W H : Int) (cs : List Int) (hl : cs.length ≤ 300) :
    Spec Try.prog 21 [chR W H cs.length] [⟨0, .ro 0, cs.map C.i⟩] 1 (fun v L' _ => cellsE (barC W H cs) (barE W H cs) v L') := by
  have hlm : (cs.map C.i).length = cs.length := by simp
  have hva := rvalid_spec W H cs hl
  refine Spec.of tok Try.func21 rfl rfl rfl fun n0 cx => vc_ok tok ?_
  cases hv : okC W H cs with
  | false =>
    obtain ⟨e1, e2⟩ := barC_bad hv
    rw [e1, e2]
    repeat ((conv => whnf); first | refine Exists.intro _ (And.intro rfl ?_) | refine fun (K' : K3) hK' => ?_ | (refine hK' _ _ _ ?_; clear hK' K') | refine CallK.val (R := []) hva (by kernel_rfl) rfl (by simp [V.wf, A.wf, C.wf]) ⟨roE_ints (l := 0) rfl (by omega) rfl (.inl rfl), trivial⟩ rfl rfl trivial ?_ | refine br_bt (congrArg Bool.not hv) ?_ | refine CallK.m ?_)
    exact .inl ⟨rfl, rfl⟩
  | true =>
    have hok := okC_iff.1 hv
    have hwy := ways_spec W H cs hok
    have hbd := wayR_bnd hok
    have hdom : ∀ {i : Int} {w : Way}, wayR W H cs i = some w → 0 ≤ i ∧ i < cs.length := fun h => wayR_dom hok h
    have hnx : ∀ {i : Int} {w : Way}, wayR W H cs i = some w → 1 < w.2 → ∃ k, nextR W H (wayR W H cs) i (w.1 - cstI cs i, w.2 - 1) = some k ∧ wayR W H cs k = some (w.1 - cstI cs i, w.2 - 1) := fun h h1 => nextR_some hok h h1
    have hcb := cst_bd hok.cost
    obtain ⟨w0, rfl⟩ : ∃ w0 : Nat, W = w0 := ⟨W.toNat, by have := hok.w; omega⟩
    have hbar : barO w0 H cs = (match wayR w0 H cs (bestP (wayR w0 H cs) w0) with
      | none => none
      | some w => some (pathR w0 H cs (wayR w0 H cs) w.2.toNat (bestP (wayR w0 H cs) w0), w)) := by rw [bar_eq hok]; unfold rbarO; rw [Int.toNat_natCast] <;> rfl
    have hW := hok.w
    have hH := hok.h
    have hcn := hok.len
    have hn : (cs.length : Int) ≤ 100 := by have := Int.mul_le_mul hW.2 hH.2 (by omega) (by omega : (0:Int) ≤ 10); omega
    have hwn : (w0 : Int) ≤ cs.length := by
      have := Int.mul_le_mul (show (w0 : Int) ≤ w0 by omega) (show 1 ≤ H by omega) (by omega) (by omega); omega
    obtain ⟨d, hd⟩ : ∃ d, d = wayR w0 H cs := ⟨_, rfl⟩
    rw [← hd] at hbar hbd hwy
    simp only [← hd] at hdom hnx
    have hcl2 : (cellC (encL d cs.length)).length = 2 * cs.length := by rw [cellC_len, encL_len]
    repeat ((conv => whnf); first | (refine And.intro (by first | omega | exact Nat.le_of_ble_eq_true rfl) ?_) | refine Exists.intro _ (And.intro rfl ?_) | refine fun (K' : K3) hK' => ?_ | (refine hK' _ _ _ ?_; clear hK' K') | refine CallK.val (R := []) hva (by kernel_rfl) rfl (by simp [V.wf, A.wf, C.wf]) ⟨roE_ints (l := 0) rfl (by omega) rfl (.inl rfl), trivial⟩ rfl rfl trivial ?_ | refine br_bf (congrArg Bool.not hv) ?_ | refine CallK.rowW (R := []) hwy (by kernel_rfl) rfl (by simp [V.wf, A.wf, C.wf]) ⟨roE_ints (l := 0) rfl (by omega) rfl (.inl rfl), trivial⟩ rfl ?_ | refine CallK.m ?_)
    refine Tri.loop (γ := Nat) (fun k => k ≤ w0) (fun k => [(1, V.c (.ptr 1 0)), (4, V.c (.sl 2 cs.length)), (5, V.i (bestP d k)), (18, V.i w0), (19, V.i (k : Nat))])
      (fun k => [⟨2, .vec 77 2, cellC (encL d cs.length)⟩, ⟨1, .own 24, [C.i w0, C.i H, .sl 0 cs.length]⟩, ⟨0, .ro 0, cs.map C.i⟩]) 3 (fun k => w0 - k) 0 (R0 := []) ?_ ?_ ?_
    · omega
    · skip
      refine ⟨?_, ?_, rfl, rfl, by exact Nat.le_of_ble_eq_true rfl⟩
      · repeat (first | exact trivial | (refine And.intro (covS_syn (by rfl) rfl (by first | exact trivial | exact Nat.le_of_ble_eq_true rfl)) ?_))
      · repeat (first | exact trivial | (refine And.intro (covE_id (Nat.le_of_ble_eq_true rfl) (by first | exact wf_ints _ _ | first | exact wf_cells _ _ | simp [C.wf]) rfl (by rfl)) ?_))
    · intro k hk
      refine vc_ok tok ?_
      by_cases hlt : k < w0
      · have hb := bestP_spec d k
        have hkn : k < cs.length := by omega
        have hlk := cellT (l := encL d cs.length) (k := k) rfl (by rw [encL_len]; exact hkn)
        rw [encL_get hkn] at hlk
        have hb0 := better_spec (encW d k) (0, 0)
        cases hdk : d (k : Int) with
        | none =>
          have hst : bestP d (k + 1) = bestP d k := by simp only [bestP, hdk]
          rw [encW_none hdk] at hlk hb0
          have hbf : betW (0, 0) (0, 0) = false := by decide
          repeat ((conv => whnf); first | (refine And.intro (by first | omega | (dsimp only [inK]; omega)) ?_) | with_reducible refine ld (hlk) ?_ | refine br_t (by omega) ?_ | refine fun (K' : K3) hK' => ?_ | (refine hK' _ _ _ ?_; clear hK' K') | refine draw_auto tok mixed (by kernel_rfl) ?_ | refine HD_mk (fun _ h => CallK.val (R := []) hb0 (by kernel_rfl) rfl (by simp [V.wf, A.wf, C.wf]) trivial rfl rfl trivial h) ?_ | refine br_bf hbf ?_)
          refine ⟨k + 1, [], by omega, by omega, ?_⟩
          refine ⟨?_, ?_, rfl, rfl, by exact Nat.le_of_ble_eq_true rfl⟩
          · repeat (first | exact trivial | (refine And.intro (covS_syn (by first | rfl | (refine congrArg some (congrArg V.i ?_); first | omega | exact hst.symm)) rfl (by first | exact trivial | exact Nat.le_of_ble_eq_true rfl)) ?_))
          · repeat (first | exact trivial | (refine And.intro (covE_id (Nat.le_of_ble_eq_true rfl) (by first | exact wf_ints _ _ | first | exact wf_cells _ _ | simp [C.wf]) rfl (by rfl)) ?_))
        | some w =>
          have hwk := hbd _ _ hdk
          rw [encW_some hdk] at hlk hb0
          have hbt : betW w (0, 0) = true := by unfold betW; rw [if_pos (.inr rfl)]; exact dd_t (by omega)
          rcases hb with ⟨h1, h2⟩ | ⟨b, h1, h2, wb, h3, h4, h5⟩
          · have hst : bestP d (k + 1) = k := by simp only [bestP, hdk, h1]; simp
            rw [h1]
            repeat ((conv => whnf); first | (refine And.intro (by first | omega | (dsimp only [inK]; omega)) ?_) | with_reducible refine ld (hlk) ?_ | refine br_t (by omega) ?_ | refine bs_t (by omega) ?_ | refine fun (K' : K3) hK' => ?_ | (refine hK' _ _ _ ?_; clear hK' K') | refine draw_auto tok mixed (by kernel_rfl) ?_ | refine HD_mk (fun _ h => CallK.val (R := []) hb0 (by kernel_rfl) rfl (by simp [V.wf, A.wf, C.wf]) trivial rfl rfl trivial h) ?_ | refine br_bt hbt ?_)
            refine ⟨k + 1, [], by omega, by omega, ?_⟩
            refine ⟨?_, ?_, rfl, rfl, by exact Nat.le_of_ble_eq_true rfl⟩
            · repeat (first | exact trivial | (refine And.intro (covS_syn (by first | rfl | (refine congrArg some (congrArg V.i ?_); first | omega | exact hst.symm)) rfl (by first | exact trivial | exact Nat.le_of_ble_eq_true rfl)) ?_))
            · repeat (first | exact trivial | (refine And.intro (covE_id (Nat.le_of_ble_eq_true rfl) (by first | exact wf_ints _ _ | first | exact wf_cells _ _ | simp [C.wf]) rfl (by rfl)) ?_))
          · have hst : bestP d (k + 1) = if lessW w wb then (k : Int) else (b : Int) := by
              simp only [bestP, hdk, h1, h3]; rw [if_neg (by omega)]
            have hbn : b < cs.length := by omega
            have hlb := cellT (l := encL d cs.length) (k := b) rfl (by rw [encL_len]; exact hbn)
            rw [encL_get hbn, encW_some h3] at hlb
            have hwb := hbd _ _ h3
            have hb1 := better_spec w wb
            have hbl : betW w wb = lessW w wb := by unfold betW; rw [if_neg (by omega)]
            rw [hbl] at hb1
            rw [h1]
            cases hl' : lessW w wb with
            | true =>
              rw [hl'] at hst
              repeat ((conv => whnf); first | (refine And.intro (by first | omega | (dsimp only [inK]; omega)) ?_) | with_reducible refine ld (hlk) ?_ | with_reducible refine ld (hlb) ?_ | refine br_t (by omega) ?_ | refine bs_f (by omega) ?_ | refine fun (K' : K3) hK' => ?_ | (refine hK' _ _ _ ?_; clear hK' K') | refine draw_auto tok mixed (by kernel_rfl) ?_ | refine HD_mk (fun _ h => CallK.val (R := []) hb0 (by kernel_rfl) rfl (by simp [V.wf, A.wf, C.wf]) trivial rfl rfl trivial h) ?_ | refine br_bt hbt ?_ | refine HD_mk (fun _ h => CallK.val (R := []) hb1 (by kernel_rfl) rfl (by simp [V.wf, A.wf, C.wf]) trivial rfl rfl trivial h) ?_ | refine br_bt hl' ?_)
              refine ⟨k + 1, [], by omega, by omega, ?_⟩
              refine ⟨?_, ?_, rfl, rfl, by exact Nat.le_of_ble_eq_true rfl⟩
              · repeat (first | exact trivial | (refine And.intro (covS_syn (by first | rfl | (refine congrArg some (congrArg V.i ?_); first | omega | exact hst.symm)) rfl (by first | exact trivial | exact Nat.le_of_ble_eq_true rfl)) ?_))
              · repeat (first | exact trivial | (refine And.intro (covE_id (Nat.le_of_ble_eq_true rfl) (by first | exact wf_ints _ _ | first | exact wf_cells _ _ | simp [C.wf]) rfl (by rfl)) ?_))
            | false =>
              rw [hl'] at hst
              repeat ((conv => whnf); first | (refine And.intro (by first | omega | (dsimp only [inK]; omega)) ?_) | with_reducible refine ld (hlk) ?_ | with_reducible refine ld (hlb) ?_ | refine br_t (by omega) ?_ | refine bs_f (by omega) ?_ | refine fun (K' : K3) hK' => ?_ | (refine hK' _ _ _ ?_; clear hK' K') | refine draw_auto tok mixed (by kernel_rfl) ?_ | refine HD_mk (fun _ h => CallK.val (R := []) hb0 (by kernel_rfl) rfl (by simp [V.wf, A.wf, C.wf]) trivial rfl rfl trivial h) ?_ | refine br_bt hbt ?_ | refine HD_mk (fun _ h => CallK.val (R := []) hb1 (by kernel_rfl) rfl (by simp [V.wf, A.wf, C.wf]) trivial rfl rfl trivial h) ?_ | refine br_bf hl' ?_)
              refine ⟨k + 1, [], by omega, by omega, ?_⟩
              refine ⟨?_, ?_, rfl, rfl, by exact Nat.le_of_ble_eq_true rfl⟩
              · repeat (first | exact trivial | (refine And.intro (covS_syn (by first | rfl | (refine congrArg some (congrArg V.i ?_); first | omega | exact hst.symm)) rfl (by first | exact trivial | exact Nat.le_of_ble_eq_true rfl)) ?_))
              · repeat (first | exact trivial | (refine And.intro (covE_id (Nat.le_of_ble_eq_true rfl) (by first | exact wf_ints _ _ | first | exact wf_cells _ _ | simp [C.wf]) rfl (by rfl)) ?_))
      · have hkw : k = w0 := by omega
        subst hkw
        rcases bestP_spec d k with ⟨h1, h2⟩ | ⟨b, h1, h2, wb, h3, _, _⟩
        · have hno : d (-1) = none := by
            cases hh : d (-1) with
            | none => rfl
            | some w => have := hdom hh; omega
          rw [h1] at hbar ⊢
          simp only [hno] at hbar
          obtain ⟨e1, e2⟩ := barC_none hv hbar
          rw [e1, e2]
          repeat ((conv => whnf); first | refine Exists.intro _ (And.intro rfl ?_) | refine br_t (by omega) ?_ | refine br_f (by omega) ?_ | refine fun (K' : K3) hK' => ?_ | (refine hK' _ _ _ ?_; clear hK' K'))
          exact .inl ⟨rfl, rfl⟩
        · rw [h1] at hbar ⊢
          simp only [h3] at hbar
          obtain ⟨e1, e2⟩ := barC_some hv hbar
          rw [e1, e2]
          have hwb := hbd _ _ h3
          have hb3 := hdom h3
          have hatb := at_spec k H cs.length (b : Int) (by omega) (by omega)
          repeat ((conv => whnf); first | (refine And.intro (by first | omega | (dsimp only [inK]; omega)) ?_) | refine Exists.intro _ (And.intro rfl ?_) | refine br_f (by omega) ?_ | refine fun (K' : K3) hK' => ?_ | (refine hK' _ _ _ ?_; clear hK' K') | refine CallK.val (R := []) hatb (by kernel_rfl) rfl (by simp [V.wf, A.wf, C.wf]) trivial rfl rfl (by simp [V.wf, A.wf, C.wf]) ?_ | refine CallK.m ?_)
          refine Tri.loop (γ := List Int × Int × Nat) (fun g => ∃ w, d g.2.1 = some w ∧ g.1 ++ pathR k H cs d w.2.toNat g.2.1 = pathR k H cs d wb.2.toNat b ∧ g.1.length = g.2.2 ∧ g.2.2 + w.2.toNat = wb.2.toNat) (fun g => [(1, V.c (.ptr 1 0)), (4, V.c (.sl 2 cs.length)), (5, V.i g.2.1), (7, V.c (.sl 3 (g.2.2 + 1)))])
            (fun g => [⟨3, .vec 57 2, cellC (cellsL k (g.1 ++ [g.2.1]))⟩, ⟨2, .vec 77 2, cellC (encL d cs.length)⟩, ⟨1, .own 24, [C.i k, C.i H, .sl 0 cs.length]⟩, ⟨0, .ro 0, cs.map C.i⟩]) 4 (fun g => match d g.2.1 with | some w => w.2.toNat | none => 0) ([], (b : Int), 0) (R0 := []) ?_ ?_ ?_
          · exact ⟨wb, h3, rfl, rfl, by simp⟩
          · skip
            refine ⟨?_, ?_, rfl, rfl, by exact Nat.le_of_ble_eq_true rfl⟩
            · repeat (first | exact trivial | (refine And.intro (covS_syn (by rfl) rfl (by first | exact trivial | exact Nat.le_of_ble_eq_true rfl)) ?_))
            · repeat (first | exact trivial | (refine And.intro (covE_id (Nat.le_of_ble_eq_true rfl) (by first | exact wf_ints _ _ | first | exact wf_cells _ _ | simp [C.wf]) rfl (by rfl)) ?_))
          · rintro ⟨pre, at_, m⟩ ⟨w, hw, hp, hlen, hlen2⟩
            simp only at hw hp hlen hlen2 ⊢
            have hwd := hbd _ _ hw
            have hat := hdom hw
            obtain ⟨a, rfl⟩ : ∃ a : Nat, at_ = a := ⟨at_.toNat, by omega⟩
            have han : a < cs.length := by omega
            have hla0 := cellL0 (l := encL d cs.length) (k := a) rfl (by rw [encL_len]; exact han)
            have hla1 := cellL1 (l := encL d cs.length) (k := a) rfl (by rw [encL_len]; exact han)
            rw [encL_get han, encW_some hw] at hla0 hla1
            have hrowl : (cellC (cellsL k (pre ++ [(a : Int)]))).length = 2 * (m + 1) := by rw [cellC_len]; simp [cellsL, hlen]
            refine vc_ok tok ?_
            by_cases h1w : 1 < w.2
            · obtain ⟨kn, hkn, hdn⟩ := hnx hw h1w
              have hbe := beside_spec k H cs.length (a : Int) true (by omega) (by omega) (by omega)
              have hrc := rcost_spec k H cs a han
              have hcn' := hcb (a : Int)
              obtain ⟨cc, hcc⟩ : ∃ cc, cc = cstI cs (a : Int) := ⟨_, rfl⟩
              rw [← hcc] at hkn hdn hrc hcn'
              have hfu : w.2.toNat = (w.2 - 1).toNat + 1 := by omega
              have hstep : pathR k H cs d w.2.toNat a = (a : Int) :: pathR k H cs d (w.2 - 1).toNat kn := by
                rw [hfu]; simp only [pathR, hw, ← hcc, hkn]; rw [if_pos (by omega)]
              have hne := fun x (hx : x ∈ nearL (k : Int) H true (a : Int)) => near_in (by omega) hx
              have hlen9 := near_len (k : Int) H true (a : Int)
              have hfin : nextF d (w.1 - cc, w.2 - 1) (nearL k H true (a : Int)) = kn := by unfold nextF; rw [show (nearL (k : Int) H true (a : Int)).find? _ = some kn from hkn]
              obtain ⟨nl, hnl⟩ : ∃ nl, nl = nearL (k : Int) H true (a : Int) := ⟨_, rfl⟩
              rw [← hnl] at hbe hne hlen9 hfin
              have hpos : ∀ x ∈ nl, 0 ≤ x := fun x hx => (hne x hx).1
              have hkn2 := hdom hdn
              repeat ((conv => whnf); first | (refine And.intro (by first | omega | (dsimp only [inK]; omega)) ?_) | with_reducible refine ld (hla1) ?_ | refine Exists.intro _ (And.intro rfl ?_) | refine br_t (by omega) ?_ | refine fun (K' : K3) hK' => ?_ | (refine hK' _ _ _ ?_; clear hK' K') | refine CallK.den (vs := [V.agg [C.i k, C.i H, C.sl 0 cs.length], V.i (a : Int), V.c (.bool true)]) (fun ρ => rfl) (by simp [V.wf, A.wf, C.wf]) (CallK.intsR (R := []) hbe (by kernel_rfl) rfl (by simp [V.wf, A.wf, C.wf]) trivial rfl ?_) | refine CallK.m ?_)
              refine Tri.loop (γ := Nat) (fun j => j ≤ nl.length) (fun j => [(1, V.c (.ptr 1 0)), (4, V.c (.sl 2 cs.length)), (5, V.i (a : Int)), (7, V.c (.sl 3 (m + 1))), (8, V.i (nextF d (w.1 - cc, w.2 - 1) (nl.take j))), (59, V.c (.sl 4 nl.length)), (60, V.i nl.length), (61, V.i (j : Nat))])
                (fun j => [⟨4, .vec 3 1, nl.map C.i⟩, ⟨3, .vec 57 2, cellC (cellsL k (pre ++ [(a : Int)]))⟩, ⟨2, .vec 77 2, cellC (encL d cs.length)⟩, ⟨1, .own 24, [C.i k, C.i H, .sl 0 cs.length]⟩, ⟨0, .ro 0, cs.map C.i⟩]) 5 (fun j => nl.length - j) 0 (R0 := []) ?_ ?_ ?_
              · omega
              · skip
                refine ⟨?_, ?_, rfl, rfl, by exact Nat.le_of_ble_eq_true rfl⟩
                · repeat (first | exact trivial | (refine And.intro (covS_syn (by rfl) rfl (by first | exact trivial | exact Nat.le_of_ble_eq_true rfl)) ?_))
                · repeat (first | exact trivial | (refine And.intro (covE_id (Nat.le_of_ble_eq_true rfl) (by first | exact wf_ints _ _ | first | exact wf_cells _ _ | simp [C.wf]) rfl (by rfl)) ?_))
              · intro j hj
                refine vc_ok tok ?_
                by_cases hjl : j < nl.length
                · have hldk := intL hjl
                  have hkk := hne _ (getD_mem hjl)
                  have hit := nextF_hit (d := d) (rest := (w.1 - cc, w.2 - 1)) hjl
                  have hmiss := nextF_miss (d := d) (rest := (w.1 - cc, w.2 - 1)) hjl
                  have hkeep := nextF_keep (d := d) (rest := (w.1 - cc, w.2 - 1)) hjl
                  obtain ⟨kk, hkke⟩ : ∃ kk : Nat, (kk : Int) = nl.getD j 0 := ⟨(nl.getD j 0).toNat, by omega⟩
                  rw [← hkke] at hldk hkk hit hmiss
                  have hkl : kk < cs.length := by omega
                  have hlw := cellT (l := encL d cs.length) (k := kk) rfl (by rw [encL_len]; exact hkl)
                  rw [encL_get hkl] at hlw
                  obtain ⟨nf, hnf⟩ : ∃ nf, nf = nextF d (w.1 - cc, w.2 - 1) (nl.take j) := ⟨_, rfl⟩
                  rw [← hnf] at hit hmiss hkeep
                  rw [← hnf]
                  by_cases g1 : nf < 0
                  · by_cases g2 : (encW d kk).2 = w.2 - 1
                    · by_cases g3 : (encW d kk).1 = w.1 - cc
                      · have hdk : d (kk : Int) = some (w.1 - cc, w.2 - 1) := by
                          cases hd' : d (kk : Int) with
                          | none => rw [encW_none hd'] at g2; simp only at g2; omega
                          | some u => rw [encW_some hd'] at g2 g3; rw [← g2, ← g3]
                        have hst := hit g1 hpos hdk
                        repeat ((conv => whnf); first | (refine And.intro (by first | omega | exact Nat.le_of_ble_eq_true rfl | (dsimp only [inK]; omega) | (simp only [setL_length, List.length_map]; omega)) ?_) | with_reducible refine ld (hldk) ?_ | with_reducible refine ld (hlw) ?_ | with_reducible refine ld (hla1) ?_ | with_reducible refine ld (hla0) ?_ | refine Exists.intro _ (And.intro rfl ?_) | refine br_t (by omega) ?_ | refine fun (K' : K3) hK' => ?_ | (refine hK' _ _ _ ?_; clear hK' K') | refine draw_auto tok mixed (by kernel_rfl) ?_ | refine HD_mk (fun _ h => CallK.val (R := []) hrc (by kernel_rfl) rfl (by simp [V.wf, A.wf, C.wf]) ⟨roE_ints (l := 0) rfl (by omega) rfl (.inl rfl), trivial⟩ rfl rfl trivial h) ?_)
                        refine ⟨j + 1, [], by omega, by omega, ?_⟩
                        refine ⟨?_, ?_, rfl, rfl, by exact Nat.le_of_ble_eq_true rfl⟩
                        · repeat (first | exact trivial | (refine And.intro (covS_syn (by first | rfl | (refine congrArg some (congrArg V.i ?_); first | omega | exact hst.symm)) rfl (by first | exact trivial | exact Nat.le_of_ble_eq_true rfl)) ?_))
                        · repeat (first | exact trivial | (refine And.intro (covE_id (Nat.le_of_ble_eq_true rfl) (by first | exact wf_ints _ _ | first | exact wf_cells _ _ | simp [C.wf]) rfl (by rfl)) ?_))
                      · have hst := hmiss (fun h => g3 (by rw [encW_some h]))
                        repeat ((conv => whnf); first | (refine And.intro (by first | omega | exact Nat.le_of_ble_eq_true rfl | (dsimp only [inK]; omega) | (simp only [setL_length, List.length_map]; omega)) ?_) | with_reducible refine ld (hldk) ?_ | with_reducible refine ld (hlw) ?_ | with_reducible refine ld (hla1) ?_ | with_reducible refine ld (hla0) ?_ | refine Exists.intro _ (And.intro rfl ?_) | refine br_t (by omega) ?_ | refine br_f (by omega) ?_ | refine fun (K' : K3) hK' => ?_ | (refine hK' _ _ _ ?_; clear hK' K') | refine draw_auto tok mixed (by kernel_rfl) ?_ | refine HD_mk (fun _ h => CallK.val (R := []) hrc (by kernel_rfl) rfl (by simp [V.wf, A.wf, C.wf]) ⟨roE_ints (l := 0) rfl (by omega) rfl (.inl rfl), trivial⟩ rfl rfl trivial h) ?_)
                        refine ⟨j + 1, [], by omega, by omega, ?_⟩
                        refine ⟨?_, ?_, rfl, rfl, by exact Nat.le_of_ble_eq_true rfl⟩
                        · repeat (first | exact trivial | (refine And.intro (covS_syn (by first | rfl | (refine congrArg some (congrArg V.i ?_); first | omega | exact hst.symm)) rfl (by first | exact trivial | exact Nat.le_of_ble_eq_true rfl)) ?_))
                        · repeat (first | exact trivial | (refine And.intro (covE_id (Nat.le_of_ble_eq_true rfl) (by first | exact wf_ints _ _ | first | exact wf_cells _ _ | simp [C.wf]) rfl (by rfl)) ?_))
                    · have hst := hmiss (fun h => g2 (by rw [encW_some h]))
                      repeat ((conv => whnf); first | (refine And.intro (by first | omega | exact Nat.le_of_ble_eq_true rfl | (dsimp only [inK]; omega) | (simp only [setL_length, List.length_map]; omega)) ?_) | with_reducible refine ld (hldk) ?_ | with_reducible refine ld (hlw) ?_ | with_reducible refine ld (hla1) ?_ | refine Exists.intro _ (And.intro rfl ?_) | refine br_t (by omega) ?_ | refine br_f (by omega) ?_ | refine fun (K' : K3) hK' => ?_ | (refine hK' _ _ _ ?_; clear hK' K') | refine draw_auto tok mixed (by kernel_rfl) ?_)
                      refine ⟨j + 1, [], by omega, by omega, ?_⟩
                      refine ⟨?_, ?_, rfl, rfl, by exact Nat.le_of_ble_eq_true rfl⟩
                      · repeat (first | exact trivial | (refine And.intro (covS_syn (by first | rfl | (refine congrArg some (congrArg V.i ?_); first | omega | exact hst.symm)) rfl (by first | exact trivial | exact Nat.le_of_ble_eq_true rfl)) ?_))
                      · repeat (first | exact trivial | (refine And.intro (covE_id (Nat.le_of_ble_eq_true rfl) (by first | exact wf_ints _ _ | first | exact wf_cells _ _ | simp [C.wf]) rfl (by rfl)) ?_))
                  · have hst := hkeep g1
                    repeat ((conv => whnf); first | (refine And.intro (by first | omega | exact Nat.le_of_ble_eq_true rfl | (dsimp only [inK]; omega) | (simp only [setL_length, List.length_map]; omega)) ?_) | with_reducible refine ld (hldk) ?_ | with_reducible refine ld (hlw) ?_ | refine br_t (by omega) ?_ | refine br_f (by omega) ?_ | refine fun (K' : K3) hK' => ?_ | (refine hK' _ _ _ ?_; clear hK' K') | refine draw_auto tok mixed (by kernel_rfl) ?_)
                    refine ⟨j + 1, [], by omega, by omega, ?_⟩
                    refine ⟨?_, ?_, rfl, rfl, by exact Nat.le_of_ble_eq_true rfl⟩
                    · repeat (first | exact trivial | (refine And.intro (covS_syn (by first | rfl | (refine congrArg some (congrArg V.i ?_); first | omega | exact hst.symm)) rfl (by first | exact trivial | exact Nat.le_of_ble_eq_true rfl)) ?_))
                    · repeat (first | exact trivial | (refine And.intro (covE_id (Nat.le_of_ble_eq_true rfl) (by first | exact wf_ints _ _ | first | exact wf_cells _ _ | simp [C.wf]) rfl (by rfl)) ?_))
                · have hje : j = nl.length := by omega
                  subst hje
                  rw [List.take_length, hfin]
                  have hatk := at_spec k H cs.length kn (by omega) (by omega)
                  repeat ((conv => whnf); first | (refine And.intro (by first | omega | (dsimp only [inK]; omega) | (exact ⟨rfl, rfl, rfl, Nat.le_of_ble_eq_true rfl, by dsimp only; omega, by exact Nat.le_of_ble_eq_true rfl, by omega, Nat.le_of_ble_eq_true rfl⟩)) ?_) | refine Exists.intro _ (And.intro rfl ?_) | refine br_f (by omega) ?_ | refine fun (K' : K3) hK' => ?_ | (refine hK' _ _ _ ?_; clear hK' K') | refine CallK.val (R := []) hatk (by kernel_rfl) rfl (by simp [V.wf, A.wf, C.wf]) trivial rfl rfl (by simp [V.wf, A.wf, C.wf]) ?_ | refine CallK.m ?_)
                  refine ⟨(pre ++ [(a : Int)], kn, m + 1), [(3, some 6)], ⟨_, hdn, ?_, by simp [hlen], by simp only; omega⟩, ?_, ?_⟩
                  · rw [← hp, hstep]; simp
                  · simp only [hdn, hw]; omega
                  · skip
                    refine ⟨?_, ?_, rfl, rfl, by exact Nat.le_of_ble_eq_true rfl⟩
                    · repeat (first | exact trivial | (refine And.intro (covS_syn (by rfl) rfl (by first | exact trivial | exact Nat.le_of_ble_eq_true rfl)) ?_))
                    · repeat (first | exact trivial | (refine And.intro (covE_some rfl (Nat.le_of_ble_eq_true rfl) (wf_cells _ _) rfl ((ren_cells _ _).trans (congrArg some (by simp only [cellsL]; rw [List.map_append, cellC_app]; rfl)))) ?_) | refine And.intro (covE_some rfl (Nat.le_of_ble_eq_true rfl) (wf_cells _ _) rfl (ren_cells _ _)) ?_ | (refine And.intro (covE_some rfl (Nat.le_of_ble_eq_true rfl) (by first | exact wf_ints _ _ | simp [C.wf]) rfl (by first | exact ren_ints _ _ | rfl)) ?_))
            · have hone : pathR k H cs d w.2.toNat a = [(a : Int)] := by
                rw [show w.2.toNat = 0 + 1 by omega]
                simp only [pathR, hw]; rw [if_neg (by omega)]
              rw [hone] at hp
              repeat ((conv => whnf); first | (refine And.intro (by first | omega | (dsimp only [inK]; omega)) ?_) | with_reducible refine ld (hla1) ?_ | refine Exists.intro _ (And.intro rfl ?_) | refine br_f (by omega) ?_ | refine fun (K' : K3) hK' => ?_ | (refine hK' _ _ _ ?_; clear hK' K'))
              refine .inr ⟨3, ?_, ?_⟩
              · rw [← hp]; simp [cellsL, hlen]
              · rw [← hp]; rfl
set_option maxHeartbeats 4000000 in
theorem rCheapest_spec (W H : Int) (cs : List Int) (hl : cs.length ≤ 300) :
    Spec Try.prog 19 [chR W H cs.length] [⟨0, .ro 0, cs.map C.i⟩] 1 (Is (if okC W H cs then (match barO W H cs with | none => V.tup [A.c (C.i 0), A.c (C.i 5)] | some (_, w) => V.tup [A.c (C.i w.1), A.c (C.i 0)]) else V.tup [A.c (C.i 0), A.c (C.i 30)])) := by
  have hb := rBarrier_spec W H cs hl
  refine Spec.of tok Try.func19 rfl rfl rfl fun n0 cx => vc_ok tok ?_
  cases hv : okC W H cs with
  | false =>
    obtain ⟨e1, e2⟩ := barC_bad hv
    rw [e1, e2] at hb
    repeat ((conv => whnf); first | refine Exists.intro _ (And.intro rfl ?_) | refine br_t (by omega) ?_ | refine fun (K' : K3) hK' => ?_ | (refine hK' _ _ _ ?_; clear hK' K') | refine CallK.cellsE (R := []) hb (by kernel_rfl) rfl (by simp [V.wf, A.wf, C.wf]) ⟨roE_ints (l := 0) rfl (by omega) rfl (.inl rfl), trivial⟩ rfl ?_ | refine CallK.m ?_)
    intro ρ; rfl
  | true =>
    have hok := okC_iff.1 hv
    cases hbo : barO W H cs with
    | none =>
      obtain ⟨e1, e2⟩ := barC_none hv hbo
      rw [e1, e2] at hb
      repeat ((conv => whnf); first | refine Exists.intro _ (And.intro rfl ?_) | refine br_t (by omega) ?_ | refine fun (K' : K3) hK' => ?_ | (refine hK' _ _ _ ?_; clear hK' K') | refine CallK.cellsE (R := []) hb (by kernel_rfl) rfl (by simp [V.wf, A.wf, C.wf]) ⟨roE_ints (l := 0) rfl (by omega) rfl (.inl rfl), trivial⟩ rfl ?_ | refine CallK.m ?_)
      intro ρ; rfl
    | some q =>
      obtain ⟨l, w⟩ := q
      obtain ⟨e1, e2⟩ := barC_some hv hbo
      rw [e1, e2] at hb
      obtain ⟨g1, g2, _, g4⟩ := bar_is hok hbo
      have hco := rcostOf_spec W H cs (cellsL W l) hl (by have := g1.len.2; omega)
      rw [hv, isBar_iff.2 g1, g2] at hco
      have hco : Spec Try.prog 40 [chR W H cs.length, V.c (.sl 1 (cellsL W l).length)] [⟨0, .ro 0, cs.map C.i⟩, ⟨1, .ro 2, cellC (cellsL W l)⟩] 2 (Is (V.tup [A.c (C.i w.1), A.c (C.i 0)])) := hco
      repeat ((conv => whnf); first | refine Exists.intro _ (And.intro rfl ?_) | refine br_f (by omega) ?_ | refine fun (K' : K3) hK' => ?_ | (refine hK' _ _ _ ?_; clear hK' K') | refine CallK.cellsE (R := []) hb (by kernel_rfl) rfl (by simp [V.wf, A.wf, C.wf]) ⟨roE_ints (l := 0) rfl (by omega) rfl (.inl rfl), trivial⟩ rfl ?_ | refine CallK.val (R := [(1, some 2)]) hco (by kernel_rfl) rfl (by simp [V.wf, A.wf, C.wf]) ⟨roE_ints (l := 0) rfl (by omega) rfl (.inl rfl), roE_cells (l := 2) rfl (by omega) rfl (.inr rfl), trivial⟩ rfl rfl (by simp [V.wf, A.wf, C.wf]) ?_ | refine CallK.m ?_)
      intro ρ; rfl
def sameB (a b : List Cell) : Bool := decide (a.length = b.length) && (List.range a.length).all fun k => decide (a.getD k cz = b.getD k cz)
/-- Lists that are the same. -/
theorem sameC_spec (a : List Cell) (hl : a.length ≤ 300) : Spec Try.prog 22 [V.c (.sl 0 a.length), V.c (.sl 1 a.length)] [⟨0, .ro 0, cellC a⟩, ⟨1, .ro 0, cellC a⟩] 2 (Is (V.c (.bool true))) := by
  have hcl := cellC_len a
  refine Spec.of tok Try.func22 rfl rfl rfl fun n0 cx => vc_ok tok ?_
  repeat ((conv => whnf); first | refine br_f (by omega) ?_ | refine fun (K' : K3) hK' => ?_ | (refine hK' _ _ _ ?_; clear hK' K'))
  refine Tri.loop (γ := Nat) (fun k => k ≤ a.length) (fun k => [(0, V.c (.sl 0 a.length)), (1, V.c (.sl 1 a.length)), (12, V.i a.length), (13, V.i (k : Nat))]) (fun k => [⟨0, .ro 0, cellC a⟩, ⟨1, .ro 0, cellC a⟩]) 2 (fun k => a.length - k) 0 (R0 := []) ?_ ?_ ?_
  · omega
  · skip
    refine ⟨?_, ?_, rfl, rfl, by exact Nat.le_of_ble_eq_true rfl⟩
    · repeat (first | exact trivial | (refine And.intro (covS_syn (by rfl) rfl (by first | exact trivial | exact Nat.le_of_ble_eq_true rfl)) ?_))
    · repeat (first | exact trivial | refine And.intro (covE_id (Nat.le_of_ble_eq_true rfl) (by first | exact wf_cells _ _) rfl (by rfl)) ?_)
  · intro k hk
    refine vc_ok tok ?_
    by_cases hlt : k < a.length
    · have hld := cellT (l := a) (k := k) rfl hlt
      obtain ⟨p, hp⟩ : ∃ p, p = a.getD k cz := ⟨_, rfl⟩
      rw [← hp] at hld
      repeat ((conv => whnf); first | (refine And.intro (by first | omega | (dsimp only [inK]; omega)) ?_) | with_reducible refine ld (hld) ?_ | refine br_t (by omega) ?_ | refine fun (K' : K3) hK' => ?_ | (refine hK' _ _ _ ?_; clear hK' K') | refine draw_auto tok mixed (by kernel_rfl) ?_ | refine br_bf (by simp) ?_)
      refine ⟨k + 1, [], by omega, by omega, ?_⟩
      refine ⟨?_, ?_, rfl, rfl, by exact Nat.le_of_ble_eq_true rfl⟩
      · repeat (first | exact trivial | (refine And.intro (covS_syn (by rfl) rfl (by first | exact trivial | exact Nat.le_of_ble_eq_true rfl)) ?_))
      · repeat (first | exact trivial | refine And.intro (covE_id (Nat.le_of_ble_eq_true rfl) (by first | exact wf_cells _ _) rfl (by rfl)) ?_)
    · repeat ((conv => whnf); first | refine br_f (by omega) ?_ | refine fun (K' : K3) hK' => ?_ | (refine hK' _ _ _ ?_; clear hK' K'))
      intro ρ; rfl
end Go.Proofs.Ytbhpnhcdjmcaoaa

/- Boom, plain: no barrier is cheaper than the one found. -/
namespace Go.Proofs.Ytbhpnhcdjmcaoaa
open Go.RowKit
set_option linter.unusedVariables false
set_option linter.unusedSimpArgs false
/-- A way of cells down to the last row, over land and booms. -/
def looseL (W H : Int) (cs : List Int) : List Cell → Prop
  | [] => False
  | [p] => onB W H p.1 p.2 = true ∧ ¬ cs.getD (idxU W p).toNat 0 = 0 ∧ p.2 = H - 1
  | p :: q :: r => onB W H p.1 p.2 = true ∧ ¬ cs.getD (idxU W p).toNat 0 = 0 ∧ adj true q p ∧ looseL W H cs (q :: r)
section
variable {W H : Int} {cs : List Int}
theorem looseL_head {p : Cell} {r : List Cell} (h : looseL W H cs (p :: r)) : onB W H p.1 p.2 = true ∧ ¬ cs.getD (idxU W p).toNat 0 = 0 := by
  match r, h with
  | [], h => exact ⟨h.1, h.2.1⟩
  | q :: r, h => exact ⟨h.1, h.2.1⟩
theorem idxU_in (hok : CO W H cs) {p : Cell} (h : onB W H p.1 p.2 = true) : 0 ≤ idxU W p ∧ idxU W p < cs.length ∧ idxU W p / W = p.2 ∧ idxU W p % W = p.1 := by
  have ho := onB_t h
  obtain ⟨e, e1, e2⟩ := idxC_mod h
  have hl := hok.len
  rw [e] at e1 e2
  have h1 : 0 ≤ p.2 * W := Int.mul_nonneg ho.2.1 (by omega)
  have h2 : (p.2 + 1) * W ≤ H * W := Int.mul_le_mul_of_nonneg_right (by omega) (by omega)
  rw [Int.add_mul, Int.mul_comm H W] at h2
  refine ⟨?_, ?_, e2, e1⟩ <;> unfold idxU <;> omega
theorem loose_walk (hok : CO W H cs) : ∀ {l : List Cell}, looseL W H cs l → isWalk (iniB W H cs) (nbR W H cs) (l.map (idxU W))
  | [p], h => by
    have hi := idxU_in hok h.1
    show iniB W H cs (idxU W p) = true
    unfold iniB inR hldI
    rw [dd_t ⟨hi.1, hi.2.1⟩, dd_t h.2.1, dd_t (by rw [hi.2.2.1]; exact h.2.2)]; rfl
  | p :: q :: r, h => by
    have hi := idxU_in hok h.1
    refine ⟨nbR_mk (by unfold inR; rw [dd_t ⟨hi.1, hi.2.1⟩]) (by unfold hldI; rw [dd_t h.2.1]) ?_, loose_walk hok h.2.2.2⟩
    have hq := (looseL_head h.2.2.2).1
    have := (near_iff hq h.1).2 h.2.2.1
    rw [(idxC_mod hq).1, (idxC_mod h.1).1] at this
    exact this
theorem bar_loose {l : List Cell} (hb : BarP W H cs l) : ∀ (m k : Nat), k + m + 1 = l.length → looseL W H cs (l.drop k)
  | 0, k, e => by
    have hk : k < l.length := by omega
    rw [List.drop_eq_getElem_cons hk, List.drop_eq_nil_of_le (by omega)]
    have hg : l.getD k cz = l[k] := by rw [List.getD_eq_getElem?_getD, List.getElem?_eq_getElem hk]; rfl
    have h1 := hb.on k hk
    have h2 := hb.hold k hk
    have h3 := (hb.bot k hk).2 (by omega)
    rw [hg] at h1 h2 h3
    exact ⟨h1, h2, h3⟩
  | m + 1, k, e => by
    have hk : k < l.length := by omega
    have hk1 : k + 1 < l.length := by omega
    have ih := bar_loose hb m (k + 1) (by omega)
    rw [List.drop_eq_getElem_cons hk]
    rw [List.drop_eq_getElem_cons hk1] at ih ⊢
    have hg : l.getD k cz = l[k] := by rw [List.getD_eq_getElem?_getD, List.getElem?_eq_getElem hk]; rfl
    have hg1 : l.getD (k + 1) cz = l[k + 1] := by rw [List.getD_eq_getElem?_getD, List.getElem?_eq_getElem hk1]; rfl
    have h1 := hb.on k hk
    have h2 := hb.hold k hk
    have h3 := hb.adj k hk1
    rw [hg] at h1 h2
    rw [hg, hg1] at h3
    exact ⟨h1, h2, h3, ih⟩
theorem sum_val (W : Int) (cs : List Int) : ∀ l : List Cell, sumC W cs l = (valW (cstI cs) (l.map (idxU W))).1
  | [] => rfl
  | p :: r => by
    have := sum_val W cs r
    unfold sumC sumK at this ⊢
    rw [List.take_length] at this ⊢
    show (cstI cs (idxU W p) :: r.map _).sum = _
    rw [List.sum_cons, this]
    show _ = (addW _ _).1
    simp only [addW]; omega
theorem loose_least (hok : CO W H cs) {p : Cell} {r : List Cell} (h : looseL W H cs (p :: r)) (h0 : p.2 = 0) : ∃ l w, barO W H cs = some (l, w) ∧ w.1 ≤ sumC W cs (p :: r) := by
  have hW := hok.w
  obtain ⟨w0, hw0⟩ : ∃ w0 : Nat, (w0 : Int) = W := ⟨W.toNat, by omega⟩
  have hwt : W.toNat = w0 := by omega
  have ho := onB_t (looseL_head h).1
  obtain ⟨v, hv, hle⟩ := (wayR_opt hok).comp _ _ (loose_walk hok h)
  have hi : idxU W p = p.1 := by unfold idxU; rw [h0]; omega
  have hv' : wayR W H cs ((p.1.toNat : Nat) : Int) = some v := by rw [← hv, hi]; congr 1; omega
  rw [bar_eq hok]
  unfold rbarO
  rw [hwt]
  rcases bestP_spec (wayR W H cs) w0 with ⟨_, g2⟩ | ⟨b, g1, g2, wb, g3, g4, _⟩
  · have := g2 p.1.toNat (by omega)
    rw [this] at hv'; cases hv'
  · rw [g1, g3]
    refine ⟨_, _, rfl, ?_⟩
    have h1 := g4 p.1.toNat (by omega) v hv'
    have h2 := leW_trans h1 hle
    have h3 := sum_val W cs (p :: r)
    have h4 : valW (cstI cs) ((p :: r).map (idxU W)) = valW (cstI cs) (idxU W p :: r.map (idxU W)) := rfl
    rw [h3, h4]
    unfold leW at h2; omega
/-- No barrier is cheaper than the one found. -/
theorem bar_least (hok : CO W H cs) {l : List Cell} (hb : BarP W H cs l) : ∃ l' w, barO W H cs = some (l', w) ∧ w.1 ≤ sumC W cs l := by
  have h1 := hb.len
  have h2 := bar_loose hb (l.length - 1) 0 (by omega)
  have h3 := (hb.top 0 (by omega)).2 rfl
  match l, h2, h3 with
  | p :: r, h2, h3 => exact loose_least hok h2 h3
end
end Go.Proofs.Ytbhpnhcdjmcaoaa

/- Boom, plain: neighbours the other way round. -/
namespace Go.Proofs.Ytbhpnhcdjmcaoaa
open Go.RowKit
set_option linter.unusedVariables false
set_option linter.unusedSimpArgs false
theorem near_symm {W H : Int} {e : Bool} {i k : Int} (hW : 0 < W) (hi : 0 ≤ i) (hn : i < W * H) (h : k ∈ nearL W H e i) : i ∈ nearL W H e k := by
  have hk := near_in hW h
  obtain ⟨a1, a2⟩ := cellI_idx (W := W) (H := H) hW hi hn
  obtain ⟨b1, b2⟩ := cellI_idx (W := W) (H := H) hW hk.1 hk.2
  have e1 : idxC W H (cellI W i) = i := (idxC_mod a1).1.trans a2
  have e2 : idxC W H (cellI W k) = k := (idxC_mod b1).1.trans b2
  rw [← e1, ← e2] at h ⊢
  exact (near_iff a1 b1).2 (adj_symm ((near_iff b1 a1).1 h))
end Go.Proofs.Ytbhpnhcdjmcaoaa

/- Boom, the reference: the greatest heights. -/
namespace Go.Proofs.Ytbhpnhcdjmcaoaa
open Go.RowKit
set_option linter.unusedVariables false
set_option linter.unusedSimpArgs false
/-- The edges as the reference goes over them. -/
def edR (W H : Int) (j : Nat) : List (Int × Int) := (List.range j).flatMap fun i : Nat => (nearL W H true (i : Int)).map fun k => (k, (i : Int))
theorem edR_ok {W H : Int} {cs : List Int} (hok : CO W H cs) {j : Nat} (hj : j ≤ cs.length) : ∀ e ∈ edR W H j, (0 ≤ e.1 ∧ e.1 < cs.length) ∧ (0 ≤ e.2 ∧ e.2 < cs.length) ∧ e.2 ∈ nearL W H true e.1 := fun e he => by
  obtain ⟨i, hi, he⟩ := List.mem_flatMap.1 he
  obtain ⟨k, hk, rfl⟩ := List.mem_map.1 he
  have hi := List.mem_range.1 hi
  have hW : 0 < W := by have := hok.w; omega
  have := near_in hW hk
  have := hok.len
  exact ⟨by simp only; omega, by simp only; omega, near_symm hW (by omega) (by omega) hk⟩
theorem passR_succ (W H : Int) (cs : List Int) (st : List Int × Bool) (j : Nat) : passH cs (edR W H (j + 1)) st = (nearL W H true (j : Int)).foldl (fun st k => relH cs st k (j : Int)) (passH cs (edR W H j) st) := by
  unfold passH edR
  rw [List.range_succ, List.flatMap_append, List.foldl_append]
  simp [List.foldl_map]
theorem edR_all {W H : Int} {cs hs : List Int} (hok : CO W H cs) (h : ∀ e ∈ edR W H cs.length, hldI cs e.1 = true → hldI cs e.2 = true → hL hs e.2 ≤ hL hs e.1 + cstI cs e.2) : Feas W H cs (hL hs) := fun a b a0 a1 ha hb hn => by
  have hW : 0 < W := by have := hok.w; omega
  have hlen := hok.len
  have hbi := near_in hW hn
  refine h (a, b) (List.mem_flatMap.2 ⟨b.toNat, List.mem_range.2 (by omega), List.mem_map.2 ⟨a, ?_, ?_⟩⟩) ha hb
  · rw [show ((b.toNat : Nat) : Int) = b by omega]; exact near_symm hW a0 (by omega) hn
  · rw [show ((b.toNat : Nat) : Int) = b by omega]
set_option maxRecDepth 10000 in
set_option maxHeartbeats 8000000 in
theorem rheights_spec (W H : Int) (cs : List Int) (hl : cs.length ≤ 300) :
    Spec Try.prog 32 [chR W H cs.length] [⟨0, .ro 0, cs.map C.i⟩] 1 (fun v L' _ => intsE (htsO W H cs) (htsE W H cs) v L') := by
  have hlm : (cs.map C.i).length = cs.length := by simp
  have hva := rvalid_spec W H cs hl
  refine Spec.of tok Try.func32 rfl rfl rfl fun n0 cx => vc_ok tok ?_
  cases hv : okC W H cs with
  | false =>
    have e1 : htsO W H cs = [] := by unfold htsO; rw [hv]; rfl
    have e2 : htsE W H cs = 30 := by unfold htsE; rw [hv]; rfl
    rw [e1, e2]
    repeat ((conv => whnf); first | refine Exists.intro _ (And.intro rfl ?_) | refine fun (K' : K3) hK' => ?_ | (refine hK' _ _ _ ?_; clear hK' K') | refine CallK.val (R := []) hva (by kernel_rfl) rfl (by simp [V.wf, A.wf, C.wf]) ⟨roE_ints (l := 0) rfl (by omega) rfl (.inl rfl), trivial⟩ rfl rfl trivial ?_ | refine br_bt (congrArg Bool.not hv) ?_ | refine CallK.m ?_)
    exact .inl ⟨rfl, rfl⟩
  | true =>
    have hok := okC_iff.1 hv
    have e1 : htsO W H cs = hts W H cs := by unfold htsO; rw [hv]; rfl
    have e2 : htsE W H cs = 0 := by unfold htsE; rw [hv]; rfl
    rw [e1, e2]
    have hW := hok.w
    have hH := hok.h
    have hcn := hok.len
    have hn : (cs.length : Int) ≤ 100 := by have := Int.mul_le_mul hW.2 hH.2 (by omega) (by omega : (0:Int) ≤ 10); omega
    have hcb := cst_bd hok.cost
    have hcp : ∀ i, 0 ≤ cstI cs i := fun i => (hcb i).1
    repeat ((conv => whnf); first | (refine And.intro (by first | omega | exact Nat.le_of_ble_eq_true rfl | (dsimp only [inK]; omega)) ?_) | refine Exists.intro _ (And.intro rfl ?_) | refine fun (K' : K3) hK' => ?_ | (refine hK' _ _ _ ?_; clear hK' K') | refine CallK.val (R := []) hva (by kernel_rfl) rfl (by simp [V.wf, A.wf, C.wf]) ⟨roE_ints (l := 0) rfl (by omega) rfl (.inl rfl), trivial⟩ rfl rfl trivial ?_ | refine br_bf (congrArg Bool.not hv) ?_ | refine CallK.m ?_)
    refine Tri.loop (γ := Nat) (fun k => k ≤ cs.length) (fun k => [(1, V.c (.ptr 1 0)), (4, V.c (.sl 2 cs.length)), (20, V.c (.sl 0 cs.length)), (21, V.i cs.length), (22, V.i (k : Nat))])
      (fun k => [⟨2, .vec 3 1, (h0L W cs k).map C.i⟩, ⟨1, .own 24, [C.i W, C.i H, .sl 0 cs.length]⟩, ⟨0, .ro 0, cs.map C.i⟩]) 3 (fun k => cs.length - k) 0 (R0 := []) ?_ ?_ ?_
    · omega
    · skip
      refine ⟨?_, ?_, rfl, rfl, by exact Nat.le_of_ble_eq_true rfl⟩
      · repeat (first | exact trivial | (refine And.intro (covS_syn (by rfl) rfl (by first | exact trivial | exact Nat.le_of_ble_eq_true rfl)) ?_))
      · repeat (first | exact trivial | (refine And.intro (covE_id (Nat.le_of_ble_eq_true rfl) (by first | exact wf_ints _ _ | simp [C.wf]) rfl (by first | rfl | exact h0L_z)) ?_))
    · intro k hk
      refine vc_ok tok ?_
      by_cases hlt : k < cs.length
      · have hhl : hldI cs (k : Int) = decide (cs.getD k 0 ≠ 0) := by simp [hldI]
        have hld := intL hlt
        have hc := rcost_spec W H cs k hlt
        have hh0 : h0I W cs (k : Int) = if hldI cs (k : Int) = false then 0 else if (k : Int) / W = 0 then cstI cs (k : Int) else 1000000 := rfl
        have hrow : (k : Int) / W = 0 ↔ (k : Int) < W := by
          constructor
          · intro h
            have h1 := Int.emod_lt_of_pos (k : Int) (show 0 < W by omega)
            have h2 := Int.mul_ediv_add_emod (k : Int) W
            rw [h] at h2; omega
          · intro h; exact Int.ediv_eq_zero_of_lt (by omega) h
        have hrl := h0L_len W cs k
        obtain ⟨ck, hcke⟩ : ∃ x, x = cs.getD k 0 := ⟨_, rfl⟩
        rw [← hcke] at hld hhl
        obtain ⟨cc, hcc⟩ : ∃ cc, cc = cstI cs (k : Int) := ⟨_, rfl⟩
        rw [← hcc] at hc hh0
        by_cases h1 : ck = 0
        · have hz : h0I W cs (k : Int) = 0 := by rw [hh0, hhl, dd_f (fun h => h h1), if_pos rfl]
          repeat ((conv => whnf); first | (refine And.intro (by first | omega | (dsimp only [inK]; omega)) ?_) | with_reducible refine ld (hld) ?_ | refine br_t (by omega) ?_ | refine fun (K' : K3) hK' => ?_ | (refine hK' _ _ _ ?_; clear hK' K'))
          refine ⟨k + 1, [], by omega, by omega, ?_⟩
          refine ⟨?_, ?_, rfl, rfl, by exact Nat.le_of_ble_eq_true rfl⟩
          · repeat (first | exact trivial | (refine And.intro (covS_syn (by rfl) rfl (by first | exact trivial | exact Nat.le_of_ble_eq_true rfl)) ?_))
          · repeat (first | exact trivial | (refine And.intro (covE_id (Nat.le_of_ble_eq_true rfl) (by first | exact wf_ints _ _ | simp [C.wf]) rfl (by first | rfl | rw [h0L_keep hlt hz])) ?_))
        · rw [hhl, dd_t h1, if_neg (by simp)] at hh0
          by_cases h2 : (k : Int) < W
          · have hst : setL ((h0L W cs k).map C.i) (mulS ((k : Nat) : Int).toNat 1) [C.i cc] = (h0L W cs (k + 1)).map C.i := by
              rw [setL_int rfl, ← h0L_put hlt, hh0, if_pos (hrow.2 h2)]
            repeat ((conv => whnf); first | (refine And.intro (by first | omega | exact Nat.le_of_ble_eq_true rfl | (dsimp only [inK]; omega) | (simp only [setL_length, List.length_map]; omega)) ?_) | with_reducible refine ld (hld) ?_ | refine Exists.intro _ (And.intro rfl ?_) | refine br_t (by omega) ?_ | refine br_f (by omega) ?_ | refine fun (K' : K3) hK' => ?_ | (refine hK' _ _ _ ?_; clear hK' K') | refine CallK.val (R := []) hc (by kernel_rfl) rfl (by simp [V.wf, A.wf, C.wf]) ⟨roE_ints (l := 0) rfl (by omega) rfl (.inl rfl), trivial⟩ rfl rfl trivial ?_ | (refine And.intro (by (try dsimp only); rw [mulS_eq]; simp only [List.length_map, Int.toNat_natCast]; omega) ?_) | refine CallK.m ?_)
            refine ⟨k + 1, [], by omega, by omega, ?_⟩
            refine ⟨?_, ?_, rfl, rfl, by exact Nat.le_of_ble_eq_true rfl⟩
            · repeat (first | exact trivial | (refine And.intro (covS_syn (by rfl) rfl (by first | exact trivial | exact Nat.le_of_ble_eq_true rfl)) ?_))
            · repeat (first | exact trivial | (refine And.intro (covE_id (Nat.le_of_ble_eq_true rfl) (by first | exact wf_ints _ _ | simp [C.wf]) rfl (by first | rfl | exact hst)) ?_))
          · have hst : setL ((h0L W cs k).map C.i) (mulS ((k : Nat) : Int).toNat 1) [C.i 1000000] = (h0L W cs (k + 1)).map C.i := by
              rw [setL_int rfl, ← h0L_put hlt, hh0, if_neg (fun h => h2 (hrow.1 h))]
            repeat ((conv => whnf); first | (refine And.intro (by first | omega | exact Nat.le_of_ble_eq_true rfl | (dsimp only [inK]; omega) | (simp only [setL_length, List.length_map]; omega)) ?_) | with_reducible refine ld (hld) ?_ | refine Exists.intro _ (And.intro rfl ?_) | refine br_t (by omega) ?_ | refine br_f (by omega) ?_ | refine fun (K' : K3) hK' => ?_ | (refine hK' _ _ _ ?_; clear hK' K') | (refine And.intro (by (try dsimp only); rw [mulS_eq]; simp only [List.length_map, Int.toNat_natCast]; omega) ?_))
            refine ⟨k + 1, [], by omega, by omega, ?_⟩
            refine ⟨?_, ?_, rfl, rfl, by exact Nat.le_of_ble_eq_true rfl⟩
            · repeat (first | exact trivial | (refine And.intro (covS_syn (by rfl) rfl (by first | exact trivial | exact Nat.le_of_ble_eq_true rfl)) ?_))
            · repeat (first | exact trivial | (refine And.intro (covE_id (Nat.le_of_ble_eq_true rfl) (by first | exact wf_ints _ _ | simp [C.wf]) rfl (by first | rfl | exact hst)) ?_))
      · have hkn : k = cs.length := by omega
        subst hkn
        repeat ((conv => whnf); first | refine br_f (by omega) ?_ | refine fun (K' : K3) hK' => ?_ | (refine hK' _ _ _ ?_; clear hK' K'))
        refine Tri.loop (γ := List Int × Bool) (fun g => HSt W H cs g.1 ∧ (g.2 = false → Great W H cs g.1)) (fun g => [(1, V.c (.ptr 1 0)), (4, V.c (.sl 2 cs.length)), (7, V.c (.bool g.2))])
          (fun g => [⟨2, .vec 3 1, g.1.map C.i⟩, ⟨1, .own 24, [C.i W, C.i H, .sl 0 cs.length]⟩, ⟨0, .ro 0, cs.map C.i⟩]) 3 (fun g => (sumH g.1).toNat + (if g.2 then 1 else 0)) (h0L W cs cs.length, true) (R0 := []) ?_ ?_ ?_
        · exact ⟨h0_st hcp, fun h => by cases h⟩
        · skip
          refine ⟨?_, ?_, rfl, rfl, by exact Nat.le_of_ble_eq_true rfl⟩
          · repeat (first | exact trivial | refine And.intro (covS_syn (by rfl) rfl (by exact Nat.le_of_ble_eq_true rfl)) ?_ | refine And.intro (covS_bool rfl rfl (by rfl)) ?_)
          · repeat (first | exact trivial | (refine And.intro (covE_id (Nat.le_of_ble_eq_true rfl) (by first | exact wf_ints _ _ | simp [C.wf]) rfl (by rfl)) ?_))
        · rintro ⟨hs, b⟩ ⟨hst, hgr⟩
          simp only at hst hgr ⊢
          refine vc_ok tok ?_
          cases b with
          | false =>
            have hg := (hgr rfl).hts
            have hgl := hst.len
            repeat ((conv => whnf); first | refine Exists.intro _ (And.intro rfl ?_) | refine fun (K' : K3) hK' => ?_ | (refine hK' _ _ _ ?_; clear hK' K') | refine br_bf (Eq.refl false) ?_)
            rw [hg]
            exact .inr ⟨2, by rw [hgl], rfl⟩
          | true =>
            obtain ⟨ps, hps⟩ : ∃ ps : Nat → List Int × Bool, ps = fun j => passH cs (edR W H j) (hs, false) := ⟨_, rfl⟩
            have hps0 : ps 0 = (hs, false) := by rw [hps]; rfl
            have hpss : ∀ j, ps (j + 1) = (nearL W H true (j : Int)).foldl (fun st k => relH cs st k (j : Int)) (ps j) := fun j => by rw [hps]; exact passR_succ W H cs _ j
            have hpsg : ∀ j, j ≤ cs.length → HGo W H cs (hs, false) (ps j) := fun j hj => by rw [hps]; exact passH_go hcp _ (edR_ok hok hj)
            have hpse : (ps cs.length).2 = false → ps cs.length = (hs, false) ∧ Great W H cs hs := fun h => by
              rw [hps] at h ⊢
              obtain ⟨q1, q2⟩ := passH_ok hcp (edR_ok hok (Nat.le_refl _)) h
              exact ⟨q1, hst.great (edR_all hok q2)⟩
            clear hps hgr
            repeat ((conv => whnf); first | (refine And.intro (by first | omega | exact Nat.le_of_ble_eq_true rfl) ?_) | refine Exists.intro _ (And.intro rfl ?_) | refine fun (K' : K3) hK' => ?_ | (refine hK' _ _ _ ?_; clear hK' K') | refine br_bt (Eq.refl true) ?_)
            refine Tri.loop (γ := Nat) (fun j => j ≤ cs.length) (fun j => [(1, V.c (.ptr 1 0)), (4, V.c (.sl 2 cs.length)), (7, V.c (.bool (ps j).2)), (47, V.c (.sl 0 cs.length)), (48, V.i cs.length), (49, V.i (j : Nat))])
              (fun j => [⟨2, .vec 3 1, (ps j).1.map C.i⟩, ⟨1, .own 24, [C.i W, C.i H, .sl 0 cs.length]⟩, ⟨0, .ro 0, cs.map C.i⟩]) 3 (fun j => cs.length - j) 0 (R0 := []) ?_ ?_ ?_
            · omega
            · skip
              refine ⟨?_, ?_, rfl, rfl, by exact Nat.le_of_ble_eq_true rfl⟩
              · repeat (first | exact trivial | (refine And.intro (covS_syn (by rfl) rfl (by first | exact trivial | exact Nat.le_of_ble_eq_true rfl)) ?_) | refine And.intro (covS_bool rfl rfl (by exact (congrArg Prod.snd hps0).symm)) ?_)
              · repeat (first | exact trivial | (refine And.intro (covE_id (Nat.le_of_ble_eq_true rfl) (by first | exact wf_ints _ _ | simp [C.wf]) rfl (by first | rfl | exact congrArg (fun x : List Int × Bool => x.1.map C.i) hps0.symm)) ?_))
            · intro j hj
              refine vc_ok tok ?_
              by_cases hlt : j < cs.length
              · have hbe := beside_spec W H cs.length (j : Int) true (by omega) (by omega) (by omega)
                have hne := fun x (hx : x ∈ nearL W H true (j : Int)) => near_in (W := W) (by omega) hx
                have hsy := fun x (hx : x ∈ nearL W H true (j : Int)) => near_symm (W := W) (by omega) (by omega) (by omega) hx
                have hlen := near_len W H true (j : Int)
                have hldj := intL hlt
                have hrc := rcost_spec W H cs j hlt
                have hhj : hldI cs (j : Int) = decide (cs.getD j 0 ≠ 0) := by simp [hldI]
                have hcn := hcb (j : Int)
                have hsj := (hpsg j hj).ok hst
                obtain ⟨cj, hcj⟩ : ∃ cj, cj = cs.getD j 0 := ⟨_, rfl⟩
                rw [← hcj] at hldj hhj
                obtain ⟨nl, hnl⟩ : ∃ nl, nl = nearL W H true (j : Int) := ⟨_, rfl⟩
                obtain ⟨fs, hfs⟩ : ∃ fs : Nat → List Int × Bool, fs = fun m => (nl.take m).foldl (fun st k => relH cs st k (j : Int)) (ps j) := ⟨_, rfl⟩
                have hfs0 : fs 0 = ps j := by rw [hfs]; rfl
                have hfsn : fs nl.length = ps (j + 1) := by rw [hfs]; simp only [List.take_length]; rw [hnl, hpss]
                have hfss : ∀ m, m < nl.length → fs (m + 1) = relH cs (fs m) (nl.getD m 0) (j : Int) := fun m hm => by rw [hfs]; exact foldl_take _ _ _ hm
                rw [← hnl] at hbe hne hlen hsy
                clear hfs hpss hpse hcj
                repeat ((conv => whnf); first | (refine And.intro (by first | omega | (dsimp only [inK]; omega)) ?_) | with_reducible refine ld (hldj) ?_ | refine Exists.intro _ (And.intro rfl ?_) | refine br_t (by omega) ?_ | refine fun (K' : K3) hK' => ?_ | (refine hK' _ _ _ ?_; clear hK' K') | refine CallK.den (vs := [V.agg [C.i W, C.i H, C.sl 0 cs.length], V.i (j : Int), V.c (.bool true)]) (fun ρ => rfl) (by simp [V.wf, A.wf, C.wf]) (CallK.intsR (R := []) hbe (by kernel_rfl) rfl (by simp [V.wf, A.wf, C.wf]) trivial rfl ?_) | refine CallK.m ?_)
                refine Tri.loop (γ := Nat) (fun m => m ≤ nl.length ∧ HSt W H cs (fs m).1) (fun m => [(1, V.c (.ptr 1 0)), (4, V.c (.sl 2 cs.length)), (7, V.c (.bool (fs m).2)), (8, V.i (j : Int)), (9, V.i cj), (47, V.c (.sl 0 cs.length)), (48, V.i cs.length), (49, V.i (j : Nat)), (56, V.c (.sl 3 nl.length)), (57, V.i nl.length), (58, V.i (m : Nat))])
                  (fun m => [⟨3, .vec 3 1, nl.map C.i⟩, ⟨2, .vec 3 1, (fs m).1.map C.i⟩, ⟨1, .own 24, [C.i W, C.i H, .sl 0 cs.length]⟩, ⟨0, .ro 0, cs.map C.i⟩]) 4 (fun m => nl.length - m) 0 (R0 := []) ?_ ?_ ?_
                · exact ⟨by omega, by rw [hfs0]; exact hsj⟩
                · skip
                  refine ⟨?_, ?_, rfl, rfl, by exact Nat.le_of_ble_eq_true rfl⟩
                  · repeat (first | exact trivial | (refine And.intro (covS_syn (by rfl) rfl (by first | exact trivial | exact Nat.le_of_ble_eq_true rfl)) ?_) | refine And.intro (covS_bool rfl rfl (by exact (congrArg Prod.snd hfs0).symm)) ?_)
                  · repeat (first | exact trivial | (refine And.intro (covE_id (Nat.le_of_ble_eq_true rfl) (by first | exact wf_ints _ _ | simp [C.wf]) rfl (by first | rfl | exact congrArg (fun x : List Int × Bool => x.1.map C.i) hfs0.symm)) ?_))
                · rintro m ⟨hm, hI⟩
                  refine vc_ok tok ?_
                  by_cases hml : m < nl.length
                  · have hstep := hfss m hml
                    have hldm := intL hml
                    have hkm := getD_mem hml
                    have hkk := hne _ hkm
                    have hks := hsy _ hkm
                    obtain ⟨k, hke⟩ : ∃ k : Nat, (k : Int) = nl.getD m 0 := ⟨(nl.getD m 0).toNat, by omega⟩
                    rw [← hke] at hstep hldm hkk hks
                    have hkl : k < cs.length := by omega
                    have hgo := (relH_go (W := W) (H := H) hcp (a := (k : Int)) (b := (j : Int)) (by omega) (by omega) hks (fs m)).ok hI
                    rw [← hstep] at hgo
                    have hldk := intL hkl
                    have hhk : hldI cs (k : Int) = decide (cs.getD k 0 ≠ 0) := by simp [hldI]
                    obtain ⟨ck, hck⟩ : ∃ ck, ck = cs.getD k 0 := ⟨_, rfl⟩
                    rw [← hck] at hldk hhk
                    have hfl := hI.len
                    have hpk := hI.pos k (by omega) (by omega)
                    have hpj := hI.pos j (by omega) (by omega)
                    have hbk := hI.le k (by omega) (by omega)
                    have hb0 : ∀ i, h0I W cs i ≤ 1000000 := fun i => by unfold h0I; have := hcb i; split; omega; split <;> omega
                    have hb0k := hb0 k
                    have hlxj := intL (l := (fs m).1) (k := j) (by omega)
                    have hlxk := intL (l := (fs m).1) (k := k) (by omega)
                    have hej : (fs m).1.getD j 0 = hL (fs m).1 (j : Int) := by unfold hL; rw [Int.toNat_natCast]
                    have hek : (fs m).1.getD k 0 = hL (fs m).1 (k : Int) := by unfold hL; rw [Int.toNat_natCast]
                    rw [hej] at hlxj
                    rw [hek] at hlxk
                    have hno := relH_no (cs := cs) (st := fs m) (a := (k : Int)) (b := (j : Int))
                    have hyes := relH_yes (cs := cs) (st := fs m) (a := (k : Int)) (b := (j : Int))
                    rw [← hstep] at hno hyes
                    rw [hhk, hhj] at hno hyes
                    obtain ⟨cc, hcc⟩ : ∃ cc, cc = cstI cs (j : Int) := ⟨_, rfl⟩
                    have hrc' := hrc
                    have hcn' := hcn
                    rw [← hcc] at hrc' hcn' hno hyes
                    obtain ⟨xj, hxj⟩ : ∃ x, x = hL (fs m).1 (j : Int) := ⟨_, rfl⟩
                    obtain ⟨xk, hxk⟩ : ∃ x, x = hL (fs m).1 (k : Int) := ⟨_, rfl⟩
                    rw [← hxj] at hlxj hpj hno hyes
                    rw [← hxk] at hlxk hpk hbk hno hyes
                    obtain ⟨fn, hfn⟩ : ∃ fn, fn = fs (m + 1) := ⟨_, rfl⟩
                    obtain ⟨fb, hfb⟩ : ∃ fb, fb = fs m := ⟨_, rfl⟩
                    rw [← hfb, ← hfn] at hno hyes
                    rw [← hfb] at hlxj hlxk hfl
                    rw [← hfn] at hgo
                    rw [← hfb]
                    by_cases h1 : cj ≠ 0
                    · by_cases h2 : ck ≠ 0
                      · by_cases h3 : xk + cc < xj
                        · have e := hyes (dd_t h2) (dd_t h1) h3
                          have hcell : setL (fb.1.map C.i) (mulS ((j : Nat) : Int).toNat 1) [C.i (xk + cc)] = fn.1.map C.i := by rw [setL_int rfl, e, Int.toNat_natCast]
                          repeat ((conv => whnf); first | (refine And.intro (by first | omega | exact Nat.le_of_ble_eq_true rfl | (dsimp only [inK]; omega) | (simp only [setL_length, List.length_map]; omega)) ?_) | with_reducible refine ld (hldm) ?_ | with_reducible refine ld (hldk) ?_ | with_reducible refine ld (hlxj) ?_ | with_reducible refine ld (hlxk) ?_ | refine Exists.intro _ (And.intro rfl ?_) | refine br_t (by omega) ?_ | refine fun (K' : K3) hK' => ?_ | (refine hK' _ _ _ ?_; clear hK' K') | refine draw_auto tok mixed (by kernel_rfl) ?_ | refine HD_mk (fun _ h => CallK.val (R := []) hrc' (by kernel_rfl) rfl (by simp [V.wf, A.wf, C.wf]) ⟨roE_ints (l := 0) rfl (by omega) rfl (.inl rfl), trivial⟩ rfl rfl trivial h) ?_ | (refine And.intro (by (try dsimp only); rw [mulS_eq]; simp only [List.length_map, Int.toNat_natCast]; omega) ?_))
                          refine ⟨m + 1, [], ⟨by omega, by rw [← hfn]; exact hgo⟩, by omega, ?_⟩
                          rw [← hfn]
                          refine ⟨?_, ?_, rfl, rfl, by exact Nat.le_of_ble_eq_true rfl⟩
                          · repeat (first | exact trivial | (refine And.intro (covS_syn (by rfl) rfl (by first | exact trivial | exact Nat.le_of_ble_eq_true rfl)) ?_) | refine And.intro (covS_bool rfl rfl (by exact (congrArg Prod.snd e).symm)) ?_)
                          · repeat (first | exact trivial | (refine And.intro (covE_id (Nat.le_of_ble_eq_true rfl) (by first | exact wf_ints _ _ | simp [C.wf]) rfl (by first | rfl | exact hcell)) ?_))
                        · have e := hno (.inr (.inr h3))
                          repeat ((conv => whnf); first | (refine And.intro (by first | omega | exact Nat.le_of_ble_eq_true rfl | (dsimp only [inK]; omega) | (simp only [setL_length, List.length_map]; omega)) ?_) | with_reducible refine ld (hldm) ?_ | with_reducible refine ld (hldk) ?_ | with_reducible refine ld (hlxj) ?_ | with_reducible refine ld (hlxk) ?_ | refine Exists.intro _ (And.intro rfl ?_) | refine br_t (by omega) ?_ | refine br_f (by omega) ?_ | refine fun (K' : K3) hK' => ?_ | (refine hK' _ _ _ ?_; clear hK' K') | refine draw_auto tok mixed (by kernel_rfl) ?_ | refine HD_mk (fun _ h => CallK.val (R := []) hrc' (by kernel_rfl) rfl (by simp [V.wf, A.wf, C.wf]) ⟨roE_ints (l := 0) rfl (by omega) rfl (.inl rfl), trivial⟩ rfl rfl trivial h) ?_)
                          refine ⟨m + 1, [], ⟨by omega, by rw [← hfn]; exact hgo⟩, by omega, ?_⟩
                          rw [← hfn]
                          refine ⟨?_, ?_, rfl, rfl, by exact Nat.le_of_ble_eq_true rfl⟩
                          · repeat (first | exact trivial | (refine And.intro (covS_syn (by rfl) rfl (by first | exact trivial | exact Nat.le_of_ble_eq_true rfl)) ?_) | refine And.intro (covS_bool rfl rfl (by exact (congrArg Prod.snd e).symm)) ?_)
                          · repeat (first | exact trivial | (refine And.intro (covE_id (Nat.le_of_ble_eq_true rfl) (by first | exact wf_ints _ _ | simp [C.wf]) rfl (by first | rfl | exact congrArg (fun x : List Int × Bool => x.1.map C.i) e.symm)) ?_))
                      · have e := hno (.inl (dd_f h2))
                        repeat ((conv => whnf); first | (refine And.intro (by first | omega | exact Nat.le_of_ble_eq_true rfl | (dsimp only [inK]; omega) | (simp only [setL_length, List.length_map]; omega)) ?_) | with_reducible refine ld (hldm) ?_ | with_reducible refine ld (hldk) ?_ | refine Exists.intro _ (And.intro rfl ?_) | refine br_t (by omega) ?_ | refine br_f (by omega) ?_ | refine fun (K' : K3) hK' => ?_ | (refine hK' _ _ _ ?_; clear hK' K') | refine draw_auto tok mixed (by kernel_rfl) ?_)
                        refine ⟨m + 1, [], ⟨by omega, by rw [← hfn]; exact hgo⟩, by omega, ?_⟩
                        rw [← hfn]
                        refine ⟨?_, ?_, rfl, rfl, by exact Nat.le_of_ble_eq_true rfl⟩
                        · repeat (first | exact trivial | (refine And.intro (covS_syn (by rfl) rfl (by first | exact trivial | exact Nat.le_of_ble_eq_true rfl)) ?_) | refine And.intro (covS_bool rfl rfl (by exact (congrArg Prod.snd e).symm)) ?_)
                        · repeat (first | exact trivial | (refine And.intro (covE_id (Nat.le_of_ble_eq_true rfl) (by first | exact wf_ints _ _ | simp [C.wf]) rfl (by first | rfl | exact congrArg (fun x : List Int × Bool => x.1.map C.i) e.symm)) ?_))
                    · have e := hno (.inr (.inl (dd_f h1)))
                      repeat ((conv => whnf); first | (refine And.intro (by first | omega | (dsimp only [inK]; omega) | (simp only [setL_length, List.length_map]; omega)) ?_) | with_reducible refine ld (hldm) ?_ | refine br_t (by omega) ?_ | refine br_f (by omega) ?_ | refine fun (K' : K3) hK' => ?_ | (refine hK' _ _ _ ?_; clear hK' K') | refine draw_auto tok mixed (by kernel_rfl) ?_)
                      refine ⟨m + 1, [], ⟨by omega, by rw [← hfn]; exact hgo⟩, by omega, ?_⟩
                      rw [← hfn]
                      refine ⟨?_, ?_, rfl, rfl, by exact Nat.le_of_ble_eq_true rfl⟩
                      · repeat (first | exact trivial | (refine And.intro (covS_syn (by rfl) rfl (by first | exact trivial | exact Nat.le_of_ble_eq_true rfl)) ?_) | refine And.intro (covS_bool rfl rfl (by exact (congrArg Prod.snd e).symm)) ?_)
                      · repeat (first | exact trivial | (refine And.intro (covE_id (Nat.le_of_ble_eq_true rfl) (by first | exact wf_ints _ _ | simp [C.wf]) rfl (by first | rfl | exact congrArg (fun x : List Int × Bool => x.1.map C.i) e.symm)) ?_))
                  · have hme : m = nl.length := by omega
                    subst hme
                    repeat ((conv => whnf); first | (refine And.intro (by first | omega | (dsimp only [inK]; omega)) ?_) | refine br_f (by omega) ?_ | refine fun (K' : K3) hK' => ?_ | (refine hK' _ _ _ ?_; clear hK' K'))
                    refine ⟨j + 1, [], by omega, by omega, ?_⟩
                    refine ⟨?_, ?_, rfl, rfl, by exact Nat.le_of_ble_eq_true rfl⟩
                    · repeat (first | exact trivial | (refine And.intro (covS_syn (by rfl) rfl (by first | exact trivial | exact Nat.le_of_ble_eq_true rfl)) ?_) | refine And.intro (covS_bool rfl rfl (by exact congrArg Prod.snd hfsn)) ?_)
                    · repeat (first | exact trivial | (refine And.intro (covE_id (Nat.le_of_ble_eq_true rfl) (by first | exact wf_ints _ _ | simp [C.wf]) rfl (by first | rfl | exact congrArg (fun x : List Int × Bool => x.1.map C.i) hfsn)) ?_))
              · have hkn : j = cs.length := by omega
                subst hkn
                repeat ((conv => whnf); first | refine br_f (by omega) ?_ | refine fun (K' : K3) hK' => ?_ | (refine hK' _ _ _ ?_; clear hK' K'))
                have hgo := hpsg cs.length (Nat.le_refl _)
                refine ⟨(ps cs.length), [], ⟨hgo.ok hst, fun h => by obtain ⟨q1, q2⟩ := hpse h; rw [q1]; exact q2⟩, ?_, ?_⟩
                · have hp0 := hst.sum
                  have hp1 := (hgo.ok hst).sum
                  cases hb : (ps cs.length).2 with
                  | false => rw [(hpse hb).1]; simp
                  | true =>
                    rcases hgo.less hst hb with ⟨h, _⟩ | h
                    · cases h
                    · simp only [sumH] at *; simp only [if_true]; omega
                · skip
                  refine ⟨?_, ?_, rfl, rfl, by exact Nat.le_of_ble_eq_true rfl⟩
                  · repeat (first | exact trivial | (refine And.intro (covS_syn (by rfl) rfl (by first | exact trivial | exact Nat.le_of_ble_eq_true rfl)) ?_))
                  · repeat (first | exact trivial | (refine And.intro (covE_id (Nat.le_of_ble_eq_true rfl) (by first | exact wf_ints _ _ | simp [C.wf]) rfl (by rfl)) ?_))
end Go.Proofs.Ytbhpnhcdjmcaoaa

/- Boom: a range over the neighbours of a cell of a chart whose booms lie anywhere. -/
namespace Go.Proofs.Ytbhpnhcdjmcaoaa
open Go.RowKit
set_option linter.unusedVariables false
set_option linter.unusedSimpArgs false
/-- What lies there within the range: the cell, the record, what the neighbours were asked with, and the caller's. -/
abbrev ownNM (ml : Nat) (W H : Int) (n : Nat) (i : Int) (e : Bool) (oo : Obj) (L : List E) : List E :=
  ⟨40, .own 57, [C.i (i % W), C.i (i / W)]⟩ :: ⟨16, .obj oo, []⟩ :: ⟨15, .own 4, [.bool e]⟩ :: ⟨14, .own 3, [C.i i]⟩ :: ⟨13, .own 65, [C.i W, C.i H, .sl 0 n, .mp ml]⟩ :: L
abbrev ownSM (ml : Nat) (W H : Int) (n : Nat) (i : Int) (e : Bool) (oo : Obj) (L : List E) : List E :=
  ⟨16, .obj oo, []⟩ :: ⟨15, .own 4, [.bool e]⟩ :: ⟨14, .own 3, [C.i i]⟩ :: ⟨13, .own 65, [C.i W, C.i H, .sl 0 n, .mp ml]⟩ :: L
theorem MOK.ownM {ml : Nat} {W H : Int} {n : Nat} {i : Int} {e : Bool} {oo : Obj} {L : List E} (h : MOK 40 (ownSM ml W H n i e oo L)) : MOK 41 (ownNM ml W H n i e oo L) := by
  refine ⟨fun x hx => ?_, ?_⟩
  · rcases List.mem_cons.1 hx with rfl | hx
    · exact ⟨by show 40 < 41; omega, fun c hc => by simp only [List.mem_cons, List.not_mem_nil, or_false] at hc; rcases hc with rfl | rfl <;> trivial⟩
    · have := h.1 x hx; exact ⟨by omega, fun c hc => C.wf_mono (by omega) (this.2 c hc)⟩
  · show injB [] (_ :: ownSM ml W H n i e oo L) = true
    rw [injB, Bool.and_eq_true]
    refine ⟨List.all_eq_true.2 fun x hx => ?_, h.2⟩
    have h1 : x.lab < 40 := (h.1 x hx).1
    have h2 : Nat.beq x.lab 40 = false := by
      cases hb : Nat.beq x.lab 40 with
      | false => rfl
      | true => have := Nat.eq_of_beq_eq_true hb; omega
    have h3 : Nat.beq 40 x.lab = false := by
      cases hb : Nat.beq 40 x.lab with
      | false => rfl
      | true => have := Nat.eq_of_beq_eq_true hb; omega
    simp only [renL, h2, h3]; rfl
set_option maxRecDepth 10000 in
set_option maxHeartbeats 4000000 in
theorem Tri.nearM {n0 : Nat} {cx : Cx} {N na : Nat} {ml : Nat} {W H : Int} {n : Nat} {i : Int} {e : Bool} {g : Operand} {ps : Array Tmp} {asg bd : Code} {K : Kt} {s : S} {Ls : List E} {R0 : Rn} (I : List Int → Prop) (L' : List Int → List E) (hI0 : I [])
    (hW : 0 < W ∧ W ≤ 10) (hH : 0 < H ∧ H ≤ 10) (hi : 0 ≤ i ∧ i ≤ 1000)
    (hg : ev s g = some (V.c (.fn 104 [(13, 0), (14, 0), (15, 0)]))) (hps : (ps.toList.all fun p => Nat.blt p N) = true) (hp1 : ps.toList.length = 1)
    (h0 : ∀ oo : Obj, Enter R0 17 40 [] (⟨16, .obj oo, []⟩ :: Ls) [] (ownSM ml W H n i e oo (L' [])))
    (body : ∀ (oo ob : Obj) (od : Code → Obj) (pre post : List Int) (k : Int), nearL W H e i = pre ++ k :: post → 0 ≤ k → k < W * H → I pre →
      Rnd Try.prog n0 cx N s ps asg bd 16 oo ob od [V.i k] (ownNM ml W H n i e oo (L' pre)) 41 (fun v L2 nx2 => (v = V.c .tt ∧ I (pre ++ [k]) ∧ ∃ R, renL R 40 = some 40 ∧ Enter R 17 41 [] L2 [] (ownNM ml W H n i e oo (L' (pre ++ [k])))) ∨ (v = V.c .ff ∧ EndK 16 oo od K s L2 nx2)))
    (hend : ∀ (oo : Obj) (od : Code → Obj), I (nearL W H e i) → EndK 16 oo od K s (ownNM ml W H n i e oo (L' (nearL W H e i))) 41) :
    Tri Try.prog n0 cx N na (.rangeFunc g ps asg bd) K s Ls 16 := by
  refine Tri.rangeFunc tok hg (by kernel_rfl) (by exact rfl) (by exact rfl) (by exact rfl) (by exact rfl) (by exact rfl) hps ?_
  intro y cxi oo ob od hy hY
  have hfix : ∀ {R : Rn} {l : Nat}, fixB R 17 = true → l < 17 → renL R l = some l := fun h hl => fixB_spec h hl
  have hptr : ∀ {R : Rn} {l o : Nat}, renL R l = some l → V.ren R (V.c (.ptr l o)) = some (V.c (.ptr l o)) := fun {R l o} h => by simp only [V.ren, A.ren, C.ren, V.c, h]
  have hE0 := h0 oo
  refine Tri.enter (R := R0) (nx' := 40) (s' := enterS (V.c (.v y) :: [(13, 0), (14, 0), (15, 0)].map ptrV) 0) (L' := ownSM ml W H n i e oo (L' [])) ?_ ⟨?_, hE0.l, hE0.inj, hE0.fix, hE0.na⟩
  rotate_left
  · refine And.intro (covS_syn rfl rfl hy) (And.intro (covS_syn (hptr (hfix hE0.fix (by omega))).symm rfl (by show 13 < 40; omega)) (And.intro (covS_syn (hptr (hfix hE0.fix (by omega))).symm rfl (by show 14 < 40; omega)) (And.intro (covS_syn (hptr (hfix hE0.fix (by omega))).symm rfl (by show 15 < 40; omega)) trivial)))
  have hm0 : MOK 41 (ownNM ml W H n i e oo (L' [])) := hE0.mok.ownM
  have hx0 : 0 ≤ i % W := Int.emod_nonneg _ (by omega)
  have hx1 : i % W < W := Int.emod_lt_of_pos _ (by omega)
  have hy0 : 0 ≤ i / W := Int.ediv_nonneg hi.1 (by omega)
  have hy1 : i / W ≤ 1000 := Int.le_trans (Int.ediv_le_self _ hi.1) (by omega)
  have hWH : W * H ≤ 100 := by have := Int.mul_le_mul hW.2 hH.2 (by omega) (by omega : (0:Int) ≤ 10); omega
  have hno : ∀ x ∈ L' [], x.lab ≠ 40 := fun x hx => by have := (hE0.mok.1 x (by simp [hx])).1; omega
  clear h0 hE0
  refine vc_ok tok ?_
  repeat ((conv => whnf); first | (refine And.intro (by first | omega | exact Nat.le_of_ble_eq_true rfl) ?_) | refine Exists.intro _ (And.intro rfl ?_) | refine fun (K' : K3) hK' => ?_ | (refine hK' _ _ _ ?_; clear hK' K') | refine CallK.val (R := [(1, some ml)]) (cell_spec W H n i (by omega) (by omega) (by omega)) (by kernel_rfl) rfl (by simp [V.wf, A.wf, C.wf]) trivial rfl rfl (by simp [V.wf, A.wf, C.wf]) ?_ | with_reducible refine updK_no hno ?_ | refine CallK.m ?_)
  refine Tri.loop (γ := Nat) (fun a => a ≤ 3 ∧ MOK 41 (ownNM ml W H n i e oo (L' (candP W H e i (3 * a)))) ∧ I (candP W H e i (3 * a))) (fun a => [(0, V.c (.v y)), (1, V.c (.ptr 13 0)), (2, V.c (.ptr 14 0)), (3, V.c (.ptr 15 0)), (5, V.c (.ptr 40 0)), (6, V.i ((a : Int) - 1))])
    (fun a => ownNM ml W H n i e oo (L' (candP W H e i (3 * a)))) 41 (fun a => 3 - a) 0 (R0 := []) ?_ ?_ ?_
  · exact ⟨by omega, hm0, hI0⟩
  · refine ⟨?_, hm0.cov, hm0.2, rfl, Nat.le_of_ble_eq_true rfl⟩
    repeat (first | exact trivial | refine And.intro (covS_syn (by first | rfl) rfl (by first | exact trivial | exact Nat.le_of_ble_eq_true rfl | exact hy)) ?_)
  · rintro a ⟨ha, hma, hIa⟩
    refine vc_ok tok ?_
    by_cases ha3 : a < 3
    · repeat ((conv => whnf); first | refine br_t (by omega) ?_ | refine fun (K' : K3) hK' => ?_ | (refine hK' _ _ _ ?_; clear hK' K'))
      refine Tri.loop (γ := Nat) (fun b => b ≤ 3 ∧ MOK 41 (ownNM ml W H n i e oo (L' (candP W H e i (3 * a + b)))) ∧ I (candP W H e i (3 * a + b))) (fun b => [(0, V.c (.v y)), (1, V.c (.ptr 13 0)), (2, V.c (.ptr 14 0)), (3, V.c (.ptr 15 0)), (5, V.c (.ptr 40 0)), (6, V.i ((a : Int) - 1)), (7, V.i ((b : Int) - 1))])
        (fun b => ownNM ml W H n i e oo (L' (candP W H e i (3 * a + b)))) 41 (fun b => 3 - b) 0 (R0 := []) ?_ ?_ ?_
      · exact ⟨by omega, hma, hIa⟩
      · refine ⟨?_, hma.cov, hma.2, rfl, Nat.le_of_ble_eq_true rfl⟩
        repeat (first | exact trivial | refine And.intro (covS_syn (by first | rfl) rfl (by first | exact trivial | exact Nat.le_of_ble_eq_true rfl | exact hy)) ?_)
      · rintro b ⟨hb, hmb, hIb⟩
        refine vc_ok tok ?_
        by_cases hb3 : b < 3
        · -- the round's end where nothing was handed out
          have stay : ∀ {s2 : S}, candP W H e i (3 * a + (b + 1)) = candP W H e i (3 * a + b) → covS [] 41 s2 [(0, V.c (.v y)), (1, V.c (.ptr 13 0)), (2, V.c (.ptr 14 0)), (3, V.c (.ptr 15 0)), (5, V.c (.ptr 40 0)), (6, V.i ((a : Int) - 1)), (7, V.i (((b + 1 : Nat) : Int) - 1))] →
              ∃ g' R, (g' ≤ 3 ∧ MOK 41 (ownNM ml W H n i e oo (L' (candP W H e i (3 * a + g')))) ∧ I (candP W H e i (3 * a + g'))) ∧ 3 - g' < 3 - b ∧ Enter R 17 41 s2 (ownNM ml W H n i e oo (L' (candP W H e i (3 * a + b)))) [(0, V.c (.v y)), (1, V.c (.ptr 13 0)), (2, V.c (.ptr 14 0)), (3, V.c (.ptr 15 0)), (5, V.c (.ptr 40 0)), (6, V.i ((a : Int) - 1)), (7, V.i ((g' : Int) - 1))] (ownNM ml W H n i e oo (L' (candP W H e i (3 * a + g')))) := fun {s2} hst hS => by
            refine ⟨b + 1, [], ⟨by omega, by rw [hst]; exact hmb, by rw [hst]; exact hIb⟩, by omega, ⟨hS, by rw [hst]; exact hmb.cov, by rw [hst]; exact hmb.2, rfl, Nat.le_of_ble_eq_true rfl⟩⟩
          by_cases hs : (b = 1 ∧ a = 1) ∨ (e = false ∧ b ≠ 1 ∧ a ≠ 1)
          · have hst := candP_none hb3 (cand_skip (W := W) (H := H) (e := e) (x := i % W) (y := i / W) hs)
            rcases hs with ⟨hb1, ha1⟩ | ⟨he, hb1, ha1⟩
            · repeat ((conv => whnf); first | (refine And.intro (by first | omega | (dsimp only [inK]; omega)) ?_) | refine br_t (by omega) ?_ | refine bs_t (by omega) ?_ | refine fun (K' : K3) hK' => ?_ | (refine hK' _ _ _ ?_; clear hK' K'))
              refine stay hst ?_
              repeat (first | exact trivial | refine And.intro (covS_syn (by first | rfl | (refine congrArg some (congrArg V.i ?_); omega)) rfl (by first | exact trivial | exact Nat.le_of_ble_eq_true rfl | exact hy)) ?_)
            · repeat ((conv => whnf); first | (refine And.intro (by first | omega | (dsimp only [inK]; omega)) ?_) | refine Exists.intro _ (And.intro rfl ?_) | refine br_t (by omega) ?_ | refine br_f (by omega) ?_ | refine fun (K' : K3) hK' => ?_ | (refine hK' _ _ _ ?_; clear hK' K') | refine br_bt (by simp [he]) ?_)
              refine stay hst ?_
              repeat (first | exact trivial | refine And.intro (covS_syn (by first | rfl | (refine congrArg some (congrArg V.i ?_); omega)) rfl (by first | exact trivial | exact Nat.le_of_ble_eq_true rfl | exact hy)) ?_)
          · obtain ⟨kk, hkk⟩ : ∃ kk, kk = idxI W H (i % W + ((b : Int) - 1)) (i / W + ((a : Int) - 1)) := ⟨_, rfl⟩
            have hcase : (b = 1 ∧ a ≠ 1) ∨ (b ≠ 1 ∧ (e = true ∨ a = 1)) := by
              by_cases q : b = 1
              · exact .inl ⟨q, fun q2 => hs (.inl ⟨q, q2⟩)⟩
              · refine .inr ⟨q, ?_⟩
                cases e with
                | true => exact .inl rfl
                | false => exact .inr (Classical.byContradiction fun q3 => hs (.inr ⟨rfl, q, q3⟩))
            have hix := index_spec W H n (i % W + ((b : Int) - 1)) (i / W + ((a : Int) - 1)) (by omega) (by omega)
            rw [← hkk] at hix
            have hk100 : kk ≤ 1000 := by
              by_cases hq : kk ≥ 0
              · have := (idxI_lt hW.1 (hkk ▸ hq)).1; rw [hkk]; omega
              · omega
            by_cases hin2 : kk ≥ 0
            · have hc := cand_in (x := i % W) (y := i / W) hs (by rw [← hkk]; exact hin2)
              rw [← hkk] at hc
              obtain ⟨post, hsp⟩ := candP_split ha3 hb3 hc
              have hnew := candP_some hb3 hc
              have hkl : kk < W * H := by rw [hkk] at hin2 ⊢; exact (idxI_lt hW.1 hin2).1
              have hbody := body oo ob od _ post kk hsp hin2 hkl hIb
              rw [← hnew] at hbody
              have go : ∀ {s2 : S} {L2 : List E} {R : Rn}, I (candP W H e i (3 * a + (b + 1))) → renL R 40 = some 40 → Enter R 17 41 [] L2 [] (ownNM ml W H n i e oo (L' (candP W H e i (3 * a + (b + 1))))) → (fixB R 17 = true → covS R 41 s2 [(0, V.c (.v y)), (1, V.c (.ptr 13 0)), (2, V.c (.ptr 14 0)), (3, V.c (.ptr 15 0)), (5, V.c (.ptr 40 0)), (6, V.i ((a : Int) - 1)), (7, V.i (((b + 1 : Nat) : Int) - 1))]) →
                  ∃ g' R, (g' ≤ 3 ∧ MOK 41 (ownNM ml W H n i e oo (L' (candP W H e i (3 * a + g')))) ∧ I (candP W H e i (3 * a + g'))) ∧ 3 - g' < 3 - b ∧ Enter R 17 41 s2 L2 [(0, V.c (.v y)), (1, V.c (.ptr 13 0)), (2, V.c (.ptr 14 0)), (3, V.c (.ptr 15 0)), (5, V.c (.ptr 40 0)), (6, V.i ((a : Int) - 1)), (7, V.i ((g' : Int) - 1))] (ownNM ml W H n i e oo (L' (candP W H e i (3 * a + g')))) := fun {s2 L2 R} hI h1 h2 h3 =>
                ⟨b + 1, R, ⟨by omega, h2.mok, hI⟩, by omega, ⟨h3 h2.fix, h2.l, h2.inj, h2.fix, h2.na⟩⟩
              clear body hend hma hmb stay hm0 hsp hnew hc hkk
              cases e <;> rcases hcase with ⟨q1, q2⟩ | ⟨q1, q2 | q2⟩ <;> (try cases q2)
              all_goals
                repeat ((conv => whnf); first | (refine And.intro (by first | omega | exact Nat.le_of_ble_eq_true rfl | (dsimp only [inK]; omega)) ?_) | refine Exists.intro _ (And.intro rfl ?_) | refine br_t (by omega) ?_ | refine br_f (by omega) ?_ | refine bs_f (by omega) ?_ | refine fun (K' : K3) hK' => ?_ | (refine hK' _ _ _ ?_; clear hK' K') | refine CallK.val (R := [(1, some ml)]) hix (by kernel_rfl) rfl (by simp [V.wf, A.wf, C.wf]) trivial rfl rfl trivial ?_ | refine br_bt (Eq.refl true) ?_ | refine br_bf (Eq.refl false) ?_ | refine CallK.m ?_)
                refine hY _ _ _ _ (Nat.le_of_ble_eq_true rfl) hp1.symm ⟨rfl, trivial⟩ (hbody.mono ?_)
                rintro v L2 nx2 (⟨rfl, hI, R, hR40, hE⟩ | ⟨rfl, hE⟩)
                · repeat ((conv => whnf); first | (refine And.intro (by first | omega | (dsimp only [inK]; omega)) ?_) | refine fun (K' : K3) hK' => ?_ | (refine hK' _ _ _ ?_; clear hK' K'))
                  refine go hI hR40 hE fun hf => ?_
                  repeat (first | exact trivial | refine And.intro (covS_syn (by first | rfl | exact (hptr (hfix hf (by omega))).symm | exact (hptr hR40).symm | (refine congrArg some (congrArg V.i ?_); omega)) rfl (by first | exact trivial | exact Nat.le_of_ble_eq_true rfl | exact hy)) ?_)
                · repeat ((conv => whnf); refine hK' _ _ _ ?_; clear hK' K')
                  exact hE
            · have hst := candP_none hb3 (cand_out (e := e) (x := i % W) (y := i / W) (by rw [← hkk]; exact hin2))
              clear body hend hma hm0
              cases e <;> rcases hcase with ⟨q1, q2⟩ | ⟨q1, q2 | q2⟩ <;> (try cases q2)
              all_goals
                repeat ((conv => whnf); first | (refine And.intro (by first | omega | exact Nat.le_of_ble_eq_true rfl | (dsimp only [inK]; omega)) ?_) | refine Exists.intro _ (And.intro rfl ?_) | refine br_t (by omega) ?_ | refine br_f (by omega) ?_ | refine bs_f (by omega) ?_ | refine fun (K' : K3) hK' => ?_ | (refine hK' _ _ _ ?_; clear hK' K') | refine CallK.val (R := [(1, some ml)]) hix (by kernel_rfl) rfl (by simp [V.wf, A.wf, C.wf]) trivial rfl rfl trivial ?_ | refine br_bt (Eq.refl true) ?_ | refine br_bf (Eq.refl false) ?_ | refine CallK.m ?_)
                refine stay hst ?_
                repeat (first | exact trivial | refine And.intro (covS_syn (by first | rfl | (refine congrArg some (congrArg V.i ?_); omega)) rfl (by first | exact trivial | exact Nat.le_of_ble_eq_true rfl | exact hy)) ?_)
        · have hb3' : b = 3 := by omega
          subst hb3'
          have h3 : 3 * a + 3 = 3 * (a + 1) := by omega
          repeat ((conv => whnf); first | (refine And.intro (by first | omega | (dsimp only [inK]; omega)) ?_) | refine br_f (by omega) ?_ | refine fun (K' : K3) hK' => ?_ | (refine hK' _ _ _ ?_; clear hK' K'))
          refine ⟨a + 1, [], ⟨by omega, h3 ▸ hmb, h3 ▸ hIb⟩, by omega, ?_, h3 ▸ hmb.cov, h3 ▸ hmb.2, rfl, Nat.le_of_ble_eq_true rfl⟩
          repeat (first | exact trivial | refine And.intro (covS_syn (by first | rfl | (refine congrArg some (congrArg V.i ?_); omega)) rfl (by first | exact trivial | exact Nat.le_of_ble_eq_true rfl | exact hy)) ?_)
    · have ha3' : a = 3 := by omega
      subst ha3'
      repeat ((conv => whnf); first | refine br_f (by omega) ?_ | refine fun (K' : K3) hK' => ?_ | (refine hK' _ _ _ ?_; clear hK' K'))
      exact hend oo od hIa
end Go.Proofs.Ytbhpnhcdjmcaoaa

/- Boom: what heights prove. -/
namespace Go.Proofs.Ytbhpnhcdjmcaoaa
open Go.RowKit
set_option linter.unusedVariables false
set_option linter.unusedSimpArgs false
def hBad (x : Int) : Bool := !decide (0 ≤ x ∧ x ≤ 1000000)
theorem hbad_spec (x : Int) : Spec Try.prog 78 [V.i x] [] 1 (Is (V.c (.bool (hBad x)))) := by
  refine Spec.of tok Try.func78 rfl rfl rfl fun n0 cx => vc_ok tok ?_
  repeat ((conv => whnf); first | refine fun (K' : K3) hK' => ?_ | (refine hK' _ _ _ ?_; clear hK' K') | refine CallK.val (R := []) (between_spec _ _ _) (by kernel_rfl) rfl (by simp [V.wf, A.wf, C.wf]) trivial rfl rfl trivial ?_ | refine CallK.m ?_)
  intro ρ; rfl
theorem hany_spec (hs : List Int) (hl : hs.length ≤ 300) : Spec Try.prog 77 [V.c (.sl 0 hs.length), V.c (.fn 78 [])] [⟨0, .ro 0, hs.map C.i⟩] 1 (Is (V.c (.bool (hs.any hBad)))) :=
  contains_any (Lc := []) hl (by kernel_rfl) (fun i hi => hbad_spec _) (by simp) (by omega) (by simp) (fun _ _ => trivial) rfl ⟨roE_id (by omega) (wf_ints _ _) rfl (.inl rfl) rfl, trivial⟩
/-- Whether the heights are right at a cell, as the program asks, and as the reference does. -/
def okPi (W H : Int) (cs hs : List Int) (n : Int) (i : Int) : Bool :=
  !hldI cs i || (!((decide (i / W = 0) && decide (hL hs i > cstI cs i)) || (decide (i / W = H - 1) && decide (hL hs i < n))) && (nearL W H true i).all fun k => !(hldI cs k && decide (hL hs k > hL hs i + cstI cs k)))
def okRi (W H : Int) (cs hs : List Int) (n : Int) (i : Int) : Bool :=
  !hldI cs i || (!((decide (i / W = 0) && decide (hL hs i > cstI cs i)) || (decide (i / W = H - 1) && decide (hL hs i < n))) && (nearL W H true i).all fun k => !(hldI cs k && decide (hL hs i > hL hs k + cstI cs i)))
def provP (W H : Int) (cs hs : List Int) (n : Int) : Bool := (List.range cs.length).all fun i => okPi W H cs hs n i
def provR (W H : Int) (cs hs : List Int) (n : Int) : Bool := (List.range cs.length).all fun i => okRi W H cs hs n i
theorem prov_iff {W H : Int} {cs hs : List Int} {n : Int} : provP W H cs hs n = true ↔ ∀ i : Int, 0 ≤ i → i < cs.length → hldI cs i = true → (i / W = 0 → hL hs i ≤ cstI cs i) ∧ (i / W = H - 1 → n ≤ hL hs i) ∧ ∀ k ∈ nearL W H true i, hldI cs k = true → hL hs k ≤ hL hs i + cstI cs k := by
  unfold provP
  rw [List.all_eq_true]
  constructor
  · intro h i i0 i1 hh
    have h1 := h i.toNat (List.mem_range.2 (by omega))
    rw [show ((i.toNat : Nat) : Int) = i by omega] at h1
    unfold okPi at h1
    rw [hh, Bool.not_true, Bool.false_or, Bool.and_eq_true, List.all_eq_true] at h1
    obtain ⟨h2, h3⟩ := h1
    simp only [Bool.not_eq_true', Bool.or_eq_false_iff, Bool.and_eq_false_iff, decide_eq_false_iff_not] at h2
    refine ⟨fun hr => ?_, fun hr => ?_, fun k hk hhk => ?_⟩
    · rcases h2.1 with g | g
      · exact absurd hr g
      · omega
    · rcases h2.2 with g | g
      · exact absurd hr g
      · omega
    · have := h3 k hk
      rw [hhk, Bool.true_and, Bool.not_eq_true', decide_eq_false_iff_not] at this
      omega
  · intro h j hj
    have hj := List.mem_range.1 hj
    unfold okPi
    cases hh : hldI cs (j : Int) with
    | false => rfl
    | true =>
      obtain ⟨h1, h2, h3⟩ := h j (by omega) (by omega) hh
      rw [Bool.not_true, Bool.false_or, Bool.and_eq_true, List.all_eq_true]
      refine ⟨?_, fun k hk => ?_⟩
      · simp only [Bool.not_eq_true', Bool.or_eq_false_iff, Bool.and_eq_false_iff, decide_eq_false_iff_not]
        constructor
        · by_cases hr : (j : Int) / W = 0
          · right; have := h1 hr; omega
          · exact .inl hr
        · by_cases hr : (j : Int) / W = H - 1
          · right; have := h2 hr; omega
          · exact .inl hr
      · cases hhk : hldI cs k with
        | false => rfl
        | true =>
          have := h3 k hk hhk
          rw [Bool.true_and, Bool.not_eq_true', decide_eq_false_iff_not]; omega
theorem provR_iff {W H : Int} {cs hs : List Int} {n : Int} : provR W H cs hs n = true ↔ ∀ i : Int, 0 ≤ i → i < cs.length → hldI cs i = true → (i / W = 0 → hL hs i ≤ cstI cs i) ∧ (i / W = H - 1 → n ≤ hL hs i) ∧ ∀ k ∈ nearL W H true i, hldI cs k = true → hL hs i ≤ hL hs k + cstI cs i := by
  unfold provR
  rw [List.all_eq_true]
  constructor
  · intro h i i0 i1 hh
    have h1 := h i.toNat (List.mem_range.2 (by omega))
    rw [show ((i.toNat : Nat) : Int) = i by omega] at h1
    unfold okRi at h1
    rw [hh, Bool.not_true, Bool.false_or, Bool.and_eq_true, List.all_eq_true] at h1
    obtain ⟨h2, h3⟩ := h1
    simp only [Bool.not_eq_true', Bool.or_eq_false_iff, Bool.and_eq_false_iff, decide_eq_false_iff_not] at h2
    refine ⟨fun hr => ?_, fun hr => ?_, fun k hk hhk => ?_⟩
    · rcases h2.1 with g | g
      · exact absurd hr g
      · omega
    · rcases h2.2 with g | g
      · exact absurd hr g
      · omega
    · have := h3 k hk
      rw [hhk, Bool.true_and, Bool.not_eq_true', decide_eq_false_iff_not] at this
      omega
  · intro h j hj
    have hj := List.mem_range.1 hj
    unfold okRi
    cases hh : hldI cs (j : Int) with
    | false => rfl
    | true =>
      obtain ⟨h1, h2, h3⟩ := h j (by omega) (by omega) hh
      rw [Bool.not_true, Bool.false_or, Bool.and_eq_true, List.all_eq_true]
      refine ⟨?_, fun k hk => ?_⟩
      · simp only [Bool.not_eq_true', Bool.or_eq_false_iff, Bool.and_eq_false_iff, decide_eq_false_iff_not]
        constructor
        · by_cases hr : (j : Int) / W = 0
          · right; have := h1 hr; omega
          · exact .inl hr
        · by_cases hr : (j : Int) / W = H - 1
          · right; have := h2 hr; omega
          · exact .inl hr
      · cases hhk : hldI cs k with
        | false => rfl
        | true =>
          have := h3 k hk hhk
          rw [Bool.true_and, Bool.not_eq_true', decide_eq_false_iff_not]; omega
theorem prov_eq {W H : Int} {cs hs : List Int} {n : Int} (hok : CO W H cs) : provP W H cs hs n = provR W H cs hs n := by
  rw [Bool.eq_iff_iff, prov_iff, provR_iff]
  have hW : 0 < W := by have := hok.w; omega
  have hlen := hok.len
  constructor
  · intro h i i0 i1 hh
    obtain ⟨h1, h2, _⟩ := h i i0 i1 hh
    refine ⟨h1, h2, fun k hk hhk => ?_⟩
    have hki := near_in hW hk
    exact (h k hki.1 (by omega) hhk).2.2 i (near_symm hW i0 (by omega) hk) hh
  · intro h i i0 i1 hh
    obtain ⟨h1, h2, _⟩ := h i i0 i1 hh
    refine ⟨h1, h2, fun k hk hhk => ?_⟩
    have hki := near_in hW hk
    exact (h k hki.1 (by omega) hhk).2.2 i (near_symm hW i0 (by omega) hk) hh
theorem provP_no {W H : Int} {cs hs : List Int} {n : Int} {i : Nat} (hi : i < cs.length) (h : okPi W H cs hs n i = false) : provP W H cs hs n = false := by
  unfold provP; rw [List.all_eq_false]; exact ⟨i, by simpa using hi, by simp [h]⟩
theorem provR_no {W H : Int} {cs hs : List Int} {n : Int} {i : Nat} (hi : i < cs.length) (h : okRi W H cs hs n i = false) : provR W H cs hs n = false := by
  unfold provR; rw [List.all_eq_false]; exact ⟨i, by simpa using hi, by simp [h]⟩
theorem all_no {l pre post : List Int} {k : Int} {p : Int → Bool} (h : l = pre ++ k :: post) (hk : p k = false) : l.all p = false := by
  rw [List.all_eq_false]; exact ⟨k, by rw [h]; simp, by simp [hk]⟩
/-- What Proves gives back. -/
def prvB (W H : Int) (cs hs : List Int) (n : Int) : Bool := okC W H cs && ((decide (hs.length = cs.length) && (decide (0 ≤ n ∧ n ≤ 1000000) && !hs.any hBad)) && provP W H cs hs n)
def prvE (W H : Int) (cs hs : List Int) (n : Int) : Int := if okC W H cs then (if (decide (hs.length = cs.length) && (decide (0 ≤ n ∧ n ≤ 1000000) && !hs.any hBad)) then 0 else 2) else 30
set_option maxRecDepth 10000 in
set_option maxHeartbeats 8000000 in
theorem proves_spec (W H : Int) (cs hs : List Int) (n : Int) (hl : cs.length ≤ 300) (hl2 : hs.length ≤ 300) (hn : -9223372036854775808 ≤ n ∧ n ≤ 9223372036854775807) :
    Spec Try.prog 33 [chR W H cs.length, V.c (.sl 1 hs.length), V.i n] [⟨0, .ro 0, cs.map C.i⟩, ⟨1, .ro 0, hs.map C.i⟩] 2 (Is (V.tup [A.c (.bool (prvB W H cs hs n)), A.c (C.i (prvE W H cs hs n))])) := by
  have hlm : (cs.map C.i).length = cs.length := by simp
  have hlh : (hs.map C.i).length = hs.length := by simp
  refine Spec.of tok Try.func33 rfl rfl rfl fun n0 cx => vc_ok tok ?_
  cases hv : okC W H cs with
  | false =>
    have r1 : prvB W H cs hs n = false := by unfold prvB; rw [hv]; rfl
    have r2 : prvE W H cs hs n = 30 := by unfold prvE; rw [hv]; rfl
    rw [r1, r2]
    repeat ((conv => whnf); first | (refine And.intro (by first | omega | exact Nat.le_of_ble_eq_true rfl) ?_) | refine Exists.intro _ (And.intro rfl ?_) | refine br_t (by omega) ?_ | refine fun (K' : K3) hK' => ?_ | (refine hK' _ _ _ ?_; clear hK' K') | refine CallK.newNo (a := 0) (bs := []) (R := [(1, none)]) 30 hl (by simp) (.inl ⟨hv, rfl⟩) rfl rfl (roNil rfl) ?_ | refine CallK.m ?_)
    intro ρ; rfl
  | true =>
    have hok := okC_iff.1 hv
    have hW := hok.w
    have hH := hok.h
    have hcn := hok.len
    have hn100 : (cs.length : Int) ≤ 100 := by have := Int.mul_le_mul hW.2 hH.2 (by omega) (by omega : (0:Int) ≤ 10); omega
    have hcb := cst_bd hok.cost
    have hbt := between_spec 0 n 1000000
    have hha := hany_spec hs hl2
    by_cases g1 : (hs.length : Int) = cs.length
    · have g1' : hs.length = cs.length := by omega
      by_cases g2 : 0 ≤ n ∧ n ≤ 1000000
      · cases g3 : hs.any hBad with
        | true =>
          have r1 : prvB W H cs hs n = false := by unfold prvB; rw [hv, g3]; simp
          have r2 : prvE W H cs hs n = 2 := by unfold prvE; rw [hv, g3]; simp
          rw [r1, r2]
          repeat ((conv => whnf); first | (refine And.intro (by first | omega | exact Nat.le_of_ble_eq_true rfl) ?_) | refine Exists.intro _ (And.intro rfl ?_) | refine br_f (by omega) ?_ | refine bs_f (by omega) ?_ | refine fun (K' : K3) hK' => ?_ | (refine hK' _ _ _ ?_; clear hK' K') | refine CallK.newOk (a := 0) (bs := []) (R := [(1, none)]) hl (by simp) hv (okB_nil _ _ _) rfl rfl (by omega) (roNil rfl) ?_ | refine CallK.val (R := []) hbt (by kernel_rfl) rfl (by simp [V.wf, A.wf, C.wf]) trivial rfl rfl trivial ?_ | refine bs_bf (nd_f g2) ?_ | refine CallK.val (R := [(0, some 1)]) hha (by kernel_rfl) rfl (by simp [V.wf, A.wf, C.wf]) ⟨roE_ints (l := 1) rfl (by omega) rfl (.inl rfl), trivial⟩ rfl rfl trivial ?_ | refine br_bt g3 ?_ | refine CallK.m ?_)
          intro ρ; rfl
        | false =>
          have hrng : ∀ j, j < hs.length → 0 ≤ hs.getD j 0 ∧ hs.getD j 0 ≤ 1000000 := fun j hj => by
            have := List.any_eq_false.1 g3 _ (getD_mem hj)
            unfold hBad at this
            simpa using this
          have r1 : prvB W H cs hs n = provP W H cs hs n := by unfold prvB; rw [hv, g3, dd_t g1', dd_t g2]; simp
          have r2 : prvE W H cs hs n = 0 := by unfold prvE; rw [hv, g3, dd_t g1', dd_t g2]; rfl
          rw [r1, r2]
          repeat ((conv => whnf); first | (refine And.intro (by first | omega | exact Nat.le_of_ble_eq_true rfl) ?_) | refine Exists.intro _ (And.intro rfl ?_) | refine br_f (by omega) ?_ | refine bs_f (by omega) ?_ | refine fun (K' : K3) hK' => ?_ | (refine hK' _ _ _ ?_; clear hK' K') | refine CallK.newOk (a := 0) (bs := []) (R := [(1, none)]) hl (by simp) hv (okB_nil _ _ _) rfl rfl (by omega) (roNil rfl) ?_ | refine CallK.val (R := []) hbt (by kernel_rfl) rfl (by simp [V.wf, A.wf, C.wf]) trivial rfl rfl trivial ?_ | refine bs_bf (nd_f g2) ?_ | refine CallK.val (R := [(0, some 1)]) hha (by kernel_rfl) rfl (by simp [V.wf, A.wf, C.wf]) ⟨roE_ints (l := 1) rfl (by omega) rfl (.inl rfl), trivial⟩ rfl rfl trivial ?_ | refine br_bf g3 ?_ | refine CallK.m ?_)
          refine Tri.loop (γ := Nat) (fun i => i ≤ cs.length ∧ ∀ j : Nat, j < i → okPi W H cs hs n j = true) (fun i => [(2, V.i n), (4, V.c (.ptr 3 0)), (6, V.c (.ptr 4 0)), (7, V.c (.ptr 5 0)), (8, V.c (.ptr 7 0)), (38, V.c (.sl 1 hs.length)), (39, V.i hs.length), (40, V.i (i : Nat))])
            (fun i => [⟨7, .own 65, [C.i W, C.i H, .sl 0 cs.length, .mp 6]⟩, ⟨5, .own 27, [C.i 0]⟩, ⟨4, .own 4, [.ff]⟩, ⟨3, .own 22, [.sl 1 hs.length]⟩, ⟨1, .ro 0, hs.map C.i⟩, ⟨0, .ro 0, cs.map C.i⟩]) 12 (fun i => cs.length - i) 0 (R0 := []) ?_ ?_ ?_
          · exact ⟨by omega, fun j hj => by omega⟩
          · skip
            refine ⟨?_, ?_, rfl, rfl, by exact Nat.le_of_ble_eq_true rfl⟩
            · repeat (first | exact trivial | (refine And.intro (covS_syn (by rfl) rfl (by first | exact trivial | exact Nat.le_of_ble_eq_true rfl)) ?_))
            · repeat (first | exact trivial | (refine And.intro (covE_id (Nat.le_of_ble_eq_true rfl) (by first | exact wf_ints _ _ | simp [C.wf]) rfl (by rfl)) ?_))
          · rintro i ⟨hi, hall⟩
            refine vc_ok tok ?_
            by_cases hlt : i < cs.length
            · have hld := intL (l := hs) (k := i) (by omega)
              have hri := hrng i (by omega)
              have hh := holds_spec W H cs i hlt
              have hhl : hldI cs (i : Int) = decide (cs.getD i 0 ≠ 0) := by simp [hldI]
              rw [← hhl] at hh
              have hc := cost_spec W H cs i hlt
              have hck : cstI cs (i : Int) = if cs.getD i 0 > 0 then cs.getD i 0 else 0 := by simp [cstI]
              rw [← hck] at hc
              have hci := hcb (i : Int)
              have hr0 := row_spec W H cs.length (i : Int) 0 (by omega) (by omega) (by omega)
              have hr1 := row_spec W H cs.length (i : Int) (H - 1) (by omega) (by omega) (by omega)
              have hno := fun h => provP_no (W := W) (H := H) (hs := hs) (n := n) hlt h
              have hoi : okPi W H cs hs n (i : Int) = (!hldI cs (i : Int) || (!((decide ((i : Int) / W = 0) && decide (hL hs (i : Int) > cstI cs (i : Int))) || (decide ((i : Int) / W = H - 1) && decide (hL hs (i : Int) < n))) && (nearL W H true (i : Int)).all fun k => !(hldI cs k && decide (hL hs k > hL hs (i : Int) + cstI cs k)))) := rfl
              have hei : hs.getD i 0 = hL hs (i : Int) := by unfold hL; rw [Int.toNat_natCast]
              rw [hei] at hld hri
              obtain ⟨xi, hxi⟩ : ∃ x, x = hL hs (i : Int) := ⟨_, rfl⟩
              rw [← hxi] at hld hri hoi
              obtain ⟨ci, hcie⟩ : ∃ x, x = cstI cs (i : Int) := ⟨_, rfl⟩
              rw [← hcie] at hc hci hoi
              have fin : okPi W H cs hs n (i : Int) = true → ∀ j : Nat, j < i + 1 → okPi W H cs hs n j = true := fun h j hj => by
                by_cases hji : j = i
                · rw [hji]; exact h
                · exact hall j (by omega)
              cases h1 : hldI cs (i : Int) with
              | false =>
                rw [h1] at hh
                repeat ((conv => whnf); first | (refine And.intro (by first | omega | exact Nat.le_of_ble_eq_true rfl | (dsimp only [inK]; omega)) ?_) | with_reducible refine ld (hld) ?_ | refine Exists.intro _ (And.intro rfl ?_) | refine br_t (by omega) ?_ | refine fun (K' : K3) hK' => ?_ | (refine hK' _ _ _ ?_; clear hK' K') | refine CallK.val (R := [(1, some 6)]) hh (by kernel_rfl) rfl (by simp [V.wf, A.wf, C.wf]) ⟨roE_ints (l := 0) rfl (by omega) rfl (.inl rfl), trivial⟩ rfl rfl trivial ?_ | refine br_bt rfl ?_ | refine CallK.m ?_)
                refine ⟨i + 1, [], ⟨by omega, fin (by rw [hoi, h1]; rfl)⟩, by omega, ?_⟩
                refine ⟨?_, ?_, rfl, rfl, by exact Nat.le_of_ble_eq_true rfl⟩
                · repeat (first | exact trivial | (refine And.intro (covS_syn (by rfl) rfl (by first | exact trivial | exact Nat.le_of_ble_eq_true rfl)) ?_))
                · repeat (first | exact trivial | (refine And.intro (covE_id (Nat.le_of_ble_eq_true rfl) (by first | exact wf_ints _ _ | simp [C.wf]) rfl (by rfl)) ?_))
              | true =>
                rw [h1] at hh
                rw [h1, Bool.not_true, Bool.false_or] at hoi
                -- the test of the rows
                by_cases k1 : (i : Int) / W = 0 ∧ xi > ci
                · have hr := hno (by rw [hoi, dd_t k1.1, dd_t k1.2]; rfl)
                  repeat ((conv => whnf); first | (refine And.intro (by first | omega | exact Nat.le_of_ble_eq_true rfl | (dsimp only [inK]; omega)) ?_) | with_reducible refine ld (hld) ?_ | refine Exists.intro _ (And.intro rfl ?_) | refine br_t (by omega) ?_ | refine bs_t (by omega) ?_ | refine fun (K' : K3) hK' => ?_ | (refine hK' _ _ _ ?_; clear hK' K') | refine draw_auto tok mixed (by kernel_rfl) ?_ | refine CallK.val (R := [(1, some 6)]) hh (by kernel_rfl) rfl (by simp [V.wf, A.wf, C.wf]) ⟨roE_ints (l := 0) rfl (by omega) rfl (.inl rfl), trivial⟩ rfl rfl trivial ?_ | refine br_bf rfl ?_ | refine HD_mk (fun _ h => CallK.val (R := [(1, some 6)]) hr0 (by kernel_rfl) rfl (by simp [V.wf, A.wf, C.wf]) trivial rfl rfl trivial h) ?_ | refine HD_mk (fun _ h => CallK.val (R := [(1, some 6)]) hc (by kernel_rfl) rfl (by simp [V.wf, A.wf, C.wf]) ⟨roE_ints (l := 0) rfl (by omega) rfl (.inl rfl), trivial⟩ rfl rfl trivial h) ?_ | refine CallK.m ?_)
                  intro ρ; rw [hr]; rfl
                · by_cases k2 : (i : Int) / W = H - 1 ∧ xi < n
                  · have hr := hno (by rw [hoi, dd_t k2.1, dd_t k2.2]; simp)
                    by_cases k3 : (i : Int) / W = 0
                    · have k4 : ¬ xi > ci := fun h => k1 ⟨k3, h⟩
                      repeat ((conv => whnf); first | (refine And.intro (by first | omega | exact Nat.le_of_ble_eq_true rfl | (dsimp only [inK]; omega)) ?_) | with_reducible refine ld (hld) ?_ | refine Exists.intro _ (And.intro rfl ?_) | refine br_t (by omega) ?_ | refine bs_f (by omega) ?_ | refine fun (K' : K3) hK' => ?_ | (refine hK' _ _ _ ?_; clear hK' K') | refine draw_auto tok mixed (by kernel_rfl) ?_ | refine CallK.val (R := [(1, some 6)]) hh (by kernel_rfl) rfl (by simp [V.wf, A.wf, C.wf]) ⟨roE_ints (l := 0) rfl (by omega) rfl (.inl rfl), trivial⟩ rfl rfl trivial ?_ | refine br_bf rfl ?_ | refine HD_mk (fun _ h => CallK.val (R := [(1, some 6)]) hr0 (by kernel_rfl) rfl (by simp [V.wf, A.wf, C.wf]) trivial rfl rfl trivial h) ?_ | refine HD_mk (fun _ h => CallK.val (R := [(1, some 6)]) hc (by kernel_rfl) rfl (by simp [V.wf, A.wf, C.wf]) ⟨roE_ints (l := 0) rfl (by omega) rfl (.inl rfl), trivial⟩ rfl rfl trivial h) ?_ | refine HD_mk (fun _ h => CallK.val (R := [(1, some 6)]) hr1 (by kernel_rfl) rfl (by simp [V.wf, A.wf, C.wf]) trivial rfl rfl trivial h) ?_ | refine CallK.m ?_)
                      intro ρ; rw [hr]; rfl
                    · repeat ((conv => whnf); first | (refine And.intro (by first | omega | exact Nat.le_of_ble_eq_true rfl | (dsimp only [inK]; omega)) ?_) | with_reducible refine ld (hld) ?_ | refine Exists.intro _ (And.intro rfl ?_) | refine br_t (by omega) ?_ | refine br_f (by omega) ?_ | refine fun (K' : K3) hK' => ?_ | (refine hK' _ _ _ ?_; clear hK' K') | refine draw_auto tok mixed (by kernel_rfl) ?_ | refine CallK.val (R := [(1, some 6)]) hh (by kernel_rfl) rfl (by simp [V.wf, A.wf, C.wf]) ⟨roE_ints (l := 0) rfl (by omega) rfl (.inl rfl), trivial⟩ rfl rfl trivial ?_ | refine br_bf rfl ?_ | refine HD_mk (fun _ h => CallK.val (R := [(1, some 6)]) hr0 (by kernel_rfl) rfl (by simp [V.wf, A.wf, C.wf]) trivial rfl rfl trivial h) ?_ | refine HD_mk (fun _ h => CallK.val (R := [(1, some 6)]) hr1 (by kernel_rfl) rfl (by simp [V.wf, A.wf, C.wf]) trivial rfl rfl trivial h) ?_ | refine CallK.m ?_)
                      intro ρ; rw [hr]; rfl
                  · have hrows : ((decide ((i : Int) / W = 0) && decide (xi > ci)) || (decide ((i : Int) / W = H - 1) && decide (xi < n))) = false := by
                      rw [Bool.or_eq_false_iff, Bool.and_eq_false_iff, Bool.and_eq_false_iff, decide_eq_false_iff_not, decide_eq_false_iff_not, decide_eq_false_iff_not, decide_eq_false_iff_not]
                      exact ⟨Classical.not_and_iff_not_or_not.1 k1, Classical.not_and_iff_not_or_not.1 k2⟩
                    rw [hrows, Bool.not_false, Bool.true_and] at hoi
                    clear hrows
                    have hrest : ∀ {e0 e1 : Bool}, e0 = decide ((i : Int) / W = 0) → e1 = decide ((i : Int) / W = H - 1) → True := fun _ _ => trivial
                    by_cases k3 : (i : Int) / W = 0 <;> by_cases k5 : (i : Int) / W = H - 1
                    all_goals
                      have k4 : (i : Int) / W = 0 → ¬ xi > ci := fun h h2 => k1 ⟨h, h2⟩
                      have k6 : (i : Int) / W = H - 1 → ¬ xi < n := fun h h2 => k2 ⟨h, h2⟩
                      repeat ((conv => whnf); first | (refine And.intro (by first | omega | exact Nat.le_of_ble_eq_true rfl | (dsimp only [inK]; omega)) ?_) | with_reducible refine ld (hld) ?_ | refine Exists.intro _ (And.intro rfl ?_) | refine br_t (by omega) ?_ | refine br_f (by omega) ?_ | refine bs_f (by omega) ?_ | refine fun (K' : K3) hK' => ?_ | (refine hK' _ _ _ ?_; clear hK' K') | refine draw_auto tok mixed (by kernel_rfl) ?_ | refine CallK.val (R := [(1, some 6)]) hh (by kernel_rfl) rfl (by simp [V.wf, A.wf, C.wf]) ⟨roE_ints (l := 0) rfl (by omega) rfl (.inl rfl), trivial⟩ rfl rfl trivial ?_ | refine br_bf rfl ?_ | refine HD_mk (fun _ h => CallK.val (R := [(1, some 6)]) hr0 (by kernel_rfl) rfl (by simp [V.wf, A.wf, C.wf]) trivial rfl rfl trivial h) ?_ | refine HD_mk (fun _ h => CallK.val (R := [(1, some 6)]) hc (by kernel_rfl) rfl (by simp [V.wf, A.wf, C.wf]) ⟨roE_ints (l := 0) rfl (by omega) rfl (.inl rfl), trivial⟩ rfl rfl trivial h) ?_ | refine HD_mk (fun _ h => CallK.val (R := [(1, some 6)]) hr1 (by kernel_rfl) rfl (by simp [V.wf, A.wf, C.wf]) trivial rfl rfl trivial h) ?_ | refine CallK.fresh (by kernel_rfl) (near_spec _ _ _ _) rfl ?_ | refine CallK.m ?_)
                      refine Tri.opq fun K' hK' => ?_
                      refine Tri.nearM (ml := 6) (R0 := []) (W := W) (H := H) (n := cs.length) (i := (i : Int)) (e := true) (fun pre => ∀ k ∈ pre, (!(hldI cs k && decide (hL hs k > xi + cstI cs k))) = true)
                        (fun pre => [⟨12, .own 3, [C.i xi]⟩, ⟨7, .own 65, [C.i W, C.i H, .sl 0 cs.length, .mp 6]⟩, ⟨5, .own 27, [C.i 0]⟩, ⟨4, .own 4, [.ff]⟩, ⟨3, .own 22, [.sl 1 hs.length]⟩, ⟨1, .ro 0, hs.map C.i⟩, ⟨0, .ro 0, cs.map C.i⟩])
                        (fun k hk => by cases hk) (by omega) (by omega) (by omega) (by exact rfl) (by exact rfl) (by exact rfl) ?_ ?_ ?_
                      · intro oo
                        refine ⟨?_, ?_, rfl, rfl, by exact Nat.le_of_ble_eq_true rfl⟩
                        · repeat (exact trivial)
                        · repeat (first | exact trivial | refine And.intro (covE_b1 (b := true) (Nat.le_of_ble_eq_true rfl) rfl rfl rfl) ?_ | (refine And.intro (covE_id (Nat.le_of_ble_eq_true rfl) (by first | exact wf_ints _ _ | simp [C.wf]) rfl (by rfl)) ?_))
                      · intro oo ob od pre post kk hsp hk0 hk1 hI cxb hcx
                        obtain ⟨k, rfl⟩ : ∃ k : Nat, kk = k := ⟨kk.toNat, by omega⟩
                        have hkl : k < cs.length := by omega
                        have hhk := holds_spec W H cs k hkl
                        have hhlk : hldI cs (k : Int) = decide (cs.getD k 0 ≠ 0) := by simp [hldI]
                        rw [← hhlk] at hhk
                        have hck2 := cost_spec W H cs k hkl
                        have hcke : cstI cs (k : Int) = if cs.getD k 0 > 0 then cs.getD k 0 else 0 := by simp [cstI]
                        have hcn2 := hcb (k : Int)
                        rw [← hcke] at hck2
                        have hldk := intL (l := hs) (k := k) (by omega)
                        have hrk := hrng k (by omega)
                        have hek : hs.getD k 0 = hL hs (k : Int) := by unfold hL; rw [Int.toNat_natCast]
                        rw [hek] at hldk hrk
                        have next : (!(hldI cs (k : Int) && decide (hL hs (k : Int) > xi + cstI cs (k : Int)))) = true → ∀ x ∈ pre ++ [(k : Int)], (!(hldI cs x && decide (hL hs x > xi + cstI cs x))) = true := fun h x hx => by
                          rcases List.mem_append.1 hx with hx | hx
                          · exact hI x hx
                          · rw [List.mem_singleton.1 hx]; exact h
                        have hbad := fun h => hno (by rw [hoi]; exact all_no (p := fun k => !(hldI cs k && decide (hL hs k > xi + cstI cs k))) hsp h)
                        obtain ⟨ck, hckk⟩ : ∃ ck, ck = cstI cs (k : Int) := ⟨_, rfl⟩
                        obtain ⟨xk, hxk⟩ : ∃ x, x = hL hs (k : Int) := ⟨_, rfl⟩
                        rw [← hckk, ← hxk] at next
                        rw [← hckk] at hck2 hcn2
                        rw [← hxk] at hldk hrk
                        refine vc_ok tok ?_
                        repeat ((conv => whnf); first | refine fun (K' : K3) hK' => ?_ | (refine hK' _ _ _ ?_; clear hK' K') | refine And.intro (Eq.refl oo) ?_)
                        refine vc_ok tok ?_
                        cases h2 : hldI cs (k : Int) with
                        | false =>
                          rw [h2] at hhk
                          repeat ((conv => whnf); first | refine Exists.intro _ (And.intro rfl ?_) | refine fun (K' : K3) hK' => ?_ | (refine hK' _ _ _ ?_; clear hK' K') | refine draw_auto tok mixed (by kernel_rfl) ?_ | refine HD_mk (fun _ h => CallK.val (R := [(1, some 6)]) hhk (by kernel_rfl) rfl (by simp [V.wf, A.wf, C.wf]) ⟨roE_ints (l := 0) rfl (by omega) rfl (.inl rfl), trivial⟩ rfl rfl trivial h) ?_ | refine And.intro (Eq.refl ob) ?_ | refine br_bf (Eq.refl false) ?_)
                          refine .inl ⟨rfl, next (by rw [h2]; rfl), [], rfl, ?_⟩
                          refine ⟨?_, ?_, rfl, rfl, by exact Nat.le_of_ble_eq_true rfl⟩
                          · repeat (exact trivial)
                          · repeat (first | exact trivial | (refine And.intro (covE_id (Nat.le_of_ble_eq_true rfl) (by first | exact wf_ints _ _ | simp [C.wf]) rfl (by rfl)) ?_))
                        | true =>
                          rw [h2] at hhk
                          by_cases h3 : xk > xi + ck
                          · have hr := hbad (by rw [h2, ← hckk, ← hxk, dd_t h3]; rfl)
                            repeat ((conv => whnf); first | (refine And.intro (by first | omega | exact Nat.le_of_ble_eq_true rfl | (dsimp only [inK]; omega)) ?_) | with_reducible refine ld (hldk) ?_ | refine Exists.intro _ (And.intro rfl ?_) | refine br_t (by omega) ?_ | refine fun (K' : K3) hK' => ?_ | (refine hK' _ _ _ ?_; clear hK' K') | refine draw_auto tok mixed (by kernel_rfl) ?_ | refine HD_mk (fun _ h => CallK.val (R := [(1, some 6)]) hhk (by kernel_rfl) rfl (by simp [V.wf, A.wf, C.wf]) ⟨roE_ints (l := 0) rfl (by omega) rfl (.inl rfl), trivial⟩ rfl rfl trivial h) ?_ | refine HD_mk (fun _ h => CallK.val (R := [(1, some 6)]) hck2 (by kernel_rfl) rfl (by simp [V.wf, A.wf, C.wf]) ⟨roE_ints (l := 0) rfl (by omega) rfl (.inl rfl), trivial⟩ rfl rfl trivial h) ?_ | refine And.intro (Eq.refl ob) ?_ | refine br_bt (Eq.refl true) ?_)
                            refine .inr ⟨rfl, .inr (.inl ?_)⟩
                            refine And.intro (Eq.refl (od Code.ret)) ?_
                            conv => whnf
                            refine hK' _ _ _ _ ?_
                            repeat ((conv => whnf); refine Exists.intro _ (And.intro rfl ?_))
                            intro ρ; rw [hr]; rfl
                          · repeat ((conv => whnf); first | (refine And.intro (by first | omega | (dsimp only [inK]; omega)) ?_) | with_reducible refine ld (hldk) ?_ | refine Exists.intro _ (And.intro rfl ?_) | refine br_f (by omega) ?_ | refine fun (K' : K3) hK' => ?_ | (refine hK' _ _ _ ?_; clear hK' K') | refine draw_auto tok mixed (by kernel_rfl) ?_ | refine HD_mk (fun _ h => CallK.val (R := [(1, some 6)]) hhk (by kernel_rfl) rfl (by simp [V.wf, A.wf, C.wf]) ⟨roE_ints (l := 0) rfl (by omega) rfl (.inl rfl), trivial⟩ rfl rfl trivial h) ?_ | refine HD_mk (fun _ h => CallK.val (R := [(1, some 6)]) hck2 (by kernel_rfl) rfl (by simp [V.wf, A.wf, C.wf]) ⟨roE_ints (l := 0) rfl (by omega) rfl (.inl rfl), trivial⟩ rfl rfl trivial h) ?_ | refine And.intro (Eq.refl ob) ?_ | refine br_bt (Eq.refl true) ?_)
                            refine .inl ⟨rfl, next (by rw [h2, dd_f h3]; rfl), [], rfl, ?_⟩
                            refine ⟨?_, ?_, rfl, rfl, by exact Nat.le_of_ble_eq_true rfl⟩
                            · repeat (exact trivial)
                            · repeat (first | exact trivial | (refine And.intro (covE_id (Nat.le_of_ble_eq_true rfl) (by first | exact wf_ints _ _ | simp [C.wf]) rfl (by rfl)) ?_))
                      · intro oo od hI
                        refine Or.inl ?_
                        refine And.intro rfl ?_
                        conv => whnf
                        refine hK' _ _ _ _ ?_
                        repeat ((conv => whnf); first | (refine And.intro (by first | omega | (dsimp only [inK]; omega)) ?_) | refine fun (K' : K3) hK' => ?_ | (refine hK' _ _ _ ?_; clear hK' K'))
                        refine ⟨i + 1, [], ⟨by omega, fin (by rw [hoi]; exact List.all_eq_true.2 hI)⟩, by omega, ?_⟩
                        refine ⟨?_, ?_, rfl, rfl, by exact Nat.le_of_ble_eq_true rfl⟩
                        · repeat (first | exact trivial | (refine And.intro (covS_syn (by rfl) rfl (by first | exact trivial | exact Nat.le_of_ble_eq_true rfl)) ?_))
                        · repeat (first | exact trivial | (refine And.intro (covE_id (Nat.le_of_ble_eq_true rfl) (by first | exact wf_ints _ _ | simp [C.wf]) rfl (by rfl)) ?_))
            · have hin : i = cs.length := by omega
              subst hin
              have hr : provP W H cs hs n = true := by
                unfold provP; rw [List.all_eq_true]
                exact fun j hj => hall j (List.mem_range.1 hj)
              repeat ((conv => whnf); first | (refine And.intro (by first | omega | exact Nat.le_of_ble_eq_true rfl) ?_) | refine Exists.intro _ (And.intro rfl ?_) | refine br_f (by omega) ?_ | refine fun (K' : K3) hK' => ?_ | (refine hK' _ _ _ ?_; clear hK' K'))
              intro ρ; rw [hr]; rfl
      · have r1 : prvB W H cs hs n = false := by unfold prvB; rw [hv, dd_f g2]; simp
        have r2 : prvE W H cs hs n = 2 := by unfold prvE; rw [hv, dd_f g2]; simp
        rw [r1, r2]
        repeat ((conv => whnf); first | (refine And.intro (by first | omega | exact Nat.le_of_ble_eq_true rfl) ?_) | refine Exists.intro _ (And.intro rfl ?_) | refine br_f (by omega) ?_ | refine bs_f (by omega) ?_ | refine fun (K' : K3) hK' => ?_ | (refine hK' _ _ _ ?_; clear hK' K') | refine CallK.newOk (a := 0) (bs := []) (R := [(1, none)]) hl (by simp) hv (okB_nil _ _ _) rfl rfl (by omega) (roNil rfl) ?_ | refine CallK.val (R := []) hbt (by kernel_rfl) rfl (by simp [V.wf, A.wf, C.wf]) trivial rfl rfl trivial ?_ | refine bs_bt (nd_t g2) ?_ | refine CallK.m ?_)
        intro ρ; rfl
    · have g1' : ¬ hs.length = cs.length := by omega
      have r1 : prvB W H cs hs n = false := by unfold prvB; rw [hv, dd_f g1']; simp
      have r2 : prvE W H cs hs n = 2 := by unfold prvE; rw [hv, dd_f g1']; simp
      rw [r1, r2]
      repeat ((conv => whnf); first | (refine And.intro (by first | omega | exact Nat.le_of_ble_eq_true rfl) ?_) | refine Exists.intro _ (And.intro rfl ?_) | refine br_f (by omega) ?_ | refine bs_t (by omega) ?_ | refine fun (K' : K3) hK' => ?_ | (refine hK' _ _ _ ?_; clear hK' K') | refine CallK.newOk (a := 0) (bs := []) (R := [(1, none)]) hl (by simp) hv (okB_nil _ _ _) rfl rfl (by omega) (roNil rfl) ?_ | refine CallK.m ?_)
      intro ρ; rfl
end Go.Proofs.Ytbhpnhcdjmcaoaa

