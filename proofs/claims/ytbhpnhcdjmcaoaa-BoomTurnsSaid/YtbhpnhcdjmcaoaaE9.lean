/- Texts of the proof, part 9: L6. -/
import Derived.Test.YtbhpnhcdjmcaoaaE8
import Derived.WalkKit
import Derived.Below
import Derived.Laws.OwnMore
import Derived.Maps.AppendAt
import Derived.Laws.IdiomCopy
import Derived.Laws.CopyRow
import Derived.IntWalk
import Derived.StillTail
import Derived.Scope
import Derived.ChangeKeysEq
import Derived.Laws.Small
import Derived.OrdersIn
import Derived.TacticsIn
import Derived.OwnWalkIn
import Derived.RangeFuncNested
import Derived.RangeFuncLeaves
import Derived.RangeFuncRecord
import Derived.Maps.Keyed
import Derived.Maps.RangeRun
import Derived.DeepKeys4
import Derived.Test.YtbhpnhcdjmcaoaaRows
import Derived.KernelRfl
import Derived.ProofKit
import Derived.OpenShut
import Derived.Lib.SmallJoins
import Derived.Deep.Slices
/- Boom: the law of the turned charts. -/
namespace Go.Proofs.Ytbhpnhcdjmcaoaa
open Go.RowKit
set_option linter.unusedVariables false
set_option linter.unusedSimpArgs false
theorem chk_rowC (p : Nat → Bool) (l : List Cell) (lab : Nat) (kd : Kd) : (([⟨lab, kd, cellC l⟩] : List E).all fun e => e.cs.all (C.chk p)) = true := by
  simp only [List.all_cons, List.all_nil, Bool.and_true]
  exact chk_cells _ _
theorem turns_long (W H : Int) (cs : List Int) (m : Int) (hcs : cs.length < 9223372036854775808) (h1 : (cs.length : Int) > 300) :
    Spec Try.prog 6 [chR W H cs.length, V.c (.int .u8 m)] [⟨0, .ro 0, cs.map C.i⟩] 1 (Is (V.c (.bool true))) := by
  refine Spec.of tok Try.func6 rfl rfl rfl fun n0 cx => vc_ok tok ?_
  repeat ((conv => whnf); first | (refine And.intro (by first | omega | exact Nat.le_of_ble_eq_true rfl | (dsimp only [inK]; omega) | (simp only [mulS_eq]; omega) | (simp only [mulS_eq, setL_length]; omega) | (simp only [setL_length, List.length_map]; omega) | exact ⟨by omega, by omega, by first | exact Nat.le_of_ble_eq_true rfl | (dsimp only; omega) | (simp only [setL_length]; omega) | (simp only [setL_length, List.length_map]; omega)⟩ | exact ⟨by omega, by first | rfl | omega, by omega, Nat.le_of_ble_eq_true rfl, Nat.le_of_ble_eq_true rfl⟩ | exact ⟨rfl, rfl, rfl, Nat.le_of_ble_eq_true rfl, by first | rfl | omega | exact Nat.le_of_ble_eq_true rfl | (dsimp only; omega) | (simp; done) | (simp; omega), by first | rfl | omega | exact Nat.le_of_ble_eq_true rfl | (dsimp only; omega) | (simp; done) | (simp; omega), by omega, Nat.le_of_ble_eq_true rfl⟩ | exact Eq.refl true) ?_) | (refine Exists.intro _ (And.intro rfl ?_)) | (refine And.intro (And.intro rfl (chk_rowI _ _ _ _)) ?_) | (refine br_t (by omega) ?_) | (refine br_f (by omega) ?_) | (refine bs_t (by omega) ?_) | (refine bs_f (by omega) ?_) | (refine fun (K' : K3) hK' => ?_) | (refine hK' _ _ _ ?_; clear hK' K') | (refine draw_auto tok mixed (by kernel_rfl) ?_) | (refine wide_k hcs ?_) | (refine bs_t h1 ?_) | (refine br_t h1 ?_) | (refine awake_k ?_) | (refine bs_bt (Eq.refl true) ?_) | (refine bs_bf (Eq.refl false) ?_) | (refine br_bt (Eq.refl true) ?_) | (refine br_bf (Eq.refl false) ?_) | (refine CallK.m ?_) | (refine And.intro (And.intro rfl rfl) ?_))
  intro ρ; rfl
theorem cheapN {W H : Int} {cs : List Int} (hl : cs.length ≤ 300) (hv : okC W H cs = true) (h : barO W H cs = none) : Spec Try.prog 18 [chR W H cs.length] [⟨0, .ro 0, cs.map C.i⟩] 2 (Is (V.tup [A.c (C.i 0), A.c (C.i 5)])) := by
  have := cheapest_spec W H cs hl
  rw [hv, h] at this
  exact this
theorem cheapS {W H : Int} {cs : List Int} {l : List Int} {w : Way} (hl : cs.length ≤ 300) (hv : okC W H cs = true) (h : barO W H cs = some (l, w)) : Spec Try.prog 18 [chR W H cs.length] [⟨0, .ro 0, cs.map C.i⟩] 2 (Is (V.tup [A.c (C.i w.1), A.c (C.i 0)])) := by
  have := cheapest_spec W H cs hl
  rw [hv, h] at this
  exact this
set_option maxRecDepth 10000 in
set_option maxHeartbeats 8000000 in
theorem turns_spec (W H : Int) (cs : List Int) (m : Int) (hm : 0 ≤ m ∧ m ≤ 255) (hcs : ¬ (cs.length : Int) > 300) :
    Spec Try.prog 6 [chR W H cs.length, V.c (.int .u8 m)] [⟨0, .ro 0, cs.map C.i⟩] 1 (Is (V.c (.bool true))) := by
  have hva := rvalid_spec W H cs (by omega)
  refine Spec.of tok Try.func6 rfl rfl rfl fun n0 cx => vc_ok tok ?_
  cases hv : okC W H cs with
  | false =>
    repeat ((conv => whnf); first | (refine And.intro (by first | omega | exact Nat.le_of_ble_eq_true rfl | (dsimp only [inK]; omega) | (simp only [mulS_eq]; omega) | (simp only [mulS_eq, setL_length]; omega) | (simp only [setL_length, List.length_map]; omega) | exact ⟨by omega, by omega, by first | exact Nat.le_of_ble_eq_true rfl | (dsimp only; omega) | (simp only [setL_length]; omega) | (simp only [setL_length, List.length_map]; omega)⟩ | exact ⟨by omega, by first | rfl | omega, by omega, Nat.le_of_ble_eq_true rfl, Nat.le_of_ble_eq_true rfl⟩ | exact ⟨rfl, rfl, rfl, Nat.le_of_ble_eq_true rfl, by first | rfl | omega | exact Nat.le_of_ble_eq_true rfl | (dsimp only; omega) | (simp; done) | (simp; omega), by first | rfl | omega | exact Nat.le_of_ble_eq_true rfl | (dsimp only; omega) | (simp; done) | (simp; omega), by omega, Nat.le_of_ble_eq_true rfl⟩ | exact Eq.refl true) ?_) | (refine Exists.intro _ (And.intro rfl ?_)) | (refine And.intro (And.intro rfl (chk_rowI _ _ _ _)) ?_) | (refine br_t (by omega) ?_) | (refine br_f (by omega) ?_) | (refine bs_t (by omega) ?_) | (refine bs_f (by omega) ?_) | (refine fun (K' : K3) hK' => ?_) | (refine hK' _ _ _ ?_; clear hK' K') | (refine draw_auto tok mixed (by kernel_rfl) ?_) | (refine wide_k (by omega) ?_) | (refine bs_f hcs ?_) | (refine br_f hcs ?_) | (refine CallK.val (R := []) hva (by kernel_rfl) rfl (by simp [V.wf, A.wf, C.wf, V.i]) ⟨roE_ints (l := 0) rfl (by omega) rfl (.inl rfl), trivial⟩ rfl rfl trivial ?_) | (refine bs_bt (congrArg Bool.not hv) ?_) | (refine br_bt (congrArg Bool.not hv) ?_) | (refine awake_k ?_) | (refine bs_bt (Eq.refl true) ?_) | (refine bs_bf (Eq.refl false) ?_) | (refine br_bt (Eq.refl true) ?_) | (refine br_bf (Eq.refl false) ?_) | (refine CallK.m ?_) | (refine And.intro (And.intro rfl rfl) ?_))
    intro ρ; rfl
  | true =>
    have hok := okC_iff.1 hv
    have hmod : 0 ≤ m % 101 ∧ m % 101 ≤ 100 := by omega
    have hl : cs.length ≤ 300 := by omega
    have t1 := turned_spec W H cs hl
    have t3 := strong_spec W H cs (m % 101) hl
    have ho1 : turnO W H cs = some (chgL cs (turnG W H cs)) := by unfold turnO; rw [if_pos hv]
    have ho3 : strO W H cs (m % 101) = some (chgL cs (strG cs (m % 101))) := by unfold strO; rw [if_pos ⟨hv, hmod⟩]
    have ht := turn_cost hok
    have hst := fun l w => str_cost (l := l) (w := w) hok (m % 101)
    have htt := turn_turn hok
    have hv1 := okC_iff.2 hok.turn
    have hv3 := okC_iff.2 (hok.str (m % 101))
    have hl1 := chgL_len cs (turnG W H cs)
    have hl3 := chgL_len cs (strG cs (m % 101))
    have hsame := sameCh_spec W H cs hl
    obtain ⟨c3, hc3⟩ : ∃ c, c = chgL cs (strG cs (m % 101)) := ⟨_, rfl⟩
    obtain ⟨c1, hc1⟩ : ∃ c, c = chgL cs (turnG W H cs) := ⟨_, rfl⟩
    rw [← hc1] at ho1 ht htt hv1 hl1
    rw [← hc3] at ho3 hv3 hl3 hst
    have t2 := turned_spec W H c1 (by omega)
    have ho2 : turnO W H c1 = some cs := by unfold turnO; rw [if_pos hv1, htt]
    cases hb : barO W H cs with
    | none =>
      have hb1 : barO W H c1 = none := by rw [hb] at ht; cases h : barO W H c1 with
        | none => rfl
        | some q => rw [h] at ht; cases ht
      have hb3 : barO W H c3 = none := by cases h : barO W H c3 with
        | none => rfl
        | some q => obtain ⟨_, _, he, _⟩ := hst q.1 q.2 h; rw [hb] at he; cases he
      have k1 := cheapN hl hv hb
      have k2 := cheapN (by omega) hv1 hb1
      have k3 := cheapN (by omega) hv3 hb3
      repeat ((conv => whnf); first | (refine And.intro (by first | omega | exact Nat.le_of_ble_eq_true rfl | (dsimp only [inK]; omega) | (simp only [mulS_eq]; omega) | (simp only [mulS_eq, setL_length]; omega) | (simp only [setL_length, List.length_map]; omega) | exact ⟨by omega, by omega, by first | exact Nat.le_of_ble_eq_true rfl | (dsimp only; omega) | (simp only [setL_length]; omega) | (simp only [setL_length, List.length_map]; omega)⟩ | exact ⟨by omega, by first | rfl | omega, by omega, Nat.le_of_ble_eq_true rfl, Nat.le_of_ble_eq_true rfl⟩ | exact ⟨rfl, rfl, rfl, Nat.le_of_ble_eq_true rfl, by first | rfl | omega | exact Nat.le_of_ble_eq_true rfl | (dsimp only; omega) | (simp; done) | (simp; omega), by first | rfl | omega | exact Nat.le_of_ble_eq_true rfl | (dsimp only; omega) | (simp; done) | (simp; omega), by omega, Nat.le_of_ble_eq_true rfl⟩ | exact Eq.refl true) ?_) | (refine Exists.intro _ (And.intro rfl ?_)) | (refine And.intro (And.intro rfl (chk_rowI _ _ _ _)) ?_) | (refine br_t (by omega) ?_) | (refine br_f (by omega) ?_) | (refine bs_t (by omega) ?_) | (refine bs_f (by omega) ?_) | (refine fun (K' : K3) hK' => ?_) | (refine hK' _ _ _ ?_; clear hK' K') | (refine draw_auto tok mixed (by kernel_rfl) ?_) | (refine wide_k (by omega) ?_) | (refine bs_f hcs ?_) | (refine br_f hcs ?_) | (refine CallK.val (R := []) hva (by kernel_rfl) rfl (by simp [V.wf, A.wf, C.wf, V.i]) ⟨roE_ints (l := 0) rfl (by omega) rfl (.inl rfl), trivial⟩ rfl rfl trivial ?_) | (refine bs_bf (congrArg Bool.not hv) ?_) | (refine br_bf (congrArg Bool.not hv) ?_) | (refine CallK.val (R := []) k1 (by kernel_rfl) rfl (by simp [V.wf, A.wf, C.wf, V.i]) ⟨roE_ints (l := 0) rfl (by omega) rfl (.inl rfl), trivial⟩ rfl rfl (by simp [V.wf, A.wf, C.wf]) ?_) | (refine CallK.chS (R := []) ho1 t1 (by kernel_rfl) rfl (by simp [V.wf, A.wf, C.wf, V.i]) ⟨roE_ints (l := 0) rfl (by omega) rfl (.inl rfl), trivial⟩ rfl ?_) | (refine CallK.val (R := [(0, some 2)]) k2 (by kernel_rfl) rfl (by simp [V.wf, A.wf, C.wf, V.i]) ⟨roE_ints (l := 2) rfl (by omega) rfl (.inl rfl), trivial⟩ rfl rfl (by simp [V.wf, A.wf, C.wf]) ?_) | (refine CallK.chS (R := []) ho3 t3 (by kernel_rfl) rfl (by simp [V.wf, A.wf, C.wf, V.i]) ⟨roE_ints (l := 0) rfl (by omega) rfl (.inl rfl), trivial⟩ rfl ?_) | (refine CallK.val (R := [(0, some 4)]) k3 (by kernel_rfl) rfl (by simp [V.wf, A.wf, C.wf, V.i]) ⟨roE_ints (l := 4) rfl (by omega) rfl (.inl rfl), trivial⟩ rfl rfl (by simp [V.wf, A.wf, C.wf]) ?_) | (refine CallK.chS (R := [(0, some 2)]) ho2 t2 (by kernel_rfl) rfl (by simp [V.wf, A.wf, C.wf, V.i]) ⟨roE_ints (l := 2) rfl (by omega) rfl (.inl rfl), trivial⟩ rfl ?_) | (refine CallK.val (R := [(0, some 6), (1, some 0)]) hsame (by kernel_rfl) rfl (by simp [V.wf, A.wf, C.wf, V.i]) ⟨roE_ints (l := 6) rfl (by omega) rfl (.inl rfl), roE_ints (l := 0) rfl (by omega) rfl (.inl rfl), trivial⟩ rfl rfl trivial ?_) | (refine bs_bf (Eq.refl false) ?_) | (refine br_bf (Eq.refl false) ?_) | (refine bs_bf (nd_f rfl) ?_) | (refine br_bf (nd_f rfl) ?_) | (refine bs_bt (Eq.refl true) ?_) | (refine br_bt (Eq.refl true) ?_) | (refine awake_k ?_) | (refine bs_bt (Eq.refl true) ?_) | (refine bs_bf (Eq.refl false) ?_) | (refine br_bt (Eq.refl true) ?_) | (refine br_bf (Eq.refl false) ?_) | (refine CallK.m ?_) | (refine And.intro (And.intro rfl rfl) ?_))
      intro ρ; rfl
    | some q =>
      obtain ⟨l, w⟩ := q
      obtain ⟨l1, w1, hb1, hw1⟩ : ∃ l1 w1, barO W H c1 = some (l1, w1) ∧ w1.1 = w.1 := by
        rw [hb] at ht
        cases h : barO W H c1 with
        | none => rw [h] at ht; cases ht
        | some q => rw [h] at ht; exact ⟨q.1, q.2, rfl, Option.some.inj ht⟩
      have k1 := cheapS hl hv hb
      have k2 := cheapS (by omega) hv1 hb1
      rw [hw1] at k2
      have hba := pBarrier_spec W H cs hl
      obtain ⟨e1, e2⟩ := barC_some hv hb
      rw [e1, e2] at hba
      have hbi := bar_is hok hb
      have hcl : (cellsL W l).length ≤ 300 := by simp only [cellsL, List.length_map]; omega
      have hce := lawCells_spec W H cs (cellsL W l) (by have := hok.w; omega) hl hcl
      have hcb : (cellsF W cs (cellsL W l)).length ≤ 300 := by
        have := boomsL_len W cs
        have := List.length_filter_le (fun p => decide (p ∈ cellsL W l)) (boomsL W cs)
        unfold cellsF; omega
      have t4 := dry_spec W H cs (cellsF W cs (cellsL W l)) hl hcb
      have ho4 : dryO W H cs (cellsF W cs (cellsL W l)) = some (chgL cs (dryG W H cs (cellsF W cs (cellsL W l)))) := by unfold dryO; rw [if_pos ⟨hv, cellsF_ok hok _⟩]
      obtain ⟨l4, w4, hb4, hw4⟩ := dry_zero hok hbi.1
      have hv4 := okC_iff.2 (hok.dry (cellsF W cs (cellsL W l)))
      have hl4 := chgL_len cs (dryG W H cs (cellsF W cs (cellsL W l)))
      obtain ⟨bl, hbl⟩ : ∃ b, b = cellsL W l := ⟨_, rfl⟩
      rw [← hbl] at hba hce hcb t4 ho4 hb4 hv4 hl4 hcl
      obtain ⟨bs, hbs⟩ : ∃ b, b = cellsF W cs bl := ⟨_, rfl⟩
      rw [← hbs] at hce hcb t4 ho4 hb4 hv4 hl4
      obtain ⟨c4, hc4⟩ : ∃ c, c = chgL cs (dryG W H cs bs) := ⟨_, rfl⟩
      rw [← hc4] at ho4 hb4 hv4 hl4
      have k4 := cheapS (by omega) hv4 hb4
      rw [hw4] at k4
      obtain ⟨x, hx⟩ : ∃ x, x = w.1 := ⟨_, rfl⟩
      rw [← hx] at k1 k2
      cases hb3 : barO W H c3 with
      | none =>
        have k3 := cheapN (by omega) hv3 hb3
        repeat ((conv => whnf); first | (refine And.intro (by first | omega | exact Nat.le_of_ble_eq_true rfl | (dsimp only [inK]; omega) | (simp only [mulS_eq]; omega) | (simp only [mulS_eq, setL_length]; omega) | (simp only [setL_length, List.length_map]; omega) | exact ⟨by omega, by omega, by first | exact Nat.le_of_ble_eq_true rfl | (dsimp only; omega) | (simp only [setL_length]; omega) | (simp only [setL_length, List.length_map]; omega)⟩ | exact ⟨by omega, by first | rfl | omega, by omega, Nat.le_of_ble_eq_true rfl, Nat.le_of_ble_eq_true rfl⟩ | exact ⟨rfl, rfl, rfl, Nat.le_of_ble_eq_true rfl, by first | rfl | omega | exact Nat.le_of_ble_eq_true rfl | (dsimp only; omega) | (simp; done) | (simp; omega), by first | rfl | omega | exact Nat.le_of_ble_eq_true rfl | (dsimp only; omega) | (simp; done) | (simp; omega), by omega, Nat.le_of_ble_eq_true rfl⟩ | exact Eq.refl true) ?_) | (refine Exists.intro _ (And.intro rfl ?_)) | (refine And.intro (And.intro rfl (chk_rowI _ _ _ _)) ?_) | (refine br_t (by omega) ?_) | (refine br_f (by omega) ?_) | (refine bs_t (by omega) ?_) | (refine bs_f (by omega) ?_) | (refine fun (K' : K3) hK' => ?_) | (refine hK' _ _ _ ?_; clear hK' K') | (refine draw_late 10 [11] tok mixed (by decide +kernel) ?_) | (refine draw_auto tok mixed (by kernel_rfl) ?_) | (refine wide_k (by omega) ?_) | (refine bs_f hcs ?_) | (refine br_f hcs ?_) | (refine CallK.val (R := []) hva (by kernel_rfl) rfl (by simp [V.wf, A.wf, C.wf, V.i]) ⟨roE_ints (l := 0) rfl (by omega) rfl (.inl rfl), trivial⟩ rfl rfl trivial ?_) | (refine bs_bf (congrArg Bool.not hv) ?_) | (refine br_bf (congrArg Bool.not hv) ?_) | (refine CallK.val (R := []) k1 (by kernel_rfl) rfl (by simp [V.wf, A.wf, C.wf, V.i]) ⟨roE_ints (l := 0) rfl (by omega) rfl (.inl rfl), trivial⟩ rfl rfl (by simp [V.wf, A.wf, C.wf]) ?_) | (refine CallK.chS (R := []) ho1 t1 (by kernel_rfl) rfl (by simp [V.wf, A.wf, C.wf, V.i]) ⟨roE_ints (l := 0) rfl (by omega) rfl (.inl rfl), trivial⟩ rfl ?_) | (refine CallK.val (R := [(0, some 2)]) k2 (by kernel_rfl) rfl (by simp [V.wf, A.wf, C.wf, V.i]) ⟨roE_ints (l := 2) rfl (by omega) rfl (.inl rfl), trivial⟩ rfl rfl (by simp [V.wf, A.wf, C.wf]) ?_) | (refine CallK.chS (R := []) ho3 t3 (by kernel_rfl) rfl (by simp [V.wf, A.wf, C.wf, V.i]) ⟨roE_ints (l := 0) rfl (by omega) rfl (.inl rfl), trivial⟩ rfl ?_) | (refine CallK.val (R := [(0, some 4)]) k3 (by kernel_rfl) rfl (by simp [V.wf, A.wf, C.wf, V.i]) ⟨roE_ints (l := 4) rfl (by omega) rfl (.inl rfl), trivial⟩ rfl rfl (by simp [V.wf, A.wf, C.wf]) ?_) | (refine CallK.chS (R := [(0, some 2)]) ho2 t2 (by kernel_rfl) rfl (by simp [V.wf, A.wf, C.wf, V.i]) ⟨roE_ints (l := 2) rfl (by omega) rfl (.inl rfl), trivial⟩ rfl ?_) | (refine CallK.val (R := [(0, some 6), (1, some 0)]) hsame (by kernel_rfl) rfl (by simp [V.wf, A.wf, C.wf, V.i]) ⟨roE_ints (l := 6) rfl (by omega) rfl (.inl rfl), roE_ints (l := 0) rfl (by omega) rfl (.inl rfl), trivial⟩ rfl rfl trivial ?_) | (refine CallK.cellsE (R := []) hba (by kernel_rfl) rfl (by simp [V.wf, A.wf, C.wf, V.i]) ⟨roE_ints (l := 0) rfl (by omega) rfl (.inl rfl), trivial⟩ rfl ?_) | (refine HD_mk (fun _ h => CallK.cellsR (R := [(0, some 0), (1, some 8)]) hce (by kernel_rfl) rfl (by simp [V.wf, A.wf, C.wf, V.i]) ⟨roE_ints (l := 0) rfl (by omega) rfl (.inl rfl), roE_cells (l := 8) rfl (by omega) rfl (.inr rfl), trivial⟩ rfl h) ?_) | (refine And.intro (And.intro rfl (chk_rowC _ _ _ _)) ?_) | (refine HD_mk (fun _ h => CallK.chS (R := [(0, some 0), (1, some 9)]) ho4 t4 (by kernel_rfl) rfl (by simp [V.wf, A.wf, C.wf, V.i]) ⟨roE_ints (l := 0) rfl (by omega) rfl (.inl rfl), roE_cells (l := 9) rfl (by omega) rfl (.inl rfl), trivial⟩ rfl h) ?_) | (refine CallK.val (R := [(0, some 10)]) k4 (by kernel_rfl) rfl (by simp [V.wf, A.wf, C.wf, V.i]) ⟨roE_ints (l := 10) rfl (by omega) rfl (.inl rfl), trivial⟩ rfl rfl (by simp [V.wf, A.wf, C.wf]) ?_) | (refine bs_bf (Eq.refl false) ?_) | (refine br_bf (Eq.refl false) ?_) | (refine bs_bf (nd_f rfl) ?_) | (refine br_bf (nd_f rfl) ?_) | (refine bs_bt (Eq.refl true) ?_) | (refine br_bt (Eq.refl true) ?_) | (refine awake_k ?_) | (refine bs_bt (Eq.refl true) ?_) | (refine bs_bf (Eq.refl false) ?_) | (refine br_bt (Eq.refl true) ?_) | (refine br_bf (Eq.refl false) ?_) | (refine CallK.m ?_) | (refine And.intro (And.intro rfl rfl) ?_))
        intro ρ; rfl
      | some q =>
        obtain ⟨l3, w3⟩ := q
        have k3 := cheapS (by omega) hv3 hb3
        have hle : ¬ w3.1 < x := by
          obtain ⟨_, _, he, h'⟩ := hst _ _ hb3
          rw [hb] at he; cases he; omega
        obtain ⟨y, hy⟩ : ∃ y, y = w3.1 := ⟨_, rfl⟩
        rw [← hy] at k3 hle
        repeat ((conv => whnf); first | (refine And.intro (by first | omega | exact Nat.le_of_ble_eq_true rfl | (dsimp only [inK]; omega) | (simp only [mulS_eq]; omega) | (simp only [mulS_eq, setL_length]; omega) | (simp only [setL_length, List.length_map]; omega) | exact ⟨by omega, by omega, by first | exact Nat.le_of_ble_eq_true rfl | (dsimp only; omega) | (simp only [setL_length]; omega) | (simp only [setL_length, List.length_map]; omega)⟩ | exact ⟨by omega, by first | rfl | omega, by omega, Nat.le_of_ble_eq_true rfl, Nat.le_of_ble_eq_true rfl⟩ | exact ⟨rfl, rfl, rfl, Nat.le_of_ble_eq_true rfl, by first | rfl | omega | exact Nat.le_of_ble_eq_true rfl | (dsimp only; omega) | (simp; done) | (simp; omega), by first | rfl | omega | exact Nat.le_of_ble_eq_true rfl | (dsimp only; omega) | (simp; done) | (simp; omega), by omega, Nat.le_of_ble_eq_true rfl⟩ | exact Eq.refl true) ?_) | (refine Exists.intro _ (And.intro rfl ?_)) | (refine And.intro (And.intro rfl (chk_rowI _ _ _ _)) ?_) | (refine br_t (by omega) ?_) | (refine br_f (by omega) ?_) | (refine bs_t (by omega) ?_) | (refine bs_f (by omega) ?_) | (refine fun (K' : K3) hK' => ?_) | (refine hK' _ _ _ ?_; clear hK' K') | (refine draw_late 10 [11] tok mixed (by decide +kernel) ?_) | (refine draw_auto tok mixed (by kernel_rfl) ?_) | (refine wide_k (by omega) ?_) | (refine bs_f hcs ?_) | (refine br_f hcs ?_) | (refine CallK.val (R := []) hva (by kernel_rfl) rfl (by simp [V.wf, A.wf, C.wf, V.i]) ⟨roE_ints (l := 0) rfl (by omega) rfl (.inl rfl), trivial⟩ rfl rfl trivial ?_) | (refine bs_bf (congrArg Bool.not hv) ?_) | (refine br_bf (congrArg Bool.not hv) ?_) | (refine CallK.val (R := []) k1 (by kernel_rfl) rfl (by simp [V.wf, A.wf, C.wf, V.i]) ⟨roE_ints (l := 0) rfl (by omega) rfl (.inl rfl), trivial⟩ rfl rfl (by simp [V.wf, A.wf, C.wf]) ?_) | (refine CallK.chS (R := []) ho1 t1 (by kernel_rfl) rfl (by simp [V.wf, A.wf, C.wf, V.i]) ⟨roE_ints (l := 0) rfl (by omega) rfl (.inl rfl), trivial⟩ rfl ?_) | (refine CallK.val (R := [(0, some 2)]) k2 (by kernel_rfl) rfl (by simp [V.wf, A.wf, C.wf, V.i]) ⟨roE_ints (l := 2) rfl (by omega) rfl (.inl rfl), trivial⟩ rfl rfl (by simp [V.wf, A.wf, C.wf]) ?_) | (refine CallK.chS (R := []) ho3 t3 (by kernel_rfl) rfl (by simp [V.wf, A.wf, C.wf, V.i]) ⟨roE_ints (l := 0) rfl (by omega) rfl (.inl rfl), trivial⟩ rfl ?_) | (refine CallK.val (R := [(0, some 4)]) k3 (by kernel_rfl) rfl (by simp [V.wf, A.wf, C.wf, V.i]) ⟨roE_ints (l := 4) rfl (by omega) rfl (.inl rfl), trivial⟩ rfl rfl (by simp [V.wf, A.wf, C.wf]) ?_) | (refine CallK.chS (R := [(0, some 2)]) ho2 t2 (by kernel_rfl) rfl (by simp [V.wf, A.wf, C.wf, V.i]) ⟨roE_ints (l := 2) rfl (by omega) rfl (.inl rfl), trivial⟩ rfl ?_) | (refine CallK.val (R := [(0, some 6), (1, some 0)]) hsame (by kernel_rfl) rfl (by simp [V.wf, A.wf, C.wf, V.i]) ⟨roE_ints (l := 6) rfl (by omega) rfl (.inl rfl), roE_ints (l := 0) rfl (by omega) rfl (.inl rfl), trivial⟩ rfl rfl trivial ?_) | (refine CallK.cellsE (R := []) hba (by kernel_rfl) rfl (by simp [V.wf, A.wf, C.wf, V.i]) ⟨roE_ints (l := 0) rfl (by omega) rfl (.inl rfl), trivial⟩ rfl ?_) | (refine HD_mk (fun _ h => CallK.cellsR (R := [(0, some 0), (1, some 8)]) hce (by kernel_rfl) rfl (by simp [V.wf, A.wf, C.wf, V.i]) ⟨roE_ints (l := 0) rfl (by omega) rfl (.inl rfl), roE_cells (l := 8) rfl (by omega) rfl (.inr rfl), trivial⟩ rfl h) ?_) | (refine And.intro (And.intro rfl (chk_rowC _ _ _ _)) ?_) | (refine HD_mk (fun _ h => CallK.chS (R := [(0, some 0), (1, some 9)]) ho4 t4 (by kernel_rfl) rfl (by simp [V.wf, A.wf, C.wf, V.i]) ⟨roE_ints (l := 0) rfl (by omega) rfl (.inl rfl), roE_cells (l := 9) rfl (by omega) rfl (.inl rfl), trivial⟩ rfl h) ?_) | (refine CallK.val (R := [(0, some 10)]) k4 (by kernel_rfl) rfl (by simp [V.wf, A.wf, C.wf, V.i]) ⟨roE_ints (l := 10) rfl (by omega) rfl (.inl rfl), trivial⟩ rfl rfl (by simp [V.wf, A.wf, C.wf]) ?_) | (refine bs_f hle ?_) | (refine br_f hle ?_) | (refine bs_bf (Eq.refl false) ?_) | (refine br_bf (Eq.refl false) ?_) | (refine bs_bf (nd_f rfl) ?_) | (refine br_bf (nd_f rfl) ?_) | (refine bs_bt (Eq.refl true) ?_) | (refine br_bt (Eq.refl true) ?_) | (refine awake_k ?_) | (refine bs_bt (Eq.refl true) ?_) | (refine bs_bf (Eq.refl false) ?_) | (refine br_bt (Eq.refl true) ?_) | (refine br_bf (Eq.refl false) ?_) | (refine CallK.m ?_) | (refine And.intro (And.intro rfl rfl) ?_))
        intro ρ; rfl
theorem turns_any (W H : Int) (cs : List Int) (m : Int) (hm : 0 ≤ m ∧ m ≤ 255) (ao : Option Addr) (c : Nat) (w : World) (h : IntsAt w ao cs) :
    Calls Try.prog 6 #[.agg #[.int .i64 W, .int .i64 H, .slice ao cs.length c], .int .u8 m] w fun e w' => e = .returned (.bool true) ∧ Below w.heap.size w w' := by
  by_cases hl : (cs.length : Int) > 300
  · exact isTrue_any (vs := [chR W H cs.length, V.c (.int .u8 m)]) (turns_long W H cs m h.2 hl) (hp_1 h) (by simp [V.wf, A.wf, C.wf]) rfl
  · exact isTrue_any (vs := [chR W H cs.length, V.c (.int .u8 m)]) (turns_spec W H cs m hm hl) (hp_1 h) (by simp [V.wf, A.wf, C.wf]) rfl
end Go.Proofs.Ytbhpnhcdjmcaoaa

