/- Texts of the proof, part 6: H4, P12, P13, L12. -/
import Derived.Test.YtbhpnhcdjmcaoaaG5
import Derived.WalkKit
import Derived.Below
import Derived.Laws.OwnMore
import Derived.Maps.AppendAt
import Derived.Laws.IdiomCopy
import Derived.Laws.CopyRow
import Derived.IntWalk
import Derived.StillTail
import Derived.Scope
import Derived.ChangeKeysEq
import Derived.Laws.Small
import Derived.OrdersIn
import Derived.TacticsIn
import Derived.OwnWalkIn
import Derived.RangeFuncNested
import Derived.RangeFuncLeaves
import Derived.RangeFuncRecord
import Derived.Maps.Keyed
import Derived.Maps.RangeRun
import Derived.DeepKeys4
import Derived.Test.YtbhpnhcdjmcaoaaRows
import Derived.KernelRfl
import Derived.ProofKit
import Derived.OpenShut
import Derived.Lib.SmallJoins
import Derived.Deep.Slices
/- Boom, the reference: what heights prove. -/
namespace Go.Proofs.Ytbhpnhcdjmcaoaa
open Go.RowKit
set_option linter.unusedVariables false
set_option linter.unusedSimpArgs false
theorem any_no {l : List Int} (h : ∀ j, j < l.length → 0 ≤ l.getD j 0 ∧ l.getD j 0 ≤ 1000000) : l.any hBad = false := by
  rw [List.any_eq_false]
  intro x hx
  obtain ⟨j, hj, rfl⟩ := List.mem_iff_getElem.1 hx
  have := h j hj
  rw [List.getD_eq_getElem?_getD, List.getElem?_eq_getElem hj] at this
  have h2 : 0 ≤ l[j] ∧ l[j] ≤ 1000000 := this
  simp [hBad, h2]
theorem any_yes {l : List Int} {j : Nat} (hj : j < l.length) (h : ¬ (0 ≤ l.getD j 0 ∧ l.getD j 0 ≤ 1000000)) : l.any hBad = true := by
  rw [List.any_eq_true]
  exact ⟨l.getD j 0, getD_mem hj, by unfold hBad; rw [dd_f h]; rfl⟩
set_option maxRecDepth 10000 in
set_option maxHeartbeats 8000000 in
theorem rproves_spec (W H : Int) (cs hs : List Int) (n : Int) (hl : cs.length ≤ 300) (hl2 : hs.length ≤ 300) (hn : -9223372036854775808 ≤ n ∧ n ≤ 9223372036854775807) :
    Spec Try.prog 34 [chR W H cs.length, V.c (.sl 1 hs.length), V.i n] [⟨0, .ro 0, cs.map C.i⟩, ⟨1, .ro 0, hs.map C.i⟩] 2 (Is (V.tup [A.c (.bool (prvB W H cs hs n)), A.c (C.i (prvE W H cs hs n))])) := by
  have hlm : (cs.map C.i).length = cs.length := by simp
  have hlh : (hs.map C.i).length = hs.length := by simp
  have hva := rvalid_spec W H cs hl
  refine Spec.of tok Try.func34 rfl rfl rfl fun n0 cx => vc_ok tok ?_
  cases hv : okC W H cs with
  | false =>
    have r1 : prvB W H cs hs n = false := by unfold prvB; rw [hv]; rfl
    have r2 : prvE W H cs hs n = 30 := by unfold prvE; rw [hv]; rfl
    rw [r1, r2]
    repeat ((conv => whnf); first | refine Exists.intro _ (And.intro rfl ?_) | refine fun (K' : K3) hK' => ?_ | (refine hK' _ _ _ ?_; clear hK' K') | refine CallK.val (R := []) hva (by kernel_rfl) rfl (by simp [V.wf, A.wf, C.wf]) ⟨roE_ints (l := 0) rfl (by omega) rfl (.inl rfl), trivial⟩ rfl rfl trivial ?_ | refine br_bt (congrArg Bool.not hv) ?_ | refine CallK.m ?_)
    intro ρ; rfl
  | true =>
    have hok := okC_iff.1 hv
    have hW := hok.w
    have hH := hok.h
    have hcn := hok.len
    have hn100 : (cs.length : Int) ≤ 100 := by have := Int.mul_le_mul hW.2 hH.2 (by omega) (by omega : (0:Int) ≤ 10); omega
    have hcb := cst_bd hok.cost
    have bad : ¬ (hs.length = cs.length ∧ (0 ≤ n ∧ n ≤ 1000000) ∧ hs.any hBad = false) → prvB W H cs hs n = false ∧ prvE W H cs hs n = 2 := fun h => by
      have hb : (decide (hs.length = cs.length) && (decide (0 ≤ n ∧ n ≤ 1000000) && !hs.any hBad)) = false := by
        cases hh : (decide (hs.length = cs.length) && (decide (0 ≤ n ∧ n ≤ 1000000) && !hs.any hBad)) with
        | false => rfl
        | true =>
          rw [Bool.and_eq_true, Bool.and_eq_true, decide_eq_true_eq, decide_eq_true_eq, Bool.not_eq_true'] at hh
          exact absurd hh h
      unfold prvB prvE
      rw [hv, hb]; exact ⟨rfl, rfl⟩
    by_cases g1 : (hs.length : Int) = cs.length
    · by_cases g2 : n < 0
      · obtain ⟨r1, r2⟩ := bad (fun h => by omega)
        rw [r1, r2]
        repeat ((conv => whnf); first | (refine And.intro (by first | omega | exact Nat.le_of_ble_eq_true rfl) ?_) | refine Exists.intro _ (And.intro rfl ?_) | refine bs_t (by omega) ?_ | refine bs_f (by omega) ?_ | refine fun (K' : K3) hK' => ?_ | (refine hK' _ _ _ ?_; clear hK' K') | refine CallK.val (R := []) hva (by kernel_rfl) rfl (by simp [V.wf, A.wf, C.wf]) ⟨roE_ints (l := 0) rfl (by omega) rfl (.inl rfl), trivial⟩ rfl rfl trivial ?_ | refine br_bf (congrArg Bool.not hv) ?_ | refine CallK.m ?_)
        intro ρ; rfl
      · by_cases g3 : n > 1000000
        · obtain ⟨r1, r2⟩ := bad (fun h => by omega)
          rw [r1, r2]
          repeat ((conv => whnf); first | (refine And.intro (by first | omega | exact Nat.le_of_ble_eq_true rfl) ?_) | refine Exists.intro _ (And.intro rfl ?_) | refine br_t (by omega) ?_ | refine bs_f (by omega) ?_ | refine fun (K' : K3) hK' => ?_ | (refine hK' _ _ _ ?_; clear hK' K') | refine CallK.val (R := []) hva (by kernel_rfl) rfl (by simp [V.wf, A.wf, C.wf]) ⟨roE_ints (l := 0) rfl (by omega) rfl (.inl rfl), trivial⟩ rfl rfl trivial ?_ | refine br_bf (congrArg Bool.not hv) ?_ | refine CallK.m ?_)
          intro ρ; rfl
        · repeat ((conv => whnf); first | (refine And.intro (by first | omega | exact Nat.le_of_ble_eq_true rfl) ?_) | refine Exists.intro _ (And.intro rfl ?_) | refine br_f (by omega) ?_ | refine bs_f (by omega) ?_ | refine fun (K' : K3) hK' => ?_ | (refine hK' _ _ _ ?_; clear hK' K') | refine CallK.val (R := []) hva (by kernel_rfl) rfl (by simp [V.wf, A.wf, C.wf]) ⟨roE_ints (l := 0) rfl (by omega) rfl (.inl rfl), trivial⟩ rfl rfl trivial ?_ | refine br_bf (congrArg Bool.not hv) ?_ | refine CallK.m ?_)
          refine Tri.loop (γ := Nat) (fun j => j ≤ hs.length ∧ ∀ i, i < j → 0 ≤ hs.getD i 0 ∧ hs.getD i 0 ≤ 1000000) (fun j => [(1, V.c (.sl 1 hs.length)), (2, V.i n), (3, V.c (.ptr 2 0)), (31, V.c (.sl 1 hs.length)), (32, V.i hs.length), (33, V.i (j : Nat))])
            (fun j => [⟨2, .own 24, [C.i W, C.i H, .sl 0 cs.length]⟩, ⟨1, .ro 0, hs.map C.i⟩, ⟨0, .ro 0, cs.map C.i⟩]) 3 (fun j => hs.length - j) 0 (R0 := []) ?_ ?_ ?_
          · exact ⟨by omega, fun i hi => by omega⟩
          · skip
            refine ⟨?_, ?_, rfl, rfl, by exact Nat.le_of_ble_eq_true rfl⟩
            · repeat (first | exact trivial | (refine And.intro (covS_syn (by rfl) rfl (by first | exact trivial | exact Nat.le_of_ble_eq_true rfl)) ?_))
            · repeat (first | exact trivial | (refine And.intro (covE_id (Nat.le_of_ble_eq_true rfl) (by first | exact wf_ints _ _ | simp [C.wf]) rfl (by rfl)) ?_))
          · rintro j ⟨hj, hrng⟩
            refine vc_ok tok ?_
            by_cases hjl : j < hs.length
            · have hld := intL hjl
              have hy := any_yes hjl
              obtain ⟨x, hx⟩ : ∃ x, x = hs.getD j 0 := ⟨_, rfl⟩
              rw [← hx] at hld hy
              by_cases k1 : x < 0
              · obtain ⟨r1, r2⟩ := bad (fun h => by rw [hy (by omega)] at h; cases h.2.2)
                rw [r1, r2]
                repeat ((conv => whnf); first | (refine And.intro (by first | omega | (dsimp only [inK]; omega)) ?_) | with_reducible refine ld (hld) ?_ | refine br_t (by omega) ?_ | refine bs_t (by omega) ?_ | refine fun (K' : K3) hK' => ?_ | (refine hK' _ _ _ ?_; clear hK' K'))
                intro ρ; rfl
              · by_cases k2 : x > 1000000
                · obtain ⟨r1, r2⟩ := bad (fun h => by rw [hy (by omega)] at h; cases h.2.2)
                  rw [r1, r2]
                  repeat ((conv => whnf); first | (refine And.intro (by first | omega | (dsimp only [inK]; omega)) ?_) | with_reducible refine ld (hld) ?_ | refine br_t (by omega) ?_ | refine bs_f (by omega) ?_ | refine fun (K' : K3) hK' => ?_ | (refine hK' _ _ _ ?_; clear hK' K'))
                  intro ρ; rfl
                · repeat ((conv => whnf); first | (refine And.intro (by first | omega | (dsimp only [inK]; omega)) ?_) | with_reducible refine ld (hld) ?_ | refine br_t (by omega) ?_ | refine br_f (by omega) ?_ | refine bs_f (by omega) ?_ | refine fun (K' : K3) hK' => ?_ | (refine hK' _ _ _ ?_; clear hK' K'))
                  refine ⟨j + 1, [], ⟨by omega, fun i hi => ?_⟩, by omega, ?_⟩
                  · by_cases hij : i = j
                    · rw [hij, ← hx]; omega
                    · exact hrng i (by omega)
                  · skip
                    refine ⟨?_, ?_, rfl, rfl, by exact Nat.le_of_ble_eq_true rfl⟩
                    · repeat (first | exact trivial | (refine And.intro (covS_syn (by rfl) rfl (by first | exact trivial | exact Nat.le_of_ble_eq_true rfl)) ?_))
                    · repeat (first | exact trivial | (refine And.intro (covE_id (Nat.le_of_ble_eq_true rfl) (by first | exact wf_ints _ _ | simp [C.wf]) rfl (by rfl)) ?_))
            · have hje : j = hs.length := by omega
              subst hje
              have g4 := any_no hrng
              have g1' : hs.length = cs.length := by omega
              have r1 : prvB W H cs hs n = provR W H cs hs n := by unfold prvB; rw [hv, g4, dd_t g1', dd_t (show 0 ≤ n ∧ n ≤ 1000000 by omega), prov_eq hok]; simp
              have r2 : prvE W H cs hs n = 0 := by unfold prvE; rw [hv, g4, dd_t g1', dd_t (show 0 ≤ n ∧ n ≤ 1000000 by omega)]; rfl
              rw [r1, r2]
              repeat ((conv => whnf); first | (refine And.intro (by first | omega | exact Nat.le_of_ble_eq_true rfl) ?_) | refine Exists.intro _ (And.intro rfl ?_) | refine br_f (by omega) ?_ | refine fun (K' : K3) hK' => ?_ | (refine hK' _ _ _ ?_; clear hK' K'))
              refine Tri.loop (γ := Nat) (fun i => i ≤ cs.length ∧ ∀ j : Nat, j < i → okRi W H cs hs n j = true) (fun i => [(1, V.c (.sl 1 hs.length)), (2, V.i n), (3, V.c (.ptr 2 0)), (45, V.c (.sl 0 cs.length)), (46, V.i cs.length), (47, V.i (i : Nat))])
                (fun i => [⟨2, .own 24, [C.i W, C.i H, .sl 0 cs.length]⟩, ⟨1, .ro 0, hs.map C.i⟩, ⟨0, .ro 0, cs.map C.i⟩]) 3 (fun i => cs.length - i) 0 (R0 := []) ?_ ?_ ?_
              · exact ⟨by omega, fun j hj => by omega⟩
              · skip
                refine ⟨?_, ?_, rfl, rfl, by exact Nat.le_of_ble_eq_true rfl⟩
                · repeat (first | exact trivial | (refine And.intro (covS_syn (by rfl) rfl (by first | exact trivial | exact Nat.le_of_ble_eq_true rfl)) ?_))
                · repeat (first | exact trivial | (refine And.intro (covE_id (Nat.le_of_ble_eq_true rfl) (by first | exact wf_ints _ _ | simp [C.wf]) rfl (by rfl)) ?_))
              · rintro i ⟨hi, hall⟩
                refine vc_ok tok ?_
                by_cases hlt : i < cs.length
                · have hld := intL (l := hs) (k := i) (by omega)
                  have hldc := intL hlt
                  have hri := hrng i (by omega)
                  have hhl : hldI cs (i : Int) = decide (cs.getD i 0 ≠ 0) := by simp [hldI]
                  have hrc := rcost_spec W H cs i hlt
                  have hci := hcb (i : Int)
                  have hno := fun h => provR_no (W := W) (H := H) (hs := hs) (n := n) hlt h
                  have hoi : okRi W H cs hs n (i : Int) = (!hldI cs (i : Int) || (!((decide ((i : Int) / W = 0) && decide (hL hs (i : Int) > cstI cs (i : Int))) || (decide ((i : Int) / W = H - 1) && decide (hL hs (i : Int) < n))) && (nearL W H true (i : Int)).all fun k => !(hldI cs k && decide (hL hs (i : Int) > hL hs k + cstI cs (i : Int))))) := rfl
                  have hei : hs.getD i 0 = hL hs (i : Int) := by unfold hL; rw [Int.toNat_natCast]
                  rw [hei] at hld hri
                  have hb0 := row_iff (W := W) (H := 1) (i := (i : Int)) (by omega)
                  have hbH := row_iff (W := W) (H := H) (i := (i : Int)) (by omega)
                  have hHW : (H - 1) * W = cs.length - W := by rw [Int.sub_mul, Int.mul_comm H W]; omega
                  have hrow0 : (i : Int) / W = 0 ↔ (i : Int) < W := by rw [show (0 : Int) = 1 - 1 by omega, hb0]; simp; 
                  have hrowH : (i : Int) / W = H - 1 ↔ (i : Int) ≥ (cs.length : Int) - W := by rw [hbH, hHW]; omega
                  rw [decide_eq_decide.2 hrow0, decide_eq_decide.2 hrowH] at hoi
                  obtain ⟨xi, hxi⟩ : ∃ x, x = hL hs (i : Int) := ⟨_, rfl⟩
                  rw [← hxi] at hld hri hoi
                  obtain ⟨ci, hcie⟩ : ∃ x, x = cstI cs (i : Int) := ⟨_, rfl⟩
                  rw [← hcie] at hrc hci hoi
                  obtain ⟨ai, haie⟩ : ∃ x, x = cs.getD i 0 := ⟨_, rfl⟩
                  rw [← haie] at hldc hhl
                  have fin : okRi W H cs hs n (i : Int) = true → ∀ j : Nat, j < i + 1 → okRi W H cs hs n j = true := fun h j hj => by
                    by_cases hji : j = i
                    · rw [hji]; exact h
                    · exact hall j (by omega)
                  by_cases h1 : ai = 0
                  · repeat ((conv => whnf); first | (refine And.intro (by first | omega | (dsimp only [inK]; omega)) ?_) | with_reducible refine ld (hldc) ?_ | refine br_t (by omega) ?_ | refine fun (K' : K3) hK' => ?_ | (refine hK' _ _ _ ?_; clear hK' K'))
                    refine ⟨i + 1, [], ⟨by omega, fin (by rw [hoi, hhl, dd_f (fun h => h h1)]; rfl)⟩, by omega, ?_⟩
                    refine ⟨?_, ?_, rfl, rfl, by exact Nat.le_of_ble_eq_true rfl⟩
                    · repeat (first | exact trivial | (refine And.intro (covS_syn (by rfl) rfl (by first | exact trivial | exact Nat.le_of_ble_eq_true rfl)) ?_))
                    · repeat (first | exact trivial | (refine And.intro (covE_id (Nat.le_of_ble_eq_true rfl) (by first | exact wf_ints _ _ | simp [C.wf]) rfl (by rfl)) ?_))
                  · rw [hhl, dd_t h1, Bool.not_true, Bool.false_or] at hoi
                    by_cases k1 : (i : Int) < W ∧ xi > ci
                    · have hr := hno (by rw [hoi, dd_t k1.1, dd_t k1.2]; rfl)
                      repeat ((conv => whnf); first | (refine And.intro (by first | omega | exact Nat.le_of_ble_eq_true rfl | (dsimp only [inK]; omega)) ?_) | with_reducible refine ld (hldc) ?_ | with_reducible refine ld (hld) ?_ | refine Exists.intro _ (And.intro rfl ?_) | refine br_t (by omega) ?_ | refine br_f (by omega) ?_ | refine bs_t (by omega) ?_ | refine fun (K' : K3) hK' => ?_ | (refine hK' _ _ _ ?_; clear hK' K') | refine draw_auto tok mixed (by kernel_rfl) ?_ | refine HD_mk (fun _ h => CallK.val (R := []) hrc (by kernel_rfl) rfl (by simp [V.wf, A.wf, C.wf]) ⟨roE_ints (l := 0) rfl (by omega) rfl (.inl rfl), trivial⟩ rfl rfl trivial h) ?_)
                      intro ρ; rw [hr]; rfl
                    · by_cases k2 : (i : Int) ≥ (cs.length : Int) - W ∧ xi < n
                      · have hr := hno (by rw [hoi, dd_t k2.1, dd_t k2.2]; simp)
                        by_cases k3 : (i : Int) < W
                        · have k4 : ¬ xi > ci := fun h => k1 ⟨k3, h⟩
                          repeat ((conv => whnf); first | (refine And.intro (by first | omega | exact Nat.le_of_ble_eq_true rfl | (dsimp only [inK]; omega)) ?_) | with_reducible refine ld (hldc) ?_ | with_reducible refine ld (hld) ?_ | refine Exists.intro _ (And.intro rfl ?_) | refine br_t (by omega) ?_ | refine br_f (by omega) ?_ | refine bs_f (by omega) ?_ | refine fun (K' : K3) hK' => ?_ | (refine hK' _ _ _ ?_; clear hK' K') | refine draw_auto tok mixed (by kernel_rfl) ?_ | refine HD_mk (fun _ h => CallK.val (R := []) hrc (by kernel_rfl) rfl (by simp [V.wf, A.wf, C.wf]) ⟨roE_ints (l := 0) rfl (by omega) rfl (.inl rfl), trivial⟩ rfl rfl trivial h) ?_)
                          intro ρ; rw [hr]; rfl
                        · repeat ((conv => whnf); first | (refine And.intro (by first | omega | exact Nat.le_of_ble_eq_true rfl | (dsimp only [inK]; omega)) ?_) | with_reducible refine ld (hldc) ?_ | with_reducible refine ld (hld) ?_ | refine Exists.intro _ (And.intro rfl ?_) | refine br_t (by omega) ?_ | refine br_f (by omega) ?_ | refine fun (K' : K3) hK' => ?_ | (refine hK' _ _ _ ?_; clear hK' K') | refine draw_auto tok mixed (by kernel_rfl) ?_)
                          intro ρ; rw [hr]; rfl
                      · have hrows : ((decide ((i : Int) < W) && decide (xi > ci)) || (decide ((i : Int) ≥ (cs.length : Int) - W) && decide (xi < n))) = false := by
                          rw [Bool.or_eq_false_iff, Bool.and_eq_false_iff, Bool.and_eq_false_iff, decide_eq_false_iff_not, decide_eq_false_iff_not, decide_eq_false_iff_not, decide_eq_false_iff_not]
                          exact ⟨Classical.not_and_iff_not_or_not.1 k1, Classical.not_and_iff_not_or_not.1 k2⟩
                        rw [hrows, Bool.not_false, Bool.true_and] at hoi
                        clear hrows
                        have hbe := beside_spec W H cs.length (i : Int) true (by omega) (by omega) (by omega)
                        have hne := fun x (hx : x ∈ nearL W H true (i : Int)) => near_in (W := W) (by omega) hx
                        have hlen := near_len W H true (i : Int)
                        obtain ⟨nl, hnl⟩ : ∃ nl, nl = nearL W H true (i : Int) := ⟨_, rfl⟩
                        rw [← hnl] at hbe hne hlen hoi
                        have k4 : (i : Int) < W → ¬ xi > ci := fun h h2 => k1 ⟨h, h2⟩
                        have k6 : (i : Int) ≥ (cs.length : Int) - W → ¬ xi < n := fun h h2 => k2 ⟨h, h2⟩
                        clear hrow0 hrowH hb0 hbH
                        by_cases k3 : (i : Int) < W <;> by_cases k5 : (i : Int) ≥ (cs.length : Int) - W
                        all_goals
                          repeat ((conv => whnf); first | (refine And.intro (by first | omega | exact Nat.le_of_ble_eq_true rfl | (dsimp only [inK]; omega)) ?_) | with_reducible refine ld (hldc) ?_ | with_reducible refine ld (hld) ?_ | refine Exists.intro _ (And.intro rfl ?_) | refine br_t (by omega) ?_ | refine br_f (by omega) ?_ | refine bs_f (by omega) ?_ | refine fun (K' : K3) hK' => ?_ | (refine hK' _ _ _ ?_; clear hK' K') | refine draw_auto tok mixed (by kernel_rfl) ?_ | refine HD_mk (fun _ h => CallK.val (R := []) hrc (by kernel_rfl) rfl (by simp [V.wf, A.wf, C.wf]) ⟨roE_ints (l := 0) rfl (by omega) rfl (.inl rfl), trivial⟩ rfl rfl trivial h) ?_ | refine CallK.den (vs := [V.agg [C.i W, C.i H, C.sl 0 cs.length], V.i (i : Int), V.c (.bool true)]) (fun ρ => rfl) (by simp [V.wf, A.wf, C.wf]) (CallK.intsR (R := []) hbe (by kernel_rfl) rfl (by simp [V.wf, A.wf, C.wf]) trivial rfl ?_) | refine CallK.m ?_)
                          clear k1 k2 k4 k6
                          refine Tri.loop (γ := Nat) (fun m => m ≤ nl.length ∧ ∀ j, j < m → (!(hldI cs (nl.getD j 0) && decide (xi > hL hs (nl.getD j 0) + ci))) = true) (fun m => [(1, V.c (.sl 1 hs.length)), (2, V.i n), (3, V.c (.ptr 2 0)), (10, V.i (i : Int)), (45, V.c (.sl 0 cs.length)), (46, V.i cs.length), (47, V.i (i : Nat)), (88, V.c (.sl 3 nl.length)), (89, V.i nl.length), (90, V.i (m : Nat))])
                            (fun m => [⟨3, .vec 3 1, nl.map C.i⟩, ⟨2, .own 24, [C.i W, C.i H, .sl 0 cs.length]⟩, ⟨1, .ro 0, hs.map C.i⟩, ⟨0, .ro 0, cs.map C.i⟩]) 4 (fun m => nl.length - m) 0 (R0 := []) ?_ ?_ ?_
                          · exact ⟨by omega, fun j hj => by omega⟩
                          · skip
                            refine ⟨?_, ?_, rfl, rfl, by exact Nat.le_of_ble_eq_true rfl⟩
                            · repeat (first | exact trivial | (refine And.intro (covS_syn (by rfl) rfl (by first | exact trivial | exact Nat.le_of_ble_eq_true rfl)) ?_))
                            · repeat (first | exact trivial | (refine And.intro (covE_id (Nat.le_of_ble_eq_true rfl) (by first | exact wf_ints _ _ | simp [C.wf]) rfl (by rfl)) ?_))
                          · rintro m ⟨hm, hI⟩
                            refine vc_ok tok ?_
                            by_cases hml : m < nl.length
                            · have hldm := intL hml
                              have hkk := hne _ (getD_mem hml)
                              have hnext : (!(hldI cs (nl.getD m 0) && decide (xi > hL hs (nl.getD m 0) + ci))) = true → ∀ j, j < m + 1 → (!(hldI cs (nl.getD j 0) && decide (xi > hL hs (nl.getD j 0) + ci))) = true := fun h j hj => by
                                by_cases hjm : j = m
                                · rw [hjm]; exact h
                                · exact hI j (by omega)
                              have hbad : (!(hldI cs (nl.getD m 0) && decide (xi > hL hs (nl.getD m 0) + ci))) = false → provR W H cs hs n = false := fun h => hno (by
                                rw [hoi, List.all_eq_false]
                                exact ⟨nl.getD m 0, getD_mem hml, by rw [h]; simp⟩)
                              obtain ⟨k, hke⟩ : ∃ k : Nat, (k : Int) = nl.getD m 0 := ⟨(nl.getD m 0).toNat, by omega⟩
                              rw [← hke] at hldm hkk hnext hbad
                              have hkl : k < cs.length := by omega
                              have hldk := intL hkl
                              have hhk : hldI cs (k : Int) = decide (cs.getD k 0 ≠ 0) := by simp [hldI]
                              have hldx := intL (l := hs) (k := k) (by omega)
                              have hrk := hrng k (by omega)
                              have hek : hs.getD k 0 = hL hs (k : Int) := by unfold hL; rw [Int.toNat_natCast]
                              rw [hek] at hldx hrk
                              obtain ⟨ak, hak⟩ : ∃ x, x = cs.getD k 0 := ⟨_, rfl⟩
                              rw [← hak] at hldk hhk
                              obtain ⟨xk, hxk⟩ : ∃ x, x = hL hs (k : Int) := ⟨_, rfl⟩
                              rw [← hxk, hhk] at hnext hbad
                              rw [← hxk] at hldx hrk
                              by_cases h2 : ak ≠ 0
                              · by_cases h3 : xi > xk + ci
                                · have hr := hbad (by rw [dd_t h2, dd_t h3]; rfl)
                                  repeat ((conv => whnf); first | (refine And.intro (by first | omega | exact Nat.le_of_ble_eq_true rfl | (dsimp only [inK]; omega) | (simp only [setL_length, List.length_map]; omega)) ?_) | with_reducible refine ld (hldm) ?_ | with_reducible refine ld (hldk) ?_ | with_reducible refine ld (hld) ?_ | with_reducible refine ld (hldx) ?_ | refine Exists.intro _ (And.intro rfl ?_) | refine br_t (by omega) ?_ | refine fun (K' : K3) hK' => ?_ | (refine hK' _ _ _ ?_; clear hK' K') | refine draw_auto tok mixed (by kernel_rfl) ?_ | refine HD_mk (fun _ h => CallK.val (R := []) hrc (by kernel_rfl) rfl (by simp [V.wf, A.wf, C.wf]) ⟨roE_ints (l := 0) rfl (by omega) rfl (.inl rfl), trivial⟩ rfl rfl trivial h) ?_)
                                  intro ρ; rw [hr]; rfl
                                · repeat ((conv => whnf); first | (refine And.intro (by first | omega | exact Nat.le_of_ble_eq_true rfl | (dsimp only [inK]; omega) | (simp only [setL_length, List.length_map]; omega)) ?_) | with_reducible refine ld (hldm) ?_ | with_reducible refine ld (hldk) ?_ | with_reducible refine ld (hld) ?_ | with_reducible refine ld (hldx) ?_ | refine Exists.intro _ (And.intro rfl ?_) | refine br_t (by omega) ?_ | refine br_f (by omega) ?_ | refine fun (K' : K3) hK' => ?_ | (refine hK' _ _ _ ?_; clear hK' K') | refine draw_auto tok mixed (by kernel_rfl) ?_ | refine HD_mk (fun _ h => CallK.val (R := []) hrc (by kernel_rfl) rfl (by simp [V.wf, A.wf, C.wf]) ⟨roE_ints (l := 0) rfl (by omega) rfl (.inl rfl), trivial⟩ rfl rfl trivial h) ?_)
                                  refine ⟨m + 1, [], ⟨by omega, hnext (by rw [dd_f h3]; simp)⟩, by omega, ?_⟩
                                  refine ⟨?_, ?_, rfl, rfl, by exact Nat.le_of_ble_eq_true rfl⟩
                                  · repeat (first | exact trivial | (refine And.intro (covS_syn (by rfl) rfl (by first | exact trivial | exact Nat.le_of_ble_eq_true rfl)) ?_))
                                  · repeat (first | exact trivial | (refine And.intro (covE_id (Nat.le_of_ble_eq_true rfl) (by first | exact wf_ints _ _ | simp [C.wf]) rfl (by rfl)) ?_))
                              · repeat ((conv => whnf); first | (refine And.intro (by first | omega | exact Nat.le_of_ble_eq_true rfl | (dsimp only [inK]; omega) | (simp only [setL_length, List.length_map]; omega)) ?_) | with_reducible refine ld (hldm) ?_ | with_reducible refine ld (hldk) ?_ | refine Exists.intro _ (And.intro rfl ?_) | refine br_t (by omega) ?_ | refine br_f (by omega) ?_ | refine fun (K' : K3) hK' => ?_ | (refine hK' _ _ _ ?_; clear hK' K') | refine draw_auto tok mixed (by kernel_rfl) ?_)
                                refine ⟨m + 1, [], ⟨by omega, hnext (by rw [dd_f h2]; rfl)⟩, by omega, ?_⟩
                                refine ⟨?_, ?_, rfl, rfl, by exact Nat.le_of_ble_eq_true rfl⟩
                                · repeat (first | exact trivial | (refine And.intro (covS_syn (by rfl) rfl (by first | exact trivial | exact Nat.le_of_ble_eq_true rfl)) ?_))
                                · repeat (first | exact trivial | (refine And.intro (covE_id (Nat.le_of_ble_eq_true rfl) (by first | exact wf_ints _ _ | simp [C.wf]) rfl (by rfl)) ?_))
                            · have hme : m = nl.length := by omega
                              subst hme
                              repeat ((conv => whnf); first | (refine And.intro (by first | omega | (dsimp only [inK]; omega)) ?_) | refine br_f (by omega) ?_ | refine fun (K' : K3) hK' => ?_ | (refine hK' _ _ _ ?_; clear hK' K'))
                              refine ⟨i + 1, [], ⟨by omega, fin (by
                                rw [hoi, List.all_eq_true]
                                intro x hx
                                obtain ⟨j, hj, rfl⟩ := List.mem_iff_getElem.1 hx
                                have := hI j hj
                                rwa [List.getD_eq_getElem?_getD, List.getElem?_eq_getElem hj] at this)⟩, by omega, ?_⟩
                              refine ⟨?_, ?_, rfl, rfl, by exact Nat.le_of_ble_eq_true rfl⟩
                              · repeat (first | exact trivial | (refine And.intro (covS_syn (by rfl) rfl (by first | exact trivial | exact Nat.le_of_ble_eq_true rfl)) ?_))
                              · repeat (first | exact trivial | (refine And.intro (covE_id (Nat.le_of_ble_eq_true rfl) (by first | exact wf_ints _ _ | simp [C.wf]) rfl (by rfl)) ?_))
                · have hin : i = cs.length := by omega
                  subst hin
                  have hr : provR W H cs hs n = true := by
                    unfold provR; rw [List.all_eq_true]
                    exact fun j hj => hall j (List.mem_range.1 hj)
                  repeat ((conv => whnf); first | refine br_f (by omega) ?_ | refine fun (K' : K3) hK' => ?_ | (refine hK' _ _ _ ?_; clear hK' K'))
                  intro ρ; rw [hr]; rfl
    · obtain ⟨r1, r2⟩ := bad (fun h => by omega)
      rw [r1, r2]
      repeat ((conv => whnf); first | (refine And.intro (by first | omega | exact Nat.le_of_ble_eq_true rfl) ?_) | refine Exists.intro _ (And.intro rfl ?_) | refine bs_t (by omega) ?_ | refine fun (K' : K3) hK' => ?_ | (refine hK' _ _ _ ?_; clear hK' K') | refine CallK.val (R := []) hva (by kernel_rfl) rfl (by simp [V.wf, A.wf, C.wf]) ⟨roE_ints (l := 0) rfl (by omega) rfl (.inl rfl), trivial⟩ rfl rfl trivial ?_ | refine br_bf (congrArg Bool.not hv) ?_ | refine CallK.m ?_)
      intro ρ; rfl
end Go.Proofs.Ytbhpnhcdjmcaoaa

/- Boom, plain: the greatest heights prove what the cheapest barrier costs, and none prove more. -/
namespace Go.Proofs.Ytbhpnhcdjmcaoaa
open Go.RowKit
set_option linter.unusedVariables false
set_option linter.unusedSimpArgs false
section
variable {W H : Int} {cs : List Int}
theorem cst_pos (cs : List Int) (i : Int) : 0 ≤ cstI cs i := by unfold cstI; split <;> omega
theorem great_ex (hok : CO W H cs) : ∀ (n : Nat) (hs : List Int), HSt W H cs hs → hs.sum ≤ n → ∃ hs', HSt W H cs hs' ∧ Great W H cs hs'
  | n, hs, h, hn => by
    have hg := passH_go (W := W) (H := H) (cst_pos cs) (hs, false) (edP_ok hok (Nat.le_refl cs.length))
    cases hf : (passH cs (edP W H cs.length) (hs, false)).2 with
    | false =>
      have := passH_ok (W := W) (H := H) (cst_pos cs) (edP_ok hok (Nat.le_refl cs.length)) hf
      exact ⟨hs, h, h.great (edP_all this.2)⟩
    | true =>
      have h1 := hg.ok h
      have h2 := HSt.sum h1
      have h3 : (passH cs (edP W H cs.length) (hs, false)).1.sum < hs.sum := by
        rcases hg.less h hf with ⟨h4, _⟩ | h4
        · cases h4
        · exact h4
      match n, hn with
      | 0, hn => omega
      | n + 1, hn => exact great_ex hok n _ h1 (by omega)
theorem hts_great (hok : CO W H cs) : HSt W H cs (hts W H cs) ∧ Great W H cs (hts W H cs) := by
  obtain ⟨hs, h1, h2⟩ := great_ex hok _ _ (h0_st (W := W) (H := H) (cst_pos cs)) (Int.self_le_toNat _)
  rw [h2.hts]; exact ⟨h1, h2⟩
/-- What heights prove is not more than any way costs. -/
theorem prov_walk (hok : CO W H cs) {hs : List Int} {n : Int} (h : provP W H cs hs n = true) : ∀ {l : List Int} {i : Int}, isWalk (iniB W H cs) (nbR W H cs) (i :: l) → n ≤ hL hs i - cstI cs i + (valW (cstI cs) (i :: l)).1
  | [], i, hw => by
    obtain ⟨h1, h2, h3⟩ := iniB_cond hw
    have hi : 0 ≤ i ∧ i < cs.length := by unfold inR at h1; exact of_decide_eq_true h1
    have := (prov_iff.1 h i hi.1 hi.2 h2).2.1 h3
    simp only [valW, addW]; omega
  | k :: r, i, hw => by
    obtain ⟨h1, h2, h3⟩ := nbR_cond hw.1
    have hi : 0 ≤ i ∧ i < cs.length := by unfold inR at h1; exact of_decide_eq_true h1
    have ih := prov_walk hok h hw.2
    have := (prov_iff.1 h i hi.1 hi.2 h2).2.2 k h3 (walkR_cond hw.2).2
    have e : (valW (cstI cs) (i :: k :: r)).1 = (valW (cstI cs) (k :: r)).1 + cstI cs i := rfl
    omega
theorem prov_bar (hok : CO W H cs) {hs : List Int} {n : Int} (h : provP W H cs hs n = true) {l : List Cell} (hb : BarP W H cs l) : n ≤ sumC W cs l := by
  have h1 := hb.len
  have h2 := bar_loose hb (l.length - 1) 0 (by omega)
  have h3 := (hb.top 0 (by omega)).2 rfl
  match l, h2, h3 with
  | p :: r, h2, h3 =>
    have hw := loose_walk hok h2
    have hp := looseL_head h2
    have hi := idxU_in hok hp.1
    have hc : hldI cs (idxU W p) = true := by unfold hldI; rw [dd_t hp.2]
    have h4 := prov_walk hok h hw
    have h5 := (prov_iff.1 h _ hi.1 hi.2.1 hc).1 (by rw [hi.2.2.1]; exact h3)
    rw [sum_val]
    show n ≤ (valW (cstI cs) (idxU W p :: r.map (idxU W))).1
    omega
end
end Go.Proofs.Ytbhpnhcdjmcaoaa

/- Boom, plain: the greatest heights prove what the cheapest barrier costs. -/
namespace Go.Proofs.Ytbhpnhcdjmcaoaa
open Go.RowKit
set_option linter.unusedVariables false
set_option linter.unusedSimpArgs false
section
variable {W H : Int} {cs : List Int}
/-- What is left to the last row, seen from the top. -/
def potI (W H : Int) (cs : List Int) (x : Int) (i : Int) : Int := if hldI cs i = true then (match wayR W H cs i with
  | none => 0
  | some w => x - w.1 + cstI cs i) else 0
theorem potI_some {x i : Int} {w : Way} (h : hldI cs i = true) (hw : wayR W H cs i = some w) : potI W H cs x i = x - w.1 + cstI cs i := by unfold potI; rw [if_pos h, hw]
theorem potI_none {x i : Int} (hw : wayR W H cs i = none) : potI W H cs x i = 0 := by unfold potI; rw [hw]; split <;> rfl
theorem wayR_step (hok : CO W H cs) {a b : Int} (ha : 0 ≤ a ∧ a < cs.length) (h1 : hldI cs a = true) (hn : b ∈ nearL W H true a) {w : Way} (hw : wayR W H cs b = some w) : ∃ v, wayR W H cs a = some v ∧ v.1 ≤ w.1 + cstI cs a := by
  obtain ⟨l, h2, h3⟩ := (wayR_opt hok).sound b w hw
  obtain ⟨v, h4, h5⟩ := (wayR_opt hok).comp a (b :: l) ⟨nbR_mk (by unfold inR; rw [dd_t ha]) h1 hn, h2⟩
  have e : valW (cstI cs) (a :: b :: l) = addW (cstI cs a) w := by rw [← h3]; rfl
  rw [e] at h5
  refine ⟨v, h4, ?_⟩
  unfold leW addW at h5; simp only at h5; omega
theorem val_bd (hok : CO W H cs) : ∀ l : List Int, (valW (cstI cs) l).1 ≤ 100 * l.length
  | [] => by simp [valW]
  | i :: r => by
    have := val_bd hok r
    have := (cst_bd hok.cost i).2
    simp only [valW, addW, List.length_cons]; omega
/-- The greatest heights prove what the cheapest barrier costs. -/
theorem great_prov (hok : CO W H cs) {l : List Int} {w : Way} (h : barO W H cs = some (l, w)) : provP W H cs (hts W H cs) w.1 = true ∧ 0 ≤ w.1 ∧ w.1 ≤ 10000 := by
  obtain ⟨hst, hgr⟩ := hts_great hok
  have hW := hok.w
  have hi := bar_is hok h
  have hx : 0 ≤ w.1 ∧ w.1 ≤ 10000 := by
    have h1 := sum_val W cs (cellsL W l)
    have h2 := val_bd hok ((cellsL W l).map (idxU W))
    have h3 := valW_pos (cst_pos cs) ((cellsL W l).map (idxU W))
    simp only [cellsL, List.length_map] at h2
    have := hi.2.1
    have := hi.2.2.2
    simp only [cellsL] at *
    omega
  have hmin : ∀ i, 0 ≤ i → i < W → ∀ u, wayR W H cs i = some u → w.1 ≤ u.1 := by
    intro i i0 i1 u hu
    rw [bar_eq hok] at h
    unfold rbarO at h
    rcases bestP_spec (wayR W H cs) W.toNat with ⟨_, g2⟩ | ⟨b, g1, g2, wb, g3, g4, _⟩
    · have := g2 i.toNat (by omega)
      rw [show ((i.toNat : Nat) : Int) = i by omega, hu] at this; cases this
    · rw [g1, g3] at h; cases h
      have := g4 i.toNat (by omega) u (by rw [show ((i.toNat : Nat) : Int) = i by omega]; exact hu)
      unfold leW at this; omega
  have hfe : Feas W H cs (potI W H cs w.1) := fun a b a0 a1 ha hb hn => by
    have hbi := near_in (by omega) hn
    have hl := hok.len
    have hc := cst_pos cs b
    have hs : a ∈ nearL W H true b := near_symm (by omega) a0 (by omega) hn
    cases hwb : wayR W H cs b with
    | none =>
      cases hwa : wayR W H cs a with
      | none => rw [potI_none hwb, potI_none hwa]; omega
      | some v => obtain ⟨_, he, _⟩ := wayR_step hok ⟨hbi.1, by omega⟩ hb hs hwa; rw [hwb] at he; cases he
    | some v =>
      obtain ⟨u, he, hle⟩ := wayR_step hok ⟨a0, a1⟩ ha hn hwb
      rw [potI_some hb hwb, potI_some ha he]; omega
  have hle : ∀ i : Int, 0 ≤ i → i < cs.length → potI W H cs w.1 i ≤ h0I W cs i := fun i i0 i1 => by
    unfold h0I
    have hc := cst_bd hok.cost i
    by_cases hh : hldI cs i = true
    · rw [if_neg (by rw [hh]; simp)]
      cases hw : wayR W H cs i with
      | none => rw [potI_none hw]; split <;> omega
      | some u =>
        rw [potI_some hh hw]
        have hu : 0 ≤ u.1 := by
          obtain ⟨r, _, h3⟩ := (wayR_opt hok).sound i u hw
          rw [← h3]; exact valW_pos (cst_pos cs) _
        split
        · rename_i h0
          have := hmin i i0 (by have := Int.mul_ediv_add_emod i W; have := Int.emod_lt_of_pos i (show 0 < W by omega); rw [h0] at *; omega) u hw
          omega
        · omega
    · rw [if_pos (by simpa using hh)]
      unfold potI; rw [if_neg hh]; omega
  refine ⟨prov_iff.2 fun i i0 i1 hh => ⟨fun h0 => ?_, fun hl => ?_, fun k hk hhk => hgr.feas i k i0 i1 hh hhk hk⟩, hx⟩
  · have := hgr.le i i0 i1
    unfold h0I at this
    rw [if_neg (by rw [hh]; simp), if_pos h0] at this
    exact this
  · have h1 := hgr.most _ hfe hle i i0 i1
    obtain ⟨u, hu, hle2⟩ := (wayR_opt hok).comp i [] (by show iniB W H cs i = true; unfold iniB inR; rw [dd_t ⟨i0, i1⟩, hh, dd_t hl]; rfl)
    rw [potI_some hh hu] at h1
    have : (valW (cstI cs) [i]).1 = cstI cs i := by simp [valW, addW]
    unfold leW at hle2; omega
end
end Go.Proofs.Ytbhpnhcdjmcaoaa

/- Boom: the law of the proofs. -/
namespace Go.Proofs.Ytbhpnhcdjmcaoaa
open Go.RowKit
set_option linter.unusedVariables false
set_option linter.unusedSimpArgs false
theorem proofs_long (W H : Int) (cs : List Int) (l : List Cell) (hs : List Int) (n : Int) (hcs : cs.length < 9223372036854775808) (hl : l.length < 9223372036854775808) (hhs : hs.length < 9223372036854775808) (h : (cs.length : Int) > 300 ∨ (l.length : Int) > 250 ∨ (hs.length : Int) > 300) :
    Spec Try.prog 12 [chR W H cs.length, V.c (.sl 1 l.length), V.c (.sl 2 hs.length), V.i n] [⟨0, .ro 0, cs.map C.i⟩, ⟨1, .ro 2, cellC l⟩, ⟨2, .ro 0, hs.map C.i⟩] 3 (Is (V.c (.bool true))) := by
  refine Spec.of tok Try.func12 rfl rfl rfl fun n0 cx => vc_ok tok ?_
  by_cases h1 : (cs.length : Int) > 300
  · repeat ((conv => whnf); first | refine Exists.intro _ (And.intro rfl ?_) | refine bs_t (by omega) ?_ | refine fun (K' : K3) hK' => ?_ | (refine hK' _ _ _ ?_; clear hK' K') | refine wide_k hcs ?_ | refine awake_k ?_ | refine CallK.m ?_)
    intro ρ; rfl
  · by_cases h2 : (l.length : Int) > 250
    · repeat ((conv => whnf); first | refine Exists.intro _ (And.intro rfl ?_) | refine bs_t (by omega) ?_ | refine bs_f (by omega) ?_ | refine fun (K' : K3) hK' => ?_ | (refine hK' _ _ _ ?_; clear hK' K') | refine wide_k hcs ?_ | refine long_k hl ?_ | refine awake_k ?_ | refine CallK.m ?_)
      intro ρ; rfl
    · have h3 : (hs.length : Int) > 300 := by omega
      repeat ((conv => whnf); first | refine Exists.intro _ (And.intro rfl ?_) | refine bs_t (by omega) ?_ | refine bs_f (by omega) ?_ | refine fun (K' : K3) hK' => ?_ | (refine hK' _ _ _ ?_; clear hK' K') | refine wide_k hcs ?_ | refine long_k hl ?_ | refine awake_k ?_ | refine CallK.m ?_)
      intro ρ; rfl
section
variable {W H : Int} {cs : List Int}
theorem cost_two (hv : okC W H cs = true) (l : List Cell) (hl : cs.length ≤ 300) (hc : l.length ≤ 300) : (∃ s : Int, BarP W H cs l ∧ s = sumC W cs l ∧ Spec Try.prog 39 [chR W H cs.length, V.c (.sl 1 l.length)] [⟨0, .ro 0, cs.map C.i⟩, ⟨1, .ro 2, cellC l⟩] 2 (Is (V.tup [A.c (C.i s), A.c (C.i 0)]))) ∨
    (¬ BarP W H cs l ∧ Spec Try.prog 39 [chR W H cs.length, V.c (.sl 1 l.length)] [⟨0, .ro 0, cs.map C.i⟩, ⟨1, .ro 2, cellC l⟩] 2 (Is (V.tup [A.c (C.i 0), A.c (C.i 5)]))) := by
  have hW : 0 < W := by have := (okC_iff.1 hv).w; omega
  have h := costOf_spec W H cs l hl hc
  rw [hv] at h
  cases hb : pIsBar W H cs l with
  | true =>
    rw [hb] at h
    have hB := (pIsBar_iff hW).1 hb
    rw [psum_eq hB.on] at h
    exact .inl ⟨_, hB, rfl, h⟩
  | false =>
    rw [hb] at h
    exact .inr ⟨fun hB => (by rw [(pIsBar_iff hW).2 hB] at hb; cases hb), h⟩
theorem isBar_t (hv : okC W H cs = true) {l : List Cell} (hB : BarP W H cs l) (hl : cs.length ≤ 300) (hc : l.length ≤ 300) : Spec Try.prog 37 [chR W H cs.length, V.c (.sl 1 l.length)] [⟨0, .ro 0, cs.map C.i⟩, ⟨1, .ro 2, cellC l⟩] 2 (Is (V.tup [A.c (.bool true), A.c (C.i 0)])) := by
  have hW : 0 < W := by have := (okC_iff.1 hv).w; omega
  have h := isBarrier_spec W H cs l hl hc
  rw [isbar_same, hv, isBar_iff.2 hB] at h
  exact h
theorem prv_two (hv : okC W H cs = true) (hs : List Int) (n : Int) : (prvE W H cs hs n = 0 ∧ prvB W H cs hs n = provP W H cs hs n) ∨ (prvE W H cs hs n = 2 ∧ prvB W H cs hs n = false) := by
  unfold prvE prvB
  rw [hv]
  cases (decide (hs.length = cs.length) && (decide (0 ≤ n ∧ n ≤ 1000000) && !hs.any hBad)) with
  | true => exact .inl ⟨rfl, by simp⟩
  | false => exact .inr ⟨rfl, rfl⟩
theorem hts_any (hok : CO W H cs) : (hts W H cs).any hBad = false := by
  obtain ⟨h1, h2⟩ := hts_great hok
  refine any_no fun j hj => ?_
  have hj' : (j : Int) < cs.length := by have := h1.len; omega
  have e1 := h1.pos j (by omega) hj'
  have e2 := h1.le j (by omega) hj'
  have e3 : h0I W cs j ≤ 1000000 := by
    unfold h0I
    have := cst_bd hok.cost j
    split
    · omega
    · split <;> omega
  unfold hL at e1 e2
  rw [Int.toNat_natCast] at e1 e2
  omega
theorem prv_at (hv : okC W H cs = true) {n : Int} (h0 : 0 ≤ n ∧ n ≤ 1000000) : prvE W H cs (hts W H cs) n = 0 ∧ prvB W H cs (hts W H cs) n = provP W H cs (hts W H cs) n := by
  have hok := okC_iff.1 hv
  have hlen := (hts_great hok).2.len
  unfold prvE prvB
  rw [hv, hts_any hok, dd_t hlen, dd_t h0]
  exact ⟨rfl, by simp⟩
end
set_option maxRecDepth 10000 in
set_option maxHeartbeats 8000000 in
theorem proofs_spec (W H : Int) (cs : List Int) (l : List Cell) (hs : List Int) (n : Int) (hn : -9223372036854775808 ≤ n ∧ n ≤ 9223372036854775807) (hcs : ¬ (cs.length : Int) > 300) (hls : ¬ (l.length : Int) > 250) (hhs : ¬ (hs.length : Int) > 300) :
    Spec Try.prog 12 [chR W H cs.length, V.c (.sl 1 l.length), V.c (.sl 2 hs.length), V.i n] [⟨0, .ro 0, cs.map C.i⟩, ⟨1, .ro 2, cellC l⟩, ⟨2, .ro 0, hs.map C.i⟩] 3 (Is (V.c (.bool true))) := by
  have hva := rvalid_spec W H cs (by omega)
  refine Spec.of tok Try.func12 rfl rfl rfl fun n0 cx => vc_ok tok ?_
  cases hv : okC W H cs with
  | false =>
    repeat ((conv => whnf); first | refine Exists.intro _ (And.intro rfl ?_) | refine bs_f (by omega) ?_ | refine fun (K' : K3) hK' => ?_ | (refine hK' _ _ _ ?_; clear hK' K') | refine wide_k (by omega) ?_ | refine long_k (by omega) ?_ | refine CallK.val (R := []) hva (by kernel_rfl) rfl (by simp [V.wf, A.wf, C.wf, V.i]) ⟨roE_ints (l := 0) rfl (by omega) rfl (.inl rfl), trivial⟩ rfl rfl trivial ?_ | refine br_bt (congrArg Bool.not hv) ?_ | refine awake_k ?_ | refine CallK.m ?_)
    intro ρ; rfl
  | true =>
    have hok := okC_iff.1 hv
    have hl : cs.length ≤ 300 := by omega
    have k2 := pBarrier_spec W H cs hl
    have k3 := heights_spec W H cs hl
    have e3 : htsO W H cs = hts W H cs ∧ htsE W H cs = 0 := by unfold htsO htsE; rw [hv]; exact ⟨rfl, rfl⟩
    have hhl := hts_len W H cs hl
    rw [e3.1, e3.2] at k3
    rw [e3.1] at hhl
    have k4 := proves_spec W H cs hs n hl (by omega) hn
    have p4 := prv_two hv hs n
    have p5 := cost_two hv l hl (by omega)
    cases hb : barO W H cs with
    | none =>
      have k1 := cheapN hl hv hb
      obtain ⟨e1, e2⟩ := barC_none hv hb
      rw [e1, e2] at k2
      rcases p5 with ⟨s, hB, _⟩ | ⟨_, k5⟩
      · obtain ⟨l', w, he, _⟩ := bar_least hok hB
        rw [hb] at he; cases he
      obtain ⟨bh, hbh⟩ : ∃ b, b = hts W H cs := ⟨_, rfl⟩
      rw [← hbh] at k3 hhl
      rcases p4 with ⟨q1, q2⟩ | ⟨q1, q2⟩
      · rw [q1, q2] at k4
        obtain ⟨b, hb'⟩ : ∃ b, b = provP W H cs hs n := ⟨_, rfl⟩
        rw [← hb'] at k4
        repeat ((conv => whnf); first | refine Exists.intro _ (And.intro rfl ?_) | refine br_t (by omega) ?_ | refine br_f (by omega) ?_ | refine bs_f (by omega) ?_ | refine fun (K' : K3) hK' => ?_ | (refine hK' _ _ _ ?_; clear hK' K') | refine wide_k (by omega) ?_ | refine long_k (by omega) ?_ | refine CallK.val (R := []) hva (by kernel_rfl) rfl (by simp [V.wf, A.wf, C.wf, V.i]) ⟨roE_ints (l := 0) rfl (by omega) rfl (.inl rfl), trivial⟩ rfl rfl trivial ?_ | refine br_bf (congrArg Bool.not hv) ?_ | refine CallK.val (R := []) k1 (by kernel_rfl) rfl (by simp [V.wf, A.wf, C.wf, V.i]) ⟨roE_ints (l := 0) rfl (by omega) rfl (.inl rfl), trivial⟩ rfl rfl (by simp [V.wf, A.wf, C.wf]) ?_ | refine CallK.cellsE (R := []) k2 (by kernel_rfl) rfl (by simp [V.wf, A.wf, C.wf, V.i]) ⟨roE_ints (l := 0) rfl (by omega) rfl (.inl rfl), trivial⟩ rfl ?_ | refine CallK.intsE (R := []) k3 (by kernel_rfl) rfl (by simp [V.wf, A.wf, C.wf, V.i]) ⟨roE_ints (l := 0) rfl (by omega) rfl (.inl rfl), trivial⟩ rfl ?_ | refine CallK.val (R := [(0, some 0), (1, some 2)]) k4 (by kernel_rfl) rfl (by simp [V.wf, A.wf, C.wf, V.i]) ⟨roE_ints (l := 0) rfl (by omega) rfl (.inl rfl), roE_ints (l := 2) rfl (by omega) rfl (.inl rfl), trivial⟩ rfl rfl (by simp [V.wf, A.wf, C.wf]) ?_ | refine CallK.val (R := [(0, some 0), (1, some 1)]) k5 (by kernel_rfl) rfl (by simp [V.wf, A.wf, C.wf, V.i]) ⟨roE_ints (l := 0) rfl (by omega) rfl (.inl rfl), roE_cells (l := 1) rfl (by omega) rfl (.inr rfl), trivial⟩ rfl rfl (by simp [V.wf, A.wf, C.wf]) ?_ | refine br_bt (Eq.refl true) ?_ | refine awake_k ?_ | refine CallK.m ?_)
        intro ρ; rfl
      · rw [q1, q2] at k4
        repeat ((conv => whnf); first | refine Exists.intro _ (And.intro rfl ?_) | refine br_t (by omega) ?_ | refine br_f (by omega) ?_ | refine bs_f (by omega) ?_ | refine fun (K' : K3) hK' => ?_ | (refine hK' _ _ _ ?_; clear hK' K') | refine wide_k (by omega) ?_ | refine long_k (by omega) ?_ | refine CallK.val (R := []) hva (by kernel_rfl) rfl (by simp [V.wf, A.wf, C.wf, V.i]) ⟨roE_ints (l := 0) rfl (by omega) rfl (.inl rfl), trivial⟩ rfl rfl trivial ?_ | refine br_bf (congrArg Bool.not hv) ?_ | refine CallK.val (R := []) k1 (by kernel_rfl) rfl (by simp [V.wf, A.wf, C.wf, V.i]) ⟨roE_ints (l := 0) rfl (by omega) rfl (.inl rfl), trivial⟩ rfl rfl (by simp [V.wf, A.wf, C.wf]) ?_ | refine CallK.cellsE (R := []) k2 (by kernel_rfl) rfl (by simp [V.wf, A.wf, C.wf, V.i]) ⟨roE_ints (l := 0) rfl (by omega) rfl (.inl rfl), trivial⟩ rfl ?_ | refine CallK.intsE (R := []) k3 (by kernel_rfl) rfl (by simp [V.wf, A.wf, C.wf, V.i]) ⟨roE_ints (l := 0) rfl (by omega) rfl (.inl rfl), trivial⟩ rfl ?_ | refine CallK.val (R := [(0, some 0), (1, some 2)]) k4 (by kernel_rfl) rfl (by simp [V.wf, A.wf, C.wf, V.i]) ⟨roE_ints (l := 0) rfl (by omega) rfl (.inl rfl), roE_ints (l := 2) rfl (by omega) rfl (.inl rfl), trivial⟩ rfl rfl (by simp [V.wf, A.wf, C.wf]) ?_ | refine CallK.val (R := [(0, some 0), (1, some 1)]) k5 (by kernel_rfl) rfl (by simp [V.wf, A.wf, C.wf, V.i]) ⟨roE_ints (l := 0) rfl (by omega) rfl (.inl rfl), roE_cells (l := 1) rfl (by omega) rfl (.inr rfl), trivial⟩ rfl rfl (by simp [V.wf, A.wf, C.wf]) ?_ | refine br_bt (Eq.refl true) ?_ | refine awake_k ?_ | refine CallK.m ?_)
        intro ρ; rfl
    | some q =>
      obtain ⟨bl, w⟩ := q
      have k1 := cheapS hl hv hb
      obtain ⟨e1, e2⟩ := barC_some hv hb
      rw [e1, e2] at k2
      obtain ⟨hB, hsum, _, hbl⟩ := bar_is hok hb
      have hcl : (cellsL W bl).length ≤ 300 := by simp only [cellsL, List.length_map]; omega
      have k6 := isBar_t hv hB hl hcl
      have k7 := cost_two hv (cellsL W bl) hl hcl
      obtain ⟨g1, g2⟩ := great_prov hok hb
      have p8 := prv_at (n := w.1) hv (by omega)
      have p9 := prv_at (n := w.1 + 1) hv (by omega)
      have k8 := proves_spec W H cs (hts W H cs) w.1 hl hhl (by omega)
      have k9 := proves_spec W H cs (hts W H cs) (w.1 + 1) hl hhl (by omega)
      rw [p8.1, p8.2, g1] at k8
      have hno : provP W H cs (hts W H cs) (w.1 + 1) = false := by
        cases hp : provP W H cs (hts W H cs) (w.1 + 1) with
        | false => rfl
        | true => have := prov_bar hok hp hB; omega
      rw [p9.1, p9.2, hno] at k9
      rcases k7 with ⟨s, _, hs7, k7⟩ | ⟨h7, _⟩
      case inr => exact absurd hB h7
      rw [hs7, hsum] at k7
      have hpl : provP W H cs hs n = true → n ≤ w.1 := fun hp => by have := prov_bar hok hp hB; omega
      have hcl5 : ∀ s, s = sumC W cs l → BarP W H cs l → w.1 ≤ s := fun s hs' hB' => by
        obtain ⟨l', w', he, hle⟩ := bar_least hok hB'
        rw [hb] at he; cases he; omega
      obtain ⟨x, hx⟩ : ∃ x, x = w.1 := ⟨_, rfl⟩
      rw [← hx] at k1 k7 k8 k9 hpl hcl5 g2
      obtain ⟨bc, hbc⟩ : ∃ b, b = cellsL W bl := ⟨_, rfl⟩
      rw [← hbc] at k2 k6 k7 hcl
      obtain ⟨bh, hbh⟩ : ∃ b, b = hts W H cs := ⟨_, rfl⟩
      rw [← hbh] at k3 k8 k9 hhl
      rcases p5 with ⟨s, hB5, hs5, k5⟩ | ⟨_, k5⟩
      · have hge := hcl5 s hs5 hB5
        rcases p4 with ⟨q1, q2⟩ | ⟨q1, q2⟩
        · cases hb' : provP W H cs hs n with
          | true =>
            rw [q1, q2, hb'] at k4
            have hnx := hpl hb'
            repeat ((conv => whnf); first | (refine And.intro (by first | omega | (dsimp only [inK]; omega)) ?_) | refine Exists.intro _ (And.intro rfl ?_) | refine br_t (by omega) ?_ | refine br_f (by omega) ?_ | refine bs_f (by omega) ?_ | refine fun (K' : K3) hK' => ?_ | (refine hK' _ _ _ ?_; clear hK' K') | refine wide_k (by omega) ?_ | refine long_k (by omega) ?_ | refine CallK.val (R := []) hva (by kernel_rfl) rfl (by simp [V.wf, A.wf, C.wf, V.i]) ⟨roE_ints (l := 0) rfl (by omega) rfl (.inl rfl), trivial⟩ rfl rfl trivial ?_ | refine br_bf (congrArg Bool.not hv) ?_ | refine CallK.val (R := []) k1 (by kernel_rfl) rfl (by simp [V.wf, A.wf, C.wf, V.i]) ⟨roE_ints (l := 0) rfl (by omega) rfl (.inl rfl), trivial⟩ rfl rfl (by simp [V.wf, A.wf, C.wf]) ?_ | refine CallK.cellsE (R := []) k2 (by kernel_rfl) rfl (by simp [V.wf, A.wf, C.wf, V.i]) ⟨roE_ints (l := 0) rfl (by omega) rfl (.inl rfl), trivial⟩ rfl ?_ | refine CallK.intsE (R := []) k3 (by kernel_rfl) rfl (by simp [V.wf, A.wf, C.wf, V.i]) ⟨roE_ints (l := 0) rfl (by omega) rfl (.inl rfl), trivial⟩ rfl ?_ | refine CallK.val (R := [(0, some 0), (1, some 2)]) k4 (by kernel_rfl) rfl (by simp [V.wf, A.wf, C.wf, V.i]) ⟨roE_ints (l := 0) rfl (by omega) rfl (.inl rfl), roE_ints (l := 2) rfl (by omega) rfl (.inl rfl), trivial⟩ rfl rfl (by simp [V.wf, A.wf, C.wf]) ?_ | refine CallK.val (R := [(0, some 0), (1, some 1)]) k5 (by kernel_rfl) rfl (by simp [V.wf, A.wf, C.wf, V.i]) ⟨roE_ints (l := 0) rfl (by omega) rfl (.inl rfl), roE_cells (l := 1) rfl (by omega) rfl (.inr rfl), trivial⟩ rfl rfl (by simp [V.wf, A.wf, C.wf]) ?_ | refine CallK.val (R := [(0, some 0), (1, some 4)]) k6 (by kernel_rfl) rfl (by simp [V.wf, A.wf, C.wf, V.i]) ⟨roE_ints (l := 0) rfl (by omega) rfl (.inl rfl), roE_cells (l := 4) rfl (by omega) rfl (.inr rfl), trivial⟩ rfl rfl (by simp [V.wf, A.wf, C.wf]) ?_ | refine CallK.val (R := [(0, some 0), (1, some 4)]) k7 (by kernel_rfl) rfl (by simp [V.wf, A.wf, C.wf, V.i]) ⟨roE_ints (l := 0) rfl (by omega) rfl (.inl rfl), roE_cells (l := 4) rfl (by omega) rfl (.inr rfl), trivial⟩ rfl rfl (by simp [V.wf, A.wf, C.wf]) ?_ | refine CallK.val (R := [(0, some 0), (1, some 5)]) k8 (by kernel_rfl) rfl (by simp [V.wf, A.wf, C.wf, V.i]) ⟨roE_ints (l := 0) rfl (by omega) rfl (.inl rfl), roE_ints (l := 5) rfl (by omega) rfl (.inl rfl), trivial⟩ rfl rfl (by simp [V.wf, A.wf, C.wf]) ?_ | refine CallK.val (R := [(0, some 0), (1, some 5)]) k9 (by kernel_rfl) rfl (by simp [V.wf, A.wf, C.wf, V.i]) ⟨roE_ints (l := 0) rfl (by omega) rfl (.inl rfl), roE_ints (l := 5) rfl (by omega) rfl (.inl rfl), trivial⟩ rfl rfl (by simp [V.wf, A.wf, C.wf]) ?_ | refine bs_bf (Eq.refl false) ?_ | refine br_bf (Eq.refl false) ?_ | refine awake_k ?_ | refine CallK.m ?_)
            intro ρ; rfl
          | false =>
            rw [q1, q2, hb'] at k4
            repeat ((conv => whnf); first | (refine And.intro (by first | omega | (dsimp only [inK]; omega)) ?_) | refine Exists.intro _ (And.intro rfl ?_) | refine br_t (by omega) ?_ | refine br_f (by omega) ?_ | refine bs_f (by omega) ?_ | refine fun (K' : K3) hK' => ?_ | (refine hK' _ _ _ ?_; clear hK' K') | refine wide_k (by omega) ?_ | refine long_k (by omega) ?_ | refine CallK.val (R := []) hva (by kernel_rfl) rfl (by simp [V.wf, A.wf, C.wf, V.i]) ⟨roE_ints (l := 0) rfl (by omega) rfl (.inl rfl), trivial⟩ rfl rfl trivial ?_ | refine br_bf (congrArg Bool.not hv) ?_ | refine CallK.val (R := []) k1 (by kernel_rfl) rfl (by simp [V.wf, A.wf, C.wf, V.i]) ⟨roE_ints (l := 0) rfl (by omega) rfl (.inl rfl), trivial⟩ rfl rfl (by simp [V.wf, A.wf, C.wf]) ?_ | refine CallK.cellsE (R := []) k2 (by kernel_rfl) rfl (by simp [V.wf, A.wf, C.wf, V.i]) ⟨roE_ints (l := 0) rfl (by omega) rfl (.inl rfl), trivial⟩ rfl ?_ | refine CallK.intsE (R := []) k3 (by kernel_rfl) rfl (by simp [V.wf, A.wf, C.wf, V.i]) ⟨roE_ints (l := 0) rfl (by omega) rfl (.inl rfl), trivial⟩ rfl ?_ | refine CallK.val (R := [(0, some 0), (1, some 2)]) k4 (by kernel_rfl) rfl (by simp [V.wf, A.wf, C.wf, V.i]) ⟨roE_ints (l := 0) rfl (by omega) rfl (.inl rfl), roE_ints (l := 2) rfl (by omega) rfl (.inl rfl), trivial⟩ rfl rfl (by simp [V.wf, A.wf, C.wf]) ?_ | refine CallK.val (R := [(0, some 0), (1, some 1)]) k5 (by kernel_rfl) rfl (by simp [V.wf, A.wf, C.wf, V.i]) ⟨roE_ints (l := 0) rfl (by omega) rfl (.inl rfl), roE_cells (l := 1) rfl (by omega) rfl (.inr rfl), trivial⟩ rfl rfl (by simp [V.wf, A.wf, C.wf]) ?_ | refine CallK.val (R := [(0, some 0), (1, some 4)]) k6 (by kernel_rfl) rfl (by simp [V.wf, A.wf, C.wf, V.i]) ⟨roE_ints (l := 0) rfl (by omega) rfl (.inl rfl), roE_cells (l := 4) rfl (by omega) rfl (.inr rfl), trivial⟩ rfl rfl (by simp [V.wf, A.wf, C.wf]) ?_ | refine CallK.val (R := [(0, some 0), (1, some 4)]) k7 (by kernel_rfl) rfl (by simp [V.wf, A.wf, C.wf, V.i]) ⟨roE_ints (l := 0) rfl (by omega) rfl (.inl rfl), roE_cells (l := 4) rfl (by omega) rfl (.inr rfl), trivial⟩ rfl rfl (by simp [V.wf, A.wf, C.wf]) ?_ | refine CallK.val (R := [(0, some 0), (1, some 5)]) k8 (by kernel_rfl) rfl (by simp [V.wf, A.wf, C.wf, V.i]) ⟨roE_ints (l := 0) rfl (by omega) rfl (.inl rfl), roE_ints (l := 5) rfl (by omega) rfl (.inl rfl), trivial⟩ rfl rfl (by simp [V.wf, A.wf, C.wf]) ?_ | refine CallK.val (R := [(0, some 0), (1, some 5)]) k9 (by kernel_rfl) rfl (by simp [V.wf, A.wf, C.wf, V.i]) ⟨roE_ints (l := 0) rfl (by omega) rfl (.inl rfl), roE_ints (l := 5) rfl (by omega) rfl (.inl rfl), trivial⟩ rfl rfl (by simp [V.wf, A.wf, C.wf]) ?_ | refine bs_bf (Eq.refl false) ?_ | refine br_bf (Eq.refl false) ?_ | refine bs_bt (Eq.refl true) ?_ | refine awake_k ?_ | refine CallK.m ?_)
            intro ρ; rfl
        · rw [q1, q2] at k4
          repeat ((conv => whnf); first | (refine And.intro (by first | omega | (dsimp only [inK]; omega)) ?_) | refine Exists.intro _ (And.intro rfl ?_) | refine br_t (by omega) ?_ | refine br_f (by omega) ?_ | refine bs_f (by omega) ?_ | refine fun (K' : K3) hK' => ?_ | (refine hK' _ _ _ ?_; clear hK' K') | refine wide_k (by omega) ?_ | refine long_k (by omega) ?_ | refine CallK.val (R := []) hva (by kernel_rfl) rfl (by simp [V.wf, A.wf, C.wf, V.i]) ⟨roE_ints (l := 0) rfl (by omega) rfl (.inl rfl), trivial⟩ rfl rfl trivial ?_ | refine br_bf (congrArg Bool.not hv) ?_ | refine CallK.val (R := []) k1 (by kernel_rfl) rfl (by simp [V.wf, A.wf, C.wf, V.i]) ⟨roE_ints (l := 0) rfl (by omega) rfl (.inl rfl), trivial⟩ rfl rfl (by simp [V.wf, A.wf, C.wf]) ?_ | refine CallK.cellsE (R := []) k2 (by kernel_rfl) rfl (by simp [V.wf, A.wf, C.wf, V.i]) ⟨roE_ints (l := 0) rfl (by omega) rfl (.inl rfl), trivial⟩ rfl ?_ | refine CallK.intsE (R := []) k3 (by kernel_rfl) rfl (by simp [V.wf, A.wf, C.wf, V.i]) ⟨roE_ints (l := 0) rfl (by omega) rfl (.inl rfl), trivial⟩ rfl ?_ | refine CallK.val (R := [(0, some 0), (1, some 2)]) k4 (by kernel_rfl) rfl (by simp [V.wf, A.wf, C.wf, V.i]) ⟨roE_ints (l := 0) rfl (by omega) rfl (.inl rfl), roE_ints (l := 2) rfl (by omega) rfl (.inl rfl), trivial⟩ rfl rfl (by simp [V.wf, A.wf, C.wf]) ?_ | refine CallK.val (R := [(0, some 0), (1, some 1)]) k5 (by kernel_rfl) rfl (by simp [V.wf, A.wf, C.wf, V.i]) ⟨roE_ints (l := 0) rfl (by omega) rfl (.inl rfl), roE_cells (l := 1) rfl (by omega) rfl (.inr rfl), trivial⟩ rfl rfl (by simp [V.wf, A.wf, C.wf]) ?_ | refine CallK.val (R := [(0, some 0), (1, some 4)]) k6 (by kernel_rfl) rfl (by simp [V.wf, A.wf, C.wf, V.i]) ⟨roE_ints (l := 0) rfl (by omega) rfl (.inl rfl), roE_cells (l := 4) rfl (by omega) rfl (.inr rfl), trivial⟩ rfl rfl (by simp [V.wf, A.wf, C.wf]) ?_ | refine CallK.val (R := [(0, some 0), (1, some 4)]) k7 (by kernel_rfl) rfl (by simp [V.wf, A.wf, C.wf, V.i]) ⟨roE_ints (l := 0) rfl (by omega) rfl (.inl rfl), roE_cells (l := 4) rfl (by omega) rfl (.inr rfl), trivial⟩ rfl rfl (by simp [V.wf, A.wf, C.wf]) ?_ | refine CallK.val (R := [(0, some 0), (1, some 5)]) k8 (by kernel_rfl) rfl (by simp [V.wf, A.wf, C.wf, V.i]) ⟨roE_ints (l := 0) rfl (by omega) rfl (.inl rfl), roE_ints (l := 5) rfl (by omega) rfl (.inl rfl), trivial⟩ rfl rfl (by simp [V.wf, A.wf, C.wf]) ?_ | refine CallK.val (R := [(0, some 0), (1, some 5)]) k9 (by kernel_rfl) rfl (by simp [V.wf, A.wf, C.wf, V.i]) ⟨roE_ints (l := 0) rfl (by omega) rfl (.inl rfl), roE_ints (l := 5) rfl (by omega) rfl (.inl rfl), trivial⟩ rfl rfl (by simp [V.wf, A.wf, C.wf]) ?_ | refine bs_bf (Eq.refl false) ?_ | refine br_bf (Eq.refl false) ?_ | refine bs_bt (Eq.refl true) ?_ | refine awake_k ?_ | refine CallK.m ?_)
          intro ρ; rfl
      · rcases p4 with ⟨q1, q2⟩ | ⟨q1, q2⟩
        · cases hb' : provP W H cs hs n with
          | true =>
            rw [q1, q2, hb'] at k4
            have hnx := hpl hb'
            repeat ((conv => whnf); first | (refine And.intro (by first | omega | (dsimp only [inK]; omega)) ?_) | refine Exists.intro _ (And.intro rfl ?_) | refine br_t (by omega) ?_ | refine br_f (by omega) ?_ | refine bs_t (by omega) ?_ | refine bs_f (by omega) ?_ | refine fun (K' : K3) hK' => ?_ | (refine hK' _ _ _ ?_; clear hK' K') | refine wide_k (by omega) ?_ | refine long_k (by omega) ?_ | refine CallK.val (R := []) hva (by kernel_rfl) rfl (by simp [V.wf, A.wf, C.wf, V.i]) ⟨roE_ints (l := 0) rfl (by omega) rfl (.inl rfl), trivial⟩ rfl rfl trivial ?_ | refine br_bf (congrArg Bool.not hv) ?_ | refine CallK.val (R := []) k1 (by kernel_rfl) rfl (by simp [V.wf, A.wf, C.wf, V.i]) ⟨roE_ints (l := 0) rfl (by omega) rfl (.inl rfl), trivial⟩ rfl rfl (by simp [V.wf, A.wf, C.wf]) ?_ | refine CallK.cellsE (R := []) k2 (by kernel_rfl) rfl (by simp [V.wf, A.wf, C.wf, V.i]) ⟨roE_ints (l := 0) rfl (by omega) rfl (.inl rfl), trivial⟩ rfl ?_ | refine CallK.intsE (R := []) k3 (by kernel_rfl) rfl (by simp [V.wf, A.wf, C.wf, V.i]) ⟨roE_ints (l := 0) rfl (by omega) rfl (.inl rfl), trivial⟩ rfl ?_ | refine CallK.val (R := [(0, some 0), (1, some 2)]) k4 (by kernel_rfl) rfl (by simp [V.wf, A.wf, C.wf, V.i]) ⟨roE_ints (l := 0) rfl (by omega) rfl (.inl rfl), roE_ints (l := 2) rfl (by omega) rfl (.inl rfl), trivial⟩ rfl rfl (by simp [V.wf, A.wf, C.wf]) ?_ | refine CallK.val (R := [(0, some 0), (1, some 1)]) k5 (by kernel_rfl) rfl (by simp [V.wf, A.wf, C.wf, V.i]) ⟨roE_ints (l := 0) rfl (by omega) rfl (.inl rfl), roE_cells (l := 1) rfl (by omega) rfl (.inr rfl), trivial⟩ rfl rfl (by simp [V.wf, A.wf, C.wf]) ?_ | refine CallK.val (R := [(0, some 0), (1, some 4)]) k6 (by kernel_rfl) rfl (by simp [V.wf, A.wf, C.wf, V.i]) ⟨roE_ints (l := 0) rfl (by omega) rfl (.inl rfl), roE_cells (l := 4) rfl (by omega) rfl (.inr rfl), trivial⟩ rfl rfl (by simp [V.wf, A.wf, C.wf]) ?_ | refine CallK.val (R := [(0, some 0), (1, some 4)]) k7 (by kernel_rfl) rfl (by simp [V.wf, A.wf, C.wf, V.i]) ⟨roE_ints (l := 0) rfl (by omega) rfl (.inl rfl), roE_cells (l := 4) rfl (by omega) rfl (.inr rfl), trivial⟩ rfl rfl (by simp [V.wf, A.wf, C.wf]) ?_ | refine CallK.val (R := [(0, some 0), (1, some 5)]) k8 (by kernel_rfl) rfl (by simp [V.wf, A.wf, C.wf, V.i]) ⟨roE_ints (l := 0) rfl (by omega) rfl (.inl rfl), roE_ints (l := 5) rfl (by omega) rfl (.inl rfl), trivial⟩ rfl rfl (by simp [V.wf, A.wf, C.wf]) ?_ | refine CallK.val (R := [(0, some 0), (1, some 5)]) k9 (by kernel_rfl) rfl (by simp [V.wf, A.wf, C.wf, V.i]) ⟨roE_ints (l := 0) rfl (by omega) rfl (.inl rfl), roE_ints (l := 5) rfl (by omega) rfl (.inl rfl), trivial⟩ rfl rfl (by simp [V.wf, A.wf, C.wf]) ?_ | refine bs_bf (Eq.refl false) ?_ | refine br_bf (Eq.refl false) ?_ | refine awake_k ?_ | refine CallK.m ?_)
            intro ρ; rfl
          | false =>
            rw [q1, q2, hb'] at k4
            repeat ((conv => whnf); first | (refine And.intro (by first | omega | (dsimp only [inK]; omega)) ?_) | refine Exists.intro _ (And.intro rfl ?_) | refine br_t (by omega) ?_ | refine br_f (by omega) ?_ | refine bs_t (by omega) ?_ | refine bs_f (by omega) ?_ | refine fun (K' : K3) hK' => ?_ | (refine hK' _ _ _ ?_; clear hK' K') | refine wide_k (by omega) ?_ | refine long_k (by omega) ?_ | refine CallK.val (R := []) hva (by kernel_rfl) rfl (by simp [V.wf, A.wf, C.wf, V.i]) ⟨roE_ints (l := 0) rfl (by omega) rfl (.inl rfl), trivial⟩ rfl rfl trivial ?_ | refine br_bf (congrArg Bool.not hv) ?_ | refine CallK.val (R := []) k1 (by kernel_rfl) rfl (by simp [V.wf, A.wf, C.wf, V.i]) ⟨roE_ints (l := 0) rfl (by omega) rfl (.inl rfl), trivial⟩ rfl rfl (by simp [V.wf, A.wf, C.wf]) ?_ | refine CallK.cellsE (R := []) k2 (by kernel_rfl) rfl (by simp [V.wf, A.wf, C.wf, V.i]) ⟨roE_ints (l := 0) rfl (by omega) rfl (.inl rfl), trivial⟩ rfl ?_ | refine CallK.intsE (R := []) k3 (by kernel_rfl) rfl (by simp [V.wf, A.wf, C.wf, V.i]) ⟨roE_ints (l := 0) rfl (by omega) rfl (.inl rfl), trivial⟩ rfl ?_ | refine CallK.val (R := [(0, some 0), (1, some 2)]) k4 (by kernel_rfl) rfl (by simp [V.wf, A.wf, C.wf, V.i]) ⟨roE_ints (l := 0) rfl (by omega) rfl (.inl rfl), roE_ints (l := 2) rfl (by omega) rfl (.inl rfl), trivial⟩ rfl rfl (by simp [V.wf, A.wf, C.wf]) ?_ | refine CallK.val (R := [(0, some 0), (1, some 1)]) k5 (by kernel_rfl) rfl (by simp [V.wf, A.wf, C.wf, V.i]) ⟨roE_ints (l := 0) rfl (by omega) rfl (.inl rfl), roE_cells (l := 1) rfl (by omega) rfl (.inr rfl), trivial⟩ rfl rfl (by simp [V.wf, A.wf, C.wf]) ?_ | refine CallK.val (R := [(0, some 0), (1, some 4)]) k6 (by kernel_rfl) rfl (by simp [V.wf, A.wf, C.wf, V.i]) ⟨roE_ints (l := 0) rfl (by omega) rfl (.inl rfl), roE_cells (l := 4) rfl (by omega) rfl (.inr rfl), trivial⟩ rfl rfl (by simp [V.wf, A.wf, C.wf]) ?_ | refine CallK.val (R := [(0, some 0), (1, some 4)]) k7 (by kernel_rfl) rfl (by simp [V.wf, A.wf, C.wf, V.i]) ⟨roE_ints (l := 0) rfl (by omega) rfl (.inl rfl), roE_cells (l := 4) rfl (by omega) rfl (.inr rfl), trivial⟩ rfl rfl (by simp [V.wf, A.wf, C.wf]) ?_ | refine CallK.val (R := [(0, some 0), (1, some 5)]) k8 (by kernel_rfl) rfl (by simp [V.wf, A.wf, C.wf, V.i]) ⟨roE_ints (l := 0) rfl (by omega) rfl (.inl rfl), roE_ints (l := 5) rfl (by omega) rfl (.inl rfl), trivial⟩ rfl rfl (by simp [V.wf, A.wf, C.wf]) ?_ | refine CallK.val (R := [(0, some 0), (1, some 5)]) k9 (by kernel_rfl) rfl (by simp [V.wf, A.wf, C.wf, V.i]) ⟨roE_ints (l := 0) rfl (by omega) rfl (.inl rfl), roE_ints (l := 5) rfl (by omega) rfl (.inl rfl), trivial⟩ rfl rfl (by simp [V.wf, A.wf, C.wf]) ?_ | refine bs_bf (Eq.refl false) ?_ | refine br_bf (Eq.refl false) ?_ | refine bs_bt (Eq.refl true) ?_ | refine awake_k ?_ | refine CallK.m ?_)
            intro ρ; rfl
        · rw [q1, q2] at k4
          repeat ((conv => whnf); first | (refine And.intro (by first | omega | (dsimp only [inK]; omega)) ?_) | refine Exists.intro _ (And.intro rfl ?_) | refine br_t (by omega) ?_ | refine br_f (by omega) ?_ | refine bs_t (by omega) ?_ | refine bs_f (by omega) ?_ | refine fun (K' : K3) hK' => ?_ | (refine hK' _ _ _ ?_; clear hK' K') | refine wide_k (by omega) ?_ | refine long_k (by omega) ?_ | refine CallK.val (R := []) hva (by kernel_rfl) rfl (by simp [V.wf, A.wf, C.wf, V.i]) ⟨roE_ints (l := 0) rfl (by omega) rfl (.inl rfl), trivial⟩ rfl rfl trivial ?_ | refine br_bf (congrArg Bool.not hv) ?_ | refine CallK.val (R := []) k1 (by kernel_rfl) rfl (by simp [V.wf, A.wf, C.wf, V.i]) ⟨roE_ints (l := 0) rfl (by omega) rfl (.inl rfl), trivial⟩ rfl rfl (by simp [V.wf, A.wf, C.wf]) ?_ | refine CallK.cellsE (R := []) k2 (by kernel_rfl) rfl (by simp [V.wf, A.wf, C.wf, V.i]) ⟨roE_ints (l := 0) rfl (by omega) rfl (.inl rfl), trivial⟩ rfl ?_ | refine CallK.intsE (R := []) k3 (by kernel_rfl) rfl (by simp [V.wf, A.wf, C.wf, V.i]) ⟨roE_ints (l := 0) rfl (by omega) rfl (.inl rfl), trivial⟩ rfl ?_ | refine CallK.val (R := [(0, some 0), (1, some 2)]) k4 (by kernel_rfl) rfl (by simp [V.wf, A.wf, C.wf, V.i]) ⟨roE_ints (l := 0) rfl (by omega) rfl (.inl rfl), roE_ints (l := 2) rfl (by omega) rfl (.inl rfl), trivial⟩ rfl rfl (by simp [V.wf, A.wf, C.wf]) ?_ | refine CallK.val (R := [(0, some 0), (1, some 1)]) k5 (by kernel_rfl) rfl (by simp [V.wf, A.wf, C.wf, V.i]) ⟨roE_ints (l := 0) rfl (by omega) rfl (.inl rfl), roE_cells (l := 1) rfl (by omega) rfl (.inr rfl), trivial⟩ rfl rfl (by simp [V.wf, A.wf, C.wf]) ?_ | refine CallK.val (R := [(0, some 0), (1, some 4)]) k6 (by kernel_rfl) rfl (by simp [V.wf, A.wf, C.wf, V.i]) ⟨roE_ints (l := 0) rfl (by omega) rfl (.inl rfl), roE_cells (l := 4) rfl (by omega) rfl (.inr rfl), trivial⟩ rfl rfl (by simp [V.wf, A.wf, C.wf]) ?_ | refine CallK.val (R := [(0, some 0), (1, some 4)]) k7 (by kernel_rfl) rfl (by simp [V.wf, A.wf, C.wf, V.i]) ⟨roE_ints (l := 0) rfl (by omega) rfl (.inl rfl), roE_cells (l := 4) rfl (by omega) rfl (.inr rfl), trivial⟩ rfl rfl (by simp [V.wf, A.wf, C.wf]) ?_ | refine CallK.val (R := [(0, some 0), (1, some 5)]) k8 (by kernel_rfl) rfl (by simp [V.wf, A.wf, C.wf, V.i]) ⟨roE_ints (l := 0) rfl (by omega) rfl (.inl rfl), roE_ints (l := 5) rfl (by omega) rfl (.inl rfl), trivial⟩ rfl rfl (by simp [V.wf, A.wf, C.wf]) ?_ | refine CallK.val (R := [(0, some 0), (1, some 5)]) k9 (by kernel_rfl) rfl (by simp [V.wf, A.wf, C.wf, V.i]) ⟨roE_ints (l := 0) rfl (by omega) rfl (.inl rfl), roE_ints (l := 5) rfl (by omega) rfl (.inl rfl), trivial⟩ rfl rfl (by simp [V.wf, A.wf, C.wf]) ?_ | refine bs_bf (Eq.refl false) ?_ | refine br_bf (Eq.refl false) ?_ | refine bs_bt (Eq.refl true) ?_ | refine awake_k ?_ | refine CallK.m ?_)
          intro ρ; rfl
theorem hp_3 {W : World} {cs hs : List Int} {l : List Cell} {ao bo co : Option Addr} {c d e : Nat} (h : IntsAt W ao cs) (h2 : CellsAt W bo d l) (h3 : IntsAt W co hs) : Hp W.heap.size (envL [(ao, c), (bo, d), (co, e)]) W [⟨0, .ro 0, cs.map C.i⟩, ⟨1, .ro 2, cellC l⟩, ⟨2, .ro 0, hs.map C.i⟩] 3 := by
  refine Hp.rosz (fun x hx => ?_) rfl
  simp only [List.mem_cons, List.not_mem_nil, or_false] at hx
  rcases hx with rfl | rfl | rfl
  · exact ent_ints h (by show 0 < 3; omega) rfl
  · exact ent_cells h2 (by show 1 < 3; omega) rfl
  · exact ent_ints h3 (by show 2 < 3; omega) rfl
theorem proofs_any (W H : Int) (cs : List Int) (l : List Cell) (hs : List Int) (n : Int) (hn : -9223372036854775808 ≤ n ∧ n ≤ 9223372036854775807) (ao : Option Addr) (c : Nat) (bo : Option Addr) (d : Nat) (co : Option Addr) (e : Nat) (w : World) (h : IntsAt w ao cs) (h2 : CellsAt w bo d l) (h3 : IntsAt w co hs) :
    Calls Try.prog 12 #[.agg #[.int .i64 W, .int .i64 H, .slice ao cs.length c], .slice bo l.length d, .slice co hs.length e, .int .i64 n] w fun e w' => e = .returned (.bool true) ∧ Below w.heap.size w w' := by
  by_cases hl : (cs.length : Int) > 300 ∨ (l.length : Int) > 250 ∨ (hs.length : Int) > 300
  · exact isTrue_any (vs := [chR W H cs.length, V.c (.sl 1 l.length), V.c (.sl 2 hs.length), V.i n]) (proofs_long W H cs l hs n h.2 h2.2.2 h3.2 hl) (hp_3 h h2 h3) (by simp [V.wf, A.wf, C.wf, V.i]) rfl
  · exact isTrue_any (vs := [chR W H cs.length, V.c (.sl 1 l.length), V.c (.sl 2 hs.length), V.i n]) (proofs_spec W H cs l hs n hn (fun e => hl (.inl e)) (fun e => hl (.inr (.inl e))) (fun e => hl (.inr (.inr e)))) (hp_3 h h2 h3) (by simp [V.wf, A.wf, C.wf, V.i]) rfl
end Go.Proofs.Ytbhpnhcdjmcaoaa

