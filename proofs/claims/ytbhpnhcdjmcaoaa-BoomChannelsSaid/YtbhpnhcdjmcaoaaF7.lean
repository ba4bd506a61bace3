/- Texts of the proof, part 7: X4, X5, L11. -/
import Derived.Test.YtbhpnhcdjmcaoaaF6
import Derived.WalkKit
import Derived.Below
import Derived.Laws.OwnMore
import Derived.Maps.AppendAt
import Derived.Laws.IdiomCopy
import Derived.Laws.CopyRow
import Derived.IntWalk
import Derived.StillTail
import Derived.Scope
import Derived.ChangeKeysEq
import Derived.Laws.Small
import Derived.OrdersIn
import Derived.TacticsIn
import Derived.OwnWalkIn
import Derived.RangeFuncNested
import Derived.RangeFuncLeaves
import Derived.RangeFuncRecord
import Derived.Maps.Keyed
import Derived.Maps.RangeRun
import Derived.DeepKeys4
import Derived.Test.YtbhpnhcdjmcaoaaRows
import Derived.KernelRfl
import Derived.ProofKit
import Derived.OpenShut
import Derived.Lib.SmallJoins
import Derived.Deep.Slices
/- Boom, the reference: the shortest channel that comes first, and whether booms block. -/
namespace Go.Proofs.Ytbhpnhcdjmcaoaa
open Go.RowKit
set_option linter.unusedVariables false
set_option linter.unusedSimpArgs false
/-- The first of some cells that is wanted; -1: none is. -/
def firstF (p : Int → Bool) (l : List Int) : Int := match l.find? p with
  | some k => k
  | none => -1
theorem firstF_hit {p : Int → Bool} {l : List Int} {j : Nat} (hj : j < l.length) (h0 : firstF p (l.take j) < 0) (hpos : ∀ x ∈ l, 0 ≤ x) (h : p (l.getD j 0) = true) : firstF p (l.take (j + 1)) = l.getD j 0 := by
  have hn : (l.take j).find? p = none := by
    cases hf : (l.take j).find? p with
    | none => rfl
    | some k =>
      unfold firstF at h0; rw [hf] at h0
      have := hpos k (List.mem_of_mem_take (List.mem_of_find?_eq_some hf))
      simp only at h0; omega
  unfold firstF
  rw [List.take_add_one, show l[j]?.toList = [l.getD j 0] by rw [List.getElem?_eq_getElem hj, List.getD_eq_getElem?_getD, List.getElem?_eq_getElem hj]; rfl, List.find?_append, hn]
  generalize l.getD j 0 = x at *
  simp [h]
theorem firstF_miss {p : Int → Bool} {l : List Int} {j : Nat} (hj : j < l.length) (h : p (l.getD j 0) = false) : firstF p (l.take (j + 1)) = firstF p (l.take j) := by
  unfold firstF
  rw [List.take_add_one, show l[j]?.toList = [l.getD j 0] by rw [List.getElem?_eq_getElem hj, List.getD_eq_getElem?_getD, List.getElem?_eq_getElem hj]; rfl, List.find?_append]
  generalize l.getD j 0 = x at *
  simp [h]
theorem firstF_keep {p : Int → Bool} {l : List Int} {j : Nat} (h0 : ¬ firstF p (l.take j) < 0) : firstF p (l.take (j + 1)) = firstF p (l.take j) := by
  unfold firstF at *
  rw [List.take_add_one, List.find?_append]
  cases hf : (l.take j).find? p with
  | none => rw [hf] at h0; simp at h0
  | some k => rfl
theorem lef_pos {d : Int → Option Int} {i : Int} (h0 : ∀ m, d i = some m → 0 ≤ m) : lef d i > 0 ↔ ∃ m, d i = some m := by
  unfold lef
  cases hd : d i with
  | none => simp
  | some m => have := h0 m hd; simp; omega
theorem lef_some {d : Int → Option Int} {i m : Int} (h : d i = some m) : lef d i = m + 1 := by unfold lef; rw [h]
theorem lef_none {d : Int → Option Int} {i : Int} (h : d i = none) : lef d i = 0 := by unfold lef; rw [h]
set_option maxRecDepth 10000 in
set_option maxHeartbeats 8000000 in
theorem rChannel_spec (W H : Int) (cs : List Int) (bs : List Cell) (hl : cs.length ≤ 300) (hb : bs.length ≤ 300) :
    Spec Try.prog 50 [chR W H cs.length, V.c (.sl 1 bs.length)] [⟨0, .ro 0, cs.map C.i⟩, ⟨1, .ro 0, cellC bs⟩] 2 (fun v L' _ => cellsE (chC W H cs bs) (chE W H cs bs) v L') := by
  have hlm : (cs.map C.i).length = cs.length := by simp
  have hli : ∀ g, ((iL cs.length g).map C.i).length = cs.length := fun g => by simp [iL]
  have hak := asked_spec W H cs bs hl hb
  unfold chC chE
  unfold askE at hak
  refine Spec.of tok Try.func50 rfl rfl rfl fun n0 cx => vc_ok tok ?_
  cases hv : okC W H cs with
  | false =>
    rw [hv] at hak
    repeat ((conv => whnf); first | refine Exists.intro _ (And.intro rfl ?_) | refine fun (K' : K3) hK' => ?_ | (refine hK' _ _ _ ?_; clear hK' K') | refine CallK.val (R := []) hak (by kernel_rfl) rfl (by simp [V.wf, A.wf, C.wf]) ⟨roE_ints (l := 0) rfl (by omega) rfl (.inl rfl), roE_cells (l := 1) rfl (by omega) rfl (.inl rfl), trivial⟩ rfl rfl trivial ?_ | refine br_bt (Eq.refl true) ?_ | refine CallK.m ?_)
    exact .inl ⟨rfl, rfl⟩
  | true =>
    cases hB : okB W H cs bs with
    | false =>
      rw [hv, hB] at hak
      repeat ((conv => whnf); first | refine Exists.intro _ (And.intro rfl ?_) | refine fun (K' : K3) hK' => ?_ | (refine hK' _ _ _ ?_; clear hK' K') | refine CallK.val (R := []) hak (by kernel_rfl) rfl (by simp [V.wf, A.wf, C.wf]) ⟨roE_ints (l := 0) rfl (by omega) rfl (.inl rfl), roE_cells (l := 1) rfl (by omega) rfl (.inl rfl), trivial⟩ rfl rfl trivial ?_ | refine br_bt (Eq.refl true) ?_ | refine CallK.m ?_)
      exact .inl ⟨rfl, rfl⟩
    | true =>
      rw [hv, hB] at hak
      have hok := okC_iff.1 hv
      have hle := left_spec W H cs bs hok hB hb
      obtain ⟨hW, hH, hcl, hcost⟩ := hok
      have hok : CO W H cs := ⟨hW, hH, hcl, hcost⟩
      have hn : (cs.length : Int) ≤ 100 := by have := Int.mul_le_mul hW.2 hH.2 (by omega) (by omega : (0:Int) ≤ 10); omega
      have hW0 : 0 < W := by omega
      obtain ⟨wet, hwet⟩ : ∃ wet, wet = wetB cs (boomF W H bs) := ⟨_, rfl⟩
      rw [← hwet] at hle ⊢
      obtain ⟨h0, rfl⟩ : ∃ h0 : Nat, H = h0 := ⟨H.toNat, by omega⟩
      have hcho : chanO W h0 cs.length wet = chanD W h0 (distW W h0 cs.length wet (W - 1)) := rfl
      have hdom : ∀ {i m : Int}, distW W h0 cs.length wet (W - 1) i = some m → 0 ≤ i ∧ i < cs.length := fun h => (distW_dom hW0 hcl h).1
      have hbd : ∀ {i m : Int}, distW W h0 cs.length wet (W - 1) i = some m → 0 ≤ m ∧ m < cs.length := fun h => distW_bd hW0 hcl h
      have hnx : ∀ {i m : Int}, distW W h0 cs.length wet (W - 1) i = some m → 0 < m → ∃ k, nextC W h0 (distW W h0 cs.length wet (W - 1)) i (m - 1) = some k ∧ distW W h0 cs.length wet (W - 1) k = some (m - 1) ∧ k ∈ nearL W h0 false i := fun h h1 => nextC_some h h1
      obtain ⟨d, hd⟩ : ∃ d, d = distW W h0 cs.length wet (W - 1) := ⟨_, rfl⟩
      rw [← hd] at hcho hle
      simp only [← hd] at hdom hbd hnx
      rw [hcho]
      unfold chanD
      rw [Int.toNat_natCast]
      clear hcho hd hwet
      have hil : (iL cs.length (lef d)).length = cs.length := iL_len _ _
      have hget : ∀ {k : Nat}, k < cs.length → ((iL cs.length (lef d)).map C.i)[mulS ((k : Nat) : Int).toNat 1]? = some (C.i (lef d k)) := fun {k} hk => by
        rw [intL (by rw [hil]; exact hk), iL_get hk]
      repeat ((conv => whnf); first | (refine And.intro (by first | omega | exact Nat.le_of_ble_eq_true rfl) ?_) | refine Exists.intro _ (And.intro rfl ?_) | refine fun (K' : K3) hK' => ?_ | (refine hK' _ _ _ ?_; clear hK' K') | refine CallK.val (R := []) hak (by kernel_rfl) rfl (by simp [V.wf, A.wf, C.wf]) ⟨roE_ints (l := 0) rfl (by omega) rfl (.inl rfl), roE_cells (l := 1) rfl (by omega) rfl (.inl rfl), trivial⟩ rfl rfl trivial ?_ | refine CallK.intsR (R := []) hle (by kernel_rfl) rfl (by simp [V.wf, A.wf, C.wf]) ⟨roE_ints (l := 0) rfl (by omega) rfl (.inl rfl), roE_cells (l := 1) rfl (by omega) rfl (.inl rfl), trivial⟩ rfl ?_ | refine br_bf (Eq.refl false) ?_ | refine CallK.m ?_)
      rw [hil]
      refine Tri.loop (γ := Nat) (fun k => k ≤ h0) (fun k => [(2, V.c (.ptr 2 0)), (7, V.c (.sl 3 cs.length)), (8, V.i (bestC W d k)), (25, V.i h0), (26, V.i (k : Nat))])
        (fun k => [⟨3, .vec 3 1, (iL cs.length (lef d)).map C.i⟩, ⟨2, .own 24, [C.i W, C.i h0, .sl 0 cs.length]⟩, ⟨0, .ro 0, cs.map C.i⟩, ⟨1, .ro 0, cellC bs⟩]) 4 (fun k => h0 - k) 0 (R0 := []) ?_ ?_ ?_
      · omega
      · skip
        refine ⟨?_, ?_, rfl, rfl, by exact Nat.le_of_ble_eq_true rfl⟩
        · repeat (first | exact trivial | (refine And.intro (covS_syn (by rfl) rfl (by first | exact trivial | exact Nat.le_of_ble_eq_true rfl)) ?_))
        · repeat (first | exact trivial | (refine And.intro (covE_id (Nat.le_of_ble_eq_true rfl) (by first | exact wf_ints _ _ | first | exact wf_cells _ _ | simp [C.wf]) rfl (by rfl)) ?_))
      · intro k hk
        refine vc_ok tok ?_
        by_cases hlt : k < h0
        · have hkw : 0 ≤ (k : Int) * W ∧ (k : Int) * W + W ≤ cs.length := by
            have h1 : 0 ≤ (k : Int) * W := Int.mul_nonneg (by omega) (by omega)
            have h2 := Int.mul_le_mul_of_nonneg_right (show (k : Int) + 1 ≤ h0 by omega) (show 0 ≤ W by omega)
            rw [Int.add_mul] at h2
            have : (h0 : Int) * W = W * h0 := Int.mul_comm _ _
            omega
          obtain ⟨i, hi⟩ : ∃ i : Nat, (i : Int) = (k : Int) * W := ⟨((k : Int) * W).toNat, by omega⟩
          have hin : i < cs.length := by omega
          have hix := rindex_spec W h0 cs.length 0 (k : Int) (by omega) (by omega) (by omega)
          rw [Int.add_zero, ← hi] at hix
          have hlk := hget hin
          have hbst : bestC W d (k + 1) = match d (i : Int) with
            | none => bestC W d k
            | some n => if bestC W d k < 0 then (i : Int) else match d (bestC W d k) with
              | none => (i : Int)
              | some b => if n < b then (i : Int) else bestC W d k := by rw [hi] <;> rfl
          cases hdk : d (i : Int) with
          | none =>
            rw [hdk] at hbst
            rw [lef_none hdk] at hlk
            repeat ((conv => whnf); first | (refine And.intro (by first | omega | (dsimp only [inK]; omega) | (simp only [setL_length, List.length_map]; omega)) ?_) | with_reducible refine ld (hlk) ?_ | refine Exists.intro _ (And.intro rfl ?_) | refine br_t (by omega) ?_ | refine br_f (by omega) ?_ | refine fun (K' : K3) hK' => ?_ | (refine hK' _ _ _ ?_; clear hK' K') | refine draw_auto tok mixed (by kernel_rfl) ?_ | refine CallK.val (R := []) hix (by kernel_rfl) rfl (by simp [V.wf, A.wf, C.wf, C.i]) trivial rfl rfl trivial ?_ | refine CallK.m ?_)
            refine ⟨k + 1, [], by omega, by omega, ?_⟩
            refine ⟨?_, ?_, rfl, rfl, by exact Nat.le_of_ble_eq_true rfl⟩
            · repeat (first | exact trivial | (refine And.intro (covS_syn (by first | rfl | (refine congrArg some (congrArg V.i ?_); first | omega | exact hbst.symm)) rfl (by first | exact trivial | exact Nat.le_of_ble_eq_true rfl)) ?_))
            · repeat (first | exact trivial | (refine And.intro (covE_id (Nat.le_of_ble_eq_true rfl) (by first | exact wf_ints _ _ | first | exact wf_cells _ _ | simp [C.wf]) rfl (by rfl)) ?_))
          | some n =>
            have hb1 := hbd hdk
            rw [hdk] at hbst
            rw [lef_some hdk] at hlk
            rcases bestC_spec hW0 d k with ⟨h1, h2⟩ | ⟨b, n', h1, h2, h3⟩
            · rw [h1] at hbst
              rw [h1]
              repeat ((conv => whnf); first | (refine And.intro (by first | omega | (dsimp only [inK]; omega) | (simp only [setL_length, List.length_map]; omega)) ?_) | with_reducible refine ld (hlk) ?_ | refine Exists.intro _ (And.intro rfl ?_) | refine br_t (by omega) ?_ | refine bs_t (by omega) ?_ | refine fun (K' : K3) hK' => ?_ | (refine hK' _ _ _ ?_; clear hK' K') | refine draw_auto tok mixed (by kernel_rfl) ?_ | refine CallK.val (R := []) hix (by kernel_rfl) rfl (by simp [V.wf, A.wf, C.wf, C.i]) trivial rfl rfl trivial ?_ | refine CallK.m ?_)
              refine ⟨k + 1, [], by omega, by omega, ?_⟩
              refine ⟨?_, ?_, rfl, rfl, by exact Nat.le_of_ble_eq_true rfl⟩
              · repeat (first | exact trivial | (refine And.intro (covS_syn (by first | rfl | (refine congrArg some (congrArg V.i ?_); first | omega | exact hbst.symm)) rfl (by first | exact trivial | exact Nat.le_of_ble_eq_true rfl)) ?_))
              · repeat (first | exact trivial | (refine And.intro (covE_id (Nat.le_of_ble_eq_true rfl) (by first | exact wf_ints _ _ | first | exact wf_cells _ _ | simp [C.wf]) rfl (by rfl)) ?_))
            · have hb2 := hbd h3
              have hbw := hdom h3
              obtain ⟨c, hc⟩ : ∃ c : Nat, (c : Int) = (b : Int) * W := ⟨((b : Int) * W).toNat, by omega⟩
              rw [h1, ← hc] at hbst ⊢
              rw [← hc] at h3 hbw
              have hlc := hget (show c < cs.length by omega)
              rw [lef_some h3] at hlc
              rw [h3] at hbst
              simp only [if_neg (show ¬ (c : Int) < 0 by omega)] at hbst
              by_cases hl' : n < n'
              · rw [if_pos hl'] at hbst
                repeat ((conv => whnf); first | (refine And.intro (by first | omega | (dsimp only [inK]; omega) | (simp only [setL_length, List.length_map]; omega)) ?_) | with_reducible refine ld (hlk) ?_ | with_reducible refine ld (hlc) ?_ | refine Exists.intro _ (And.intro rfl ?_) | refine br_t (by omega) ?_ | refine bs_f (by omega) ?_ | refine fun (K' : K3) hK' => ?_ | (refine hK' _ _ _ ?_; clear hK' K') | refine draw_auto tok mixed (by kernel_rfl) ?_ | refine CallK.val (R := []) hix (by kernel_rfl) rfl (by simp [V.wf, A.wf, C.wf, C.i]) trivial rfl rfl trivial ?_ | refine CallK.m ?_)
                refine ⟨k + 1, [], by omega, by omega, ?_⟩
                refine ⟨?_, ?_, rfl, rfl, by exact Nat.le_of_ble_eq_true rfl⟩
                · repeat (first | exact trivial | (refine And.intro (covS_syn (by first | rfl | (refine congrArg some (congrArg V.i ?_); first | omega | exact hbst.symm)) rfl (by first | exact trivial | exact Nat.le_of_ble_eq_true rfl)) ?_))
                · repeat (first | exact trivial | (refine And.intro (covE_id (Nat.le_of_ble_eq_true rfl) (by first | exact wf_ints _ _ | first | exact wf_cells _ _ | simp [C.wf]) rfl (by rfl)) ?_))
              · rw [if_neg hl'] at hbst
                repeat ((conv => whnf); first | (refine And.intro (by first | omega | (dsimp only [inK]; omega) | (simp only [setL_length, List.length_map]; omega)) ?_) | with_reducible refine ld (hlk) ?_ | with_reducible refine ld (hlc) ?_ | refine Exists.intro _ (And.intro rfl ?_) | refine br_t (by omega) ?_ | refine br_f (by omega) ?_ | refine bs_f (by omega) ?_ | refine fun (K' : K3) hK' => ?_ | (refine hK' _ _ _ ?_; clear hK' K') | refine draw_auto tok mixed (by kernel_rfl) ?_ | refine CallK.val (R := []) hix (by kernel_rfl) rfl (by simp [V.wf, A.wf, C.wf, C.i]) trivial rfl rfl trivial ?_ | refine CallK.m ?_)
                refine ⟨k + 1, [], by omega, by omega, ?_⟩
                refine ⟨?_, ?_, rfl, rfl, by exact Nat.le_of_ble_eq_true rfl⟩
                · repeat (first | exact trivial | (refine And.intro (covS_syn (by first | rfl | (refine congrArg some (congrArg V.i ?_); first | omega | exact hbst.symm)) rfl (by first | exact trivial | exact Nat.le_of_ble_eq_true rfl)) ?_))
                · repeat (first | exact trivial | (refine And.intro (covE_id (Nat.le_of_ble_eq_true rfl) (by first | exact wf_ints _ _ | first | exact wf_cells _ _ | simp [C.wf]) rfl (by rfl)) ?_))
        · have hkw : k = h0 := by omega
          subst hkw
          rcases bestC_spec hW0 d k with ⟨h1, h2⟩ | ⟨b, nb, h1, h2, h3⟩
          · have hno : d (-1) = none := by
              cases hh : d (-1) with
              | none => rfl
              | some w => have := hdom hh; omega
            rw [h1, hno]
            repeat ((conv => whnf); first | refine Exists.intro _ (And.intro rfl ?_) | refine br_t (by omega) ?_ | refine br_f (by omega) ?_ | refine fun (K' : K3) hK' => ?_ | (refine hK' _ _ _ ?_; clear hK' K'))
            exact .inl ⟨rfl, rfl⟩
          · have hb2 := hbd h3
            have hbw := hdom h3
            rw [h1, h3]
            obtain ⟨c, hc⟩ : ∃ c : Nat, (c : Int) = (b : Int) * W := ⟨((b : Int) * W).toNat, by omega⟩
            rw [← hc] at h3 hbw ⊢
            have hatb := at_spec W k cs.length (c : Int) (by omega) (by omega)
            repeat ((conv => whnf); first | (refine And.intro (by first | omega | (dsimp only [inK]; omega)) ?_) | refine Exists.intro _ (And.intro rfl ?_) | refine br_f (by omega) ?_ | refine fun (K' : K3) hK' => ?_ | (refine hK' _ _ _ ?_; clear hK' K') | refine CallK.val (R := []) hatb (by kernel_rfl) rfl (by simp [V.wf, A.wf, C.wf]) trivial rfl rfl (by simp [V.wf, A.wf, C.wf]) ?_ | refine CallK.m ?_)
            refine Tri.loop (γ := List Int × Int × Nat) (fun g => ∃ n, d g.2.1 = some n ∧ g.1 ++ pathC W k d n.toNat g.2.1 = pathC W k d nb.toNat c ∧ g.1.length = g.2.2 ∧ g.2.2 + n.toNat = nb.toNat) (fun g => [(2, V.c (.ptr 2 0)), (7, V.c (.sl 3 cs.length)), (8, V.i g.2.1), (11, V.c (.sl 4 (g.2.2 + 1)))])
              (fun g => [⟨4, .vec 57 2, cellC (cellsL W (g.1 ++ [g.2.1]))⟩, ⟨3, .vec 3 1, (iL cs.length (lef d)).map C.i⟩, ⟨2, .own 24, [C.i W, C.i k, .sl 0 cs.length]⟩, ⟨0, .ro 0, cs.map C.i⟩, ⟨1, .ro 0, cellC bs⟩]) 5 (fun g => match d g.2.1 with | some n => n.toNat | none => 0) ([], (c : Int), 0) (R0 := []) ?_ ?_ ?_
            · exact ⟨nb, h3, rfl, rfl, by simp⟩
            · skip
              refine ⟨?_, ?_, rfl, rfl, by exact Nat.le_of_ble_eq_true rfl⟩
              · repeat (first | exact trivial | (refine And.intro (covS_syn (by rfl) rfl (by first | exact trivial | exact Nat.le_of_ble_eq_true rfl)) ?_))
              · repeat (first | exact trivial | (refine And.intro (covE_id (Nat.le_of_ble_eq_true rfl) (by first | exact wf_ints _ _ | first | exact wf_cells _ _ | simp [C.wf]) rfl (by rfl)) ?_))
            · rintro ⟨pre, at_, m⟩ ⟨n, hw, hp, hlen, hlen2⟩
              simp only at hw hp hlen hlen2 ⊢
              have hwd := hbd hw
              have hat := hdom hw
              obtain ⟨a, rfl⟩ : ∃ a : Nat, at_ = a := ⟨at_.toNat, by omega⟩
              have han : a < cs.length := by omega
              have hla := hget han
              rw [lef_some hw] at hla
              have hrowl : (cellC (cellsL W (pre ++ [(a : Int)]))).length = 2 * (m + 1) := by rw [cellC_len]; simp [cellsL, hlen]
              refine vc_ok tok ?_
              by_cases h1w : 0 < n
              · obtain ⟨kn, hkn, hdn, _⟩ := hnx hw h1w
                have hbe := beside_spec W k cs.length (a : Int) false (by omega) (by omega) (by omega)
                have hfu : n.toNat = (n - 1).toNat + 1 := by omega
                have hstep : pathC W k d n.toNat a = (a : Int) :: pathC W k d (n - 1).toNat kn := by
                  rw [hfu]; simp only [pathC, hw, hkn]; rw [if_pos (by omega)]
                have hne := fun x (hx : x ∈ nearL W (k : Int) false (a : Int)) => near_in hW0 hx
                have hlen9 := near_len W (k : Int) false (a : Int)
                have hfin : firstF (fun x => decide (d x = some (n - 1))) (nearL W (k : Int) false (a : Int)) = kn := by unfold firstF; rw [show (nearL W (k : Int) false (a : Int)).find? _ = some kn from hkn]
                obtain ⟨nl, hnl⟩ : ∃ nl, nl = nearL W (k : Int) false (a : Int) := ⟨_, rfl⟩
                rw [← hnl] at hbe hne hlen9 hfin
                have hpos : ∀ x ∈ nl, 0 ≤ x := fun x hx => (hne x hx).1
                have hkn2 := hdom hdn
                repeat ((conv => whnf); first | (refine And.intro (by first | omega | (simp only [setL_length, List.length_map]; omega)) ?_) | with_reducible refine ld (hla) ?_ | refine Exists.intro _ (And.intro rfl ?_) | refine br_t (by omega) ?_ | refine fun (K' : K3) hK' => ?_ | (refine hK' _ _ _ ?_; clear hK' K') | refine CallK.den (vs := [V.agg [C.i W, C.i k, C.sl 0 cs.length], V.i (a : Int), V.c (.bool false)]) (fun ρ => rfl) (by simp [V.wf, A.wf, C.wf]) (CallK.intsR (R := []) hbe (by kernel_rfl) rfl (by simp [V.wf, A.wf, C.wf]) trivial rfl ?_) | refine CallK.m ?_)
                refine Tri.loop (γ := Nat) (fun j => j ≤ nl.length) (fun j => [(2, V.c (.ptr 2 0)), (7, V.c (.sl 3 cs.length)), (8, V.i (a : Int)), (11, V.c (.sl 4 (m + 1))), (12, V.i (firstF (fun x => decide (d x = some (n - 1))) (nl.take j))), (68, V.c (.sl 5 nl.length)), (69, V.i nl.length), (70, V.i (j : Nat))])
                  (fun j => [⟨5, .vec 3 1, nl.map C.i⟩, ⟨4, .vec 57 2, cellC (cellsL W (pre ++ [(a : Int)]))⟩, ⟨3, .vec 3 1, (iL cs.length (lef d)).map C.i⟩, ⟨2, .own 24, [C.i W, C.i k, .sl 0 cs.length]⟩, ⟨0, .ro 0, cs.map C.i⟩, ⟨1, .ro 0, cellC bs⟩]) 6 (fun j => nl.length - j) 0 (R0 := []) ?_ ?_ ?_
                · omega
                · skip
                  refine ⟨?_, ?_, rfl, rfl, by exact Nat.le_of_ble_eq_true rfl⟩
                  · repeat (first | exact trivial | (refine And.intro (covS_syn (by rfl) rfl (by first | exact trivial | exact Nat.le_of_ble_eq_true rfl)) ?_))
                  · repeat (first | exact trivial | (refine And.intro (covE_id (Nat.le_of_ble_eq_true rfl) (by first | exact wf_ints _ _ | first | exact wf_cells _ _ | simp [C.wf]) rfl (by rfl)) ?_))
                · intro j hj
                  refine vc_ok tok ?_
                  by_cases hjl : j < nl.length
                  · have hldk := intL hjl
                    have hkk := hne _ (getD_mem hjl)
                    have hit := firstF_hit (p := fun x => decide (d x = some (n - 1))) hjl
                    have hmiss := firstF_miss (p := fun x => decide (d x = some (n - 1))) hjl
                    have hkeep := firstF_keep (p := fun x => decide (d x = some (n - 1))) (l := nl) (j := j)
                    obtain ⟨kk, hkke⟩ : ∃ kk : Nat, (kk : Int) = nl.getD j 0 := ⟨(nl.getD j 0).toNat, by omega⟩
                    rw [← hkke] at hldk hkk hit hmiss
                    have hkl : kk < cs.length := by omega
                    have hlw := hget hkl
                    have hlb : 0 ≤ lef d (kk : Int) ∧ lef d (kk : Int) ≤ 101 := by
                      unfold lef
                      cases hd' : d (kk : Int) with
                      | none => simp
                      | some u => have := hbd hd'; simp only; omega
                    have hiff : lef d (kk : Int) = n ↔ d (kk : Int) = some (n - 1) := by
                      unfold lef
                      cases hd' : d (kk : Int) with
                      | none => simp only; exact ⟨fun h => by omega, fun h => by cases h⟩
                      | some u => simp only [Option.some.injEq]; omega
                    obtain ⟨xk, hxk⟩ : ∃ xk, xk = lef d (kk : Int) := ⟨_, rfl⟩
                    rw [← hxk] at hlw hlb hiff
                    obtain ⟨nf, hnf⟩ : ∃ nf, nf = firstF (fun x => decide (d x = some (n - 1))) (nl.take j) := ⟨_, rfl⟩
                    rw [← hnf] at hit hmiss hkeep
                    rw [← hnf]
                    by_cases g1 : nf < 0
                    · by_cases g2 : xk = n
                      · have hst := hit g1 hpos (dd_t (hiff.1 g2))
                        repeat ((conv => whnf); first | (refine And.intro (by first | omega | (dsimp only [inK]; omega) | (simp only [setL_length, List.length_map]; omega)) ?_) | with_reducible refine ld (hldk) ?_ | with_reducible refine ld (hlw) ?_ | with_reducible refine ld (hla) ?_ | refine br_t (by omega) ?_ | refine fun (K' : K3) hK' => ?_ | (refine hK' _ _ _ ?_; clear hK' K') | refine draw_auto tok mixed (by kernel_rfl) ?_)
                        refine ⟨j + 1, [], by omega, by omega, ?_⟩
                        refine ⟨?_, ?_, rfl, rfl, by exact Nat.le_of_ble_eq_true rfl⟩
                        · repeat (first | exact trivial | (refine And.intro (covS_syn (by first | rfl | (refine congrArg some (congrArg V.i ?_); first | omega | exact hst.symm)) rfl (by first | exact trivial | exact Nat.le_of_ble_eq_true rfl)) ?_))
                        · repeat (first | exact trivial | (refine And.intro (covE_id (Nat.le_of_ble_eq_true rfl) (by first | exact wf_ints _ _ | first | exact wf_cells _ _ | simp [C.wf]) rfl (by rfl)) ?_))
                      · have hst := hmiss (dd_f fun h => g2 (hiff.2 h))
                        repeat ((conv => whnf); first | (refine And.intro (by first | omega | (dsimp only [inK]; omega) | (simp only [setL_length, List.length_map]; omega)) ?_) | with_reducible refine ld (hldk) ?_ | with_reducible refine ld (hlw) ?_ | with_reducible refine ld (hla) ?_ | refine br_t (by omega) ?_ | refine br_f (by omega) ?_ | refine fun (K' : K3) hK' => ?_ | (refine hK' _ _ _ ?_; clear hK' K') | refine draw_auto tok mixed (by kernel_rfl) ?_)
                        refine ⟨j + 1, [], by omega, by omega, ?_⟩
                        refine ⟨?_, ?_, rfl, rfl, by exact Nat.le_of_ble_eq_true rfl⟩
                        · repeat (first | exact trivial | (refine And.intro (covS_syn (by first | rfl | (refine congrArg some (congrArg V.i ?_); first | omega | exact hst.symm)) rfl (by first | exact trivial | exact Nat.le_of_ble_eq_true rfl)) ?_))
                        · repeat (first | exact trivial | (refine And.intro (covE_id (Nat.le_of_ble_eq_true rfl) (by first | exact wf_ints _ _ | first | exact wf_cells _ _ | simp [C.wf]) rfl (by rfl)) ?_))
                    · have hst := hkeep g1
                      repeat ((conv => whnf); first | (refine And.intro (by first | omega | (dsimp only [inK]; omega) | (simp only [setL_length, List.length_map]; omega)) ?_) | with_reducible refine ld (hldk) ?_ | refine br_t (by omega) ?_ | refine br_f (by omega) ?_ | refine fun (K' : K3) hK' => ?_ | (refine hK' _ _ _ ?_; clear hK' K') | refine draw_auto tok mixed (by kernel_rfl) ?_)
                      refine ⟨j + 1, [], by omega, by omega, ?_⟩
                      refine ⟨?_, ?_, rfl, rfl, by exact Nat.le_of_ble_eq_true rfl⟩
                      · repeat (first | exact trivial | (refine And.intro (covS_syn (by first | rfl | (refine congrArg some (congrArg V.i ?_); first | omega | exact hst.symm)) rfl (by first | exact trivial | exact Nat.le_of_ble_eq_true rfl)) ?_))
                      · repeat (first | exact trivial | (refine And.intro (covE_id (Nat.le_of_ble_eq_true rfl) (by first | exact wf_ints _ _ | first | exact wf_cells _ _ | simp [C.wf]) rfl (by rfl)) ?_))
                  · have hje : j = nl.length := by omega
                    subst hje
                    rw [List.take_length, hfin]
                    have hatk := at_spec W k cs.length kn (by omega) (by omega)
                    repeat ((conv => whnf); first | (refine And.intro (by first | omega | (dsimp only [inK]; omega) | (exact ⟨rfl, rfl, rfl, Nat.le_of_ble_eq_true rfl, by dsimp only; omega, by exact Nat.le_of_ble_eq_true rfl, by omega, Nat.le_of_ble_eq_true rfl⟩)) ?_) | refine Exists.intro _ (And.intro rfl ?_) | refine br_f (by omega) ?_ | refine fun (K' : K3) hK' => ?_ | (refine hK' _ _ _ ?_; clear hK' K') | refine CallK.val (R := []) hatk (by kernel_rfl) rfl (by simp [V.wf, A.wf, C.wf]) trivial rfl rfl (by simp [V.wf, A.wf, C.wf]) ?_ | refine CallK.m ?_)
                    refine ⟨(pre ++ [(a : Int)], kn, m + 1), [(4, some 7)], ⟨_, hdn, ?_, by simp [hlen], by simp only; omega⟩, ?_, ?_⟩
                    · rw [← hp, hstep]; simp
                    · simp only [hdn, hw]; omega
                    · skip
                      refine ⟨?_, ?_, rfl, rfl, by exact Nat.le_of_ble_eq_true rfl⟩
                      · repeat (first | exact trivial | (refine And.intro (covS_syn (by rfl) rfl (by first | exact trivial | exact Nat.le_of_ble_eq_true rfl)) ?_))
                      · repeat (first | exact trivial | (refine And.intro (covE_some rfl (Nat.le_of_ble_eq_true rfl) (wf_cells _ _) rfl ((ren_cells _ _).trans (congrArg some (by simp only [cellsL]; rw [List.map_append, cellC_app]; rfl)))) ?_) | refine And.intro (covE_some rfl (Nat.le_of_ble_eq_true rfl) (wf_cells _ _) rfl (ren_cells _ _)) ?_ | (refine And.intro (covE_some rfl (Nat.le_of_ble_eq_true rfl) (by first | exact wf_ints _ _ | simp [C.wf]) rfl (by first | exact ren_ints _ _ | rfl)) ?_))
              · have hone : pathC W k d n.toNat a = [(a : Int)] := by
                  rw [show n.toNat = 0 by omega]; rfl
                rw [hone] at hp
                repeat ((conv => whnf); first | (refine And.intro (by first | omega | (simp only [setL_length, List.length_map]; omega)) ?_) | with_reducible refine ld (hla) ?_ | refine Exists.intro _ (And.intro rfl ?_) | refine br_f (by omega) ?_ | refine fun (K' : K3) hK' => ?_ | (refine hK' _ _ _ ?_; clear hK' K'))
                refine .inr ⟨4, ?_, ?_⟩
                · rw [← hp]; simp [cellsL, hlen]
                · rw [← hp]; rfl
theorem rBlocks_spec (W H : Int) (cs : List Int) (bs : List Cell) (hl : cs.length ≤ 300) (hb : bs.length ≤ 300) :
    Spec Try.prog 51 [chR W H cs.length, V.c (.sl 1 bs.length)] [⟨0, .ro 0, cs.map C.i⟩, ⟨1, .ro 0, cellC bs⟩] 2 (Is (V.tup [A.c (.bool (blB W H cs bs)), A.c (C.i (blE W H cs bs))])) := by
  have hch := rChannel_spec W H cs bs hl hb
  unfold chE at hch
  unfold blB blE
  refine Spec.of tok Try.func51 rfl rfl rfl fun n0 cx => vc_ok tok ?_
  cases hv : okC W H cs with
  | false =>
    rw [hv] at hch
    repeat ((conv => whnf); first | refine Exists.intro _ (And.intro rfl ?_) | refine fun (K' : K3) hK' => ?_ | (refine hK' _ _ _ ?_; clear hK' K') | refine CallK.cellsE (R := []) hch (by kernel_rfl) rfl (by simp [V.wf, A.wf, C.wf]) ⟨roE_ints (l := 0) rfl (by omega) rfl (.inl rfl), roE_cells (l := 1) rfl (by omega) rfl (.inl rfl), trivial⟩ rfl ?_ | refine br_bf (Eq.refl false) ?_ | refine CallK.m ?_)
    intro ρ; rfl
  | true =>
    cases hB : okB W H cs bs with
    | false =>
      rw [hv, hB] at hch
      repeat ((conv => whnf); first | refine Exists.intro _ (And.intro rfl ?_) | refine fun (K' : K3) hK' => ?_ | (refine hK' _ _ _ ?_; clear hK' K') | refine CallK.cellsE (R := []) hch (by kernel_rfl) rfl (by simp [V.wf, A.wf, C.wf]) ⟨roE_ints (l := 0) rfl (by omega) rfl (.inl rfl), roE_cells (l := 1) rfl (by omega) rfl (.inl rfl), trivial⟩ rfl ?_ | refine br_bf (Eq.refl false) ?_ | refine CallK.m ?_)
      intro ρ; rfl
    | true =>
      rw [hv, hB] at hch
      cases ho : chanO W H cs.length (wetB cs (boomF W H bs)) with
      | none =>
        rw [ho] at hch
        repeat ((conv => whnf); first | refine Exists.intro _ (And.intro rfl ?_) | refine fun (K' : K3) hK' => ?_ | (refine hK' _ _ _ ?_; clear hK' K') | refine CallK.cellsE (R := []) hch (by kernel_rfl) rfl (by simp [V.wf, A.wf, C.wf]) ⟨roE_ints (l := 0) rfl (by omega) rfl (.inl rfl), roE_cells (l := 1) rfl (by omega) rfl (.inl rfl), trivial⟩ rfl ?_ | refine br_bt (Eq.refl true) ?_ | refine CallK.m ?_)
        intro ρ; rfl
      | some l =>
        rw [ho] at hch
        repeat ((conv => whnf); first | refine Exists.intro _ (And.intro rfl ?_) | refine fun (K' : K3) hK' => ?_ | (refine hK' _ _ _ ?_; clear hK' K') | refine CallK.cellsE (R := []) hch (by kernel_rfl) rfl (by simp [V.wf, A.wf, C.wf]) ⟨roE_ints (l := 0) rfl (by omega) rfl (.inl rfl), roE_cells (l := 1) rfl (by omega) rfl (.inl rfl), trivial⟩ rfl ?_ | refine br_bf (Eq.refl false) ?_ | refine CallK.m ?_)
        intro ρ; rfl
end Go.Proofs.Ytbhpnhcdjmcaoaa

/- Boom: which lists are channels. -/
namespace Go.Proofs.Ytbhpnhcdjmcaoaa
open Go.RowKit
set_option linter.unusedVariables false
set_option linter.unusedSimpArgs false
/-- What a channel by booms is. -/
structure ChanP (W H : Int) (wet : Int → Bool) (l : List Cell) : Prop where
  on : ∀ j, j < l.length → onB W H (l.getD j cz).1 (l.getD j cz).2 = true
  nd : ∀ j i, j < l.length → i < j → ¬ l.getD j cz = l.getD i cz
  len : 1 ≤ l.length ∧ l.length ≤ 100
  adj : ∀ j, j + 1 < l.length → adj false (l.getD (j + 1) cz) (l.getD j cz)
  wet : ∀ j, j < l.length → wet (idxU W (l.getD j cz)) = true
  left : (l.getD 0 cz).1 = 0
  right : (l.getD (l.length - 1) cz).1 = W - 1
def isChP (W H : Int) (wet : Int → Bool) (l : List Cell) : Bool := listOkK W H l l.length && (lenOk l && ((decide ((listI W H l).getD 0 0 % W = 0) && decide ((listI W H l).getD (l.length - 1) 0 % W = W - 1)) && ((!(listI W H l).any fun i => !wet i) && follB W H false (listI W H l) l.length)))
def isChR (W H : Int) (wet : Int → Bool) (l : List Cell) : Bool := isWayB W H l false && ((decide ((l.getD 0 cz).1 = 0) && decide ((l.getD (l.length - 1) cz).1 = W - 1)) && l.all fun p => wet (idxU W p))
theorem getD_all {l : List Cell} {p : Cell → Bool} : (l.all p) = true ↔ ∀ j, j < l.length → p (l.getD j cz) = true := by
  rw [List.all_eq_true]
  constructor
  · intro h j hj
    refine h _ ?_
    rw [List.getD_eq_getElem?_getD, List.getElem?_eq_getElem hj]; exact List.getElem_mem hj
  · intro h x hx
    obtain ⟨j, hj, rfl⟩ := List.getElem_of_mem hx
    have := h j hj
    rwa [List.getD_eq_getElem?_getD, List.getElem?_eq_getElem hj] at this
theorem isChR_iff {W H : Int} {wet : Int → Bool} {l : List Cell} : isChR W H wet l = true ↔ ChanP W H wet l := by
  unfold isChR
  rw [Bool.and_eq_true, Bool.and_eq_true, Bool.and_eq_true, isWay_iff, getD_all, decide_eq_true_eq, decide_eq_true_eq]
  exact ⟨fun ⟨⟨h1, h2, h3, h4⟩, ⟨h5, h6⟩, h7⟩ => ⟨h1, h2, h3, h4, h7, h5, h6⟩, fun h => ⟨⟨h.on, h.nd, h.len, h.adj⟩, ⟨h.left, h.right⟩, h.wet⟩⟩
theorem isChP_iff {W H : Int} {wet : Int → Bool} {l : List Cell} (hW : 0 < W) : isChP W H wet l = true ↔ ChanP W H wet l := by
  unfold isChP
  rw [Bool.and_eq_true, listOk_iff hW]
  have key : ∀ (hon : ∀ j, j < l.length → onB W H (l.getD j cz).1 (l.getD j cz).2 = true), (lenOk l && ((decide ((listI W H l).getD 0 0 % W = 0) && decide ((listI W H l).getD (l.length - 1) 0 % W = W - 1)) && ((!(listI W H l).any fun i => !wet i) && follB W H false (listI W H l) l.length))) = true ↔
      (1 ≤ l.length ∧ l.length ≤ 100) ∧ ((l.getD 0 cz).1 = 0 ∧ (l.getD (l.length - 1) cz).1 = W - 1) ∧ (∀ j, j < l.length → wet (idxU W (l.getD j cz)) = true) ∧ ∀ j, j + 1 < l.length → adj false (l.getD (j + 1) cz) (l.getD j cz) := by
    intro hon
    rw [Bool.and_eq_true]
    have hlen : lenOk l = true ↔ 1 ≤ l.length ∧ l.length ≤ 100 := by unfold lenOk; rw [decide_eq_true_eq]; omega
    rw [hlen]
    constructor
    · rintro ⟨h1, h2⟩
      refine ⟨h1, ?_⟩
      rw [Bool.and_eq_true, Bool.and_eq_true, Bool.and_eq_true, decide_eq_true_eq, decide_eq_true_eq, listI_get (by omega), listI_get (by omega), (idxC_mod (hon 0 (by omega))).2.1, (idxC_mod (hon (l.length - 1) (by omega))).2.1] at h2
      obtain ⟨⟨h3, h4⟩, h5, h6⟩ := h2
      have h7 := (foll_iff (e := false) hon).1 h6
      refine ⟨⟨h3, h4⟩, fun j hj => ?_, h7⟩
      simp only [Bool.not_eq_true', List.any_eq_false] at h5
      have := h5 ((listI W H l).getD j 0) (getD_mem (by rw [listI_len]; exact hj))
      rw [listI_get hj, (idxC_mod (hon j hj)).1] at this
      simpa using this
    · rintro ⟨h1, h2, h3, h4⟩
      refine ⟨h1, ?_⟩
      rw [Bool.and_eq_true, Bool.and_eq_true, Bool.and_eq_true, decide_eq_true_eq, decide_eq_true_eq, listI_get (by omega), listI_get (by omega), (idxC_mod (hon 0 (by omega))).2.1, (idxC_mod (hon (l.length - 1) (by omega))).2.1]
      refine ⟨h2, ?_, ?_⟩
      · simp only [Bool.not_eq_true', List.any_eq_false]
        intro x hx
        obtain ⟨j, hj, rfl⟩ := List.getElem_of_mem hx
        rw [listI_len] at hj
        have e : (listI W H l)[j]'(by rw [listI_len]; exact hj) = (listI W H l).getD j 0 := by rw [List.getD_eq_getElem?_getD, List.getElem?_eq_getElem]; rfl
        rw [e, listI_get hj, (idxC_mod (hon j hj)).1]
        simpa using h3 j hj
      · exact (foll_iff (e := false) hon).2 h4
  constructor
  · rintro ⟨⟨h1, h2⟩, h3⟩
    obtain ⟨h4, ⟨h5, h6⟩, h7, h8⟩ := (key h1).1 h3
    exact ⟨h1, h2, h4, h8, h7, h5, h6⟩
  · intro h
    exact ⟨⟨h.on, h.nd⟩, (key h.on).2 ⟨h.len, ⟨h.left, h.right⟩, h.wet, h.adj⟩⟩
theorem isCh_eq {W H : Int} {wet : Int → Bool} {l : List Cell} (hW : 0 < W) : isChP W H wet l = isChR W H wet l := by
  rw [Bool.eq_iff_iff, isChP_iff hW, isChR_iff]
def isChB (W H : Int) (cs : List Int) (bs l : List Cell) : Bool := (okC W H cs && okB W H cs bs) && isChR W H (wetB cs (boomF W H bs)) l
theorem dry92_spec (W H : Int) (cs : List Int) (f : Int → Bool) (i : Nat) (hi : i < cs.length) (hl : cs.length ≤ 300) : Spec Try.prog 92 [V.i i, V.c (.ptr 3 0)] [⟨1, .mp false .int (bmF f), []⟩, ⟨2, .ro 0, cs.map C.i⟩, ⟨3, .ro 0, [C.i W, C.i H, .sl 2 cs.length, .mp 1]⟩] 4 (Is (V.c (.bool (!wetB cs f i)))) := by
  have hwt := wet_spec W H cs f i hi hl
  have hwe : wetB cs f (i : Int) = (decide (cs.getD i 0 ≠ -1) && !f i) := by simp [wetB]
  rw [← hwe] at hwt
  refine Spec.of tok Try.func92 rfl rfl rfl fun n0 cx => vc_ok tok ?_
  repeat ((conv => whnf); first | refine Exists.intro _ (And.intro rfl ?_) | refine fun (K' : K3) hK' => ?_ | (refine hK' _ _ _ ?_; clear hK' K') | refine CallK.val (R := [(0, some 2)]) hwt (by kernel_rfl) rfl (by simp [V.wf, A.wf, C.wf]) ⟨roE_ints (l := 2) rfl (by omega) rfl (.inl rfl), roE_map (l := 1) rfl (by omega) rfl, trivial⟩ rfl rfl trivial ?_ | refine CallK.m ?_)
  intro ρ; rfl
theorem anyDry_spec (W H : Int) (cs : List Int) (f : Int → Bool) (l : List Int) (hl : l.length ≤ 300) (hc : cs.length ≤ 300) (hin : ∀ k, k < l.length → 0 ≤ l.getD k 0 ∧ l.getD k 0 < cs.length) :
    Spec Try.prog 77 [V.c (.sl 0 l.length), V.c (.fn 92 [(3, 0)])] [⟨0, .ro 0, l.map C.i⟩, ⟨1, .mp false .int (bmF f), []⟩, ⟨2, .ro 0, cs.map C.i⟩, ⟨3, .ro 0, [C.i W, C.i H, .sl 2 cs.length, .mp 1]⟩] 4 (Is (V.c (.bool (l.any fun i => !wetB cs f i)))) := by
  have hwf : ∀ e ∈ [(⟨1, .mp false .int (bmF f), []⟩ : E), ⟨2, .ro 0, cs.map C.i⟩, ⟨3, .ro 0, [C.i W, C.i H, .sl 2 cs.length, .mp 1]⟩], e.lab < 4 ∧ ∀ c ∈ e.cs, c.wf 4 := by
    intro e he
    simp only [List.mem_cons, List.not_mem_nil, or_false] at he
    rcases he with rfl | rfl | rfl
    · exact ⟨by show 1 < 4; omega, fun c hc => by cases hc⟩
    · exact ⟨by show 2 < 4; omega, wf_ints _ _⟩
    · exact ⟨by show 3 < 4; omega, by simp [C.wf]⟩
  refine contains_any (p := fun i => !wetB cs f i) (Lc := [(⟨1, .mp false .int (bmF f), []⟩ : E), ⟨2, .ro 0, cs.map C.i⟩, ⟨3, .ro 0, [C.i W, C.i H, .sl 2 cs.length, .mp 1]⟩]) hl (by kernel_rfl) (fun i hi => ?_) (by simp) (by omega) hwf (fun L h => ?_) rfl ?_
  · obtain ⟨k, hk⟩ : ∃ k : Nat, (k : Int) = l.getD i 0 := ⟨(l.getD i 0).toNat, by have := hin i hi; omega⟩
    rw [← hk]
    exact dry92_spec W H cs f k (by have := hin i hi; omega) hc
  · have h1 := h _ (List.mem_cons_self ..)
    have h2 := h _ (List.mem_cons_of_mem _ (List.mem_cons_self ..))
    have h3 := h _ (List.mem_cons_of_mem _ (List.mem_cons_of_mem _ (List.mem_cons_self ..)))
    exact ⟨roE_map (l := 1) rfl (by omega) h1, roE_ints (l := 2) rfl (by omega) h2 (.inl rfl), ⟨by show 3 < 4; omega, by simp [C.wf], _, _, h3, .inl rfl, rfl⟩, trivial⟩
  · exact ⟨roE_ints (l := 0) rfl (by omega) rfl (.inl rfl), roE_map (l := 1) rfl (by omega) rfl, roE_ints (l := 2) rfl (by omega) rfl (.inl rfl), ⟨by show 3 < 4; omega, by simp [C.wf], _, _, rfl, .inl rfl, rfl⟩, trivial⟩
set_option maxRecDepth 10000 in
set_option maxHeartbeats 8000000 in
theorem pIsChannel_spec (W H : Int) (cs : List Int) (bs l : List Cell) (hl : cs.length ≤ 300) (hb : bs.length ≤ 300) (hc : l.length ≤ 300) :
    Spec Try.prog 49 [chR W H cs.length, V.c (.sl 1 bs.length), V.c (.sl 2 l.length)] [⟨0, .ro 0, cs.map C.i⟩, ⟨1, .ro 0, cellC bs⟩, ⟨2, .ro 2, cellC l⟩] 3 (Is (V.tup [A.c (.bool (isChB W H cs bs l)), A.c (C.i (blE W H cs bs))])) := by
  unfold isChB blE
  refine Spec.of tok Try.func49 rfl rfl rfl fun n0 cx => vc_ok tok ?_
  cases hv : okC W H cs with
  | false =>
    repeat ((conv => whnf); first | (refine And.intro (by first | omega | exact Nat.le_of_ble_eq_true rfl) ?_) | refine Exists.intro _ (And.intro rfl ?_) | refine br_t (by omega) ?_ | refine fun (K' : K3) hK' => ?_ | (refine hK' _ _ _ ?_; clear hK' K') | refine CallK.newNo (a := 0) (bs := bs) (R := []) 30 hl hb (.inl ⟨hv, rfl⟩) rfl rfl ⟨roE_ints (l := 0) rfl (by omega) rfl (.inl rfl), roE_cells (l := 1) rfl (by omega) rfl (.inl rfl), trivial⟩ ?_ | refine CallK.m ?_)
    intro ρ; rfl
  | true =>
    cases hB : okB W H cs bs with
    | false =>
      repeat ((conv => whnf); first | (refine And.intro (by first | omega | exact Nat.le_of_ble_eq_true rfl) ?_) | refine Exists.intro _ (And.intro rfl ?_) | refine br_t (by omega) ?_ | refine fun (K' : K3) hK' => ?_ | (refine hK' _ _ _ ?_; clear hK' K') | refine CallK.newNo (a := 0) (bs := bs) (R := []) 2 hl hb (.inr ⟨hv, hB, rfl⟩) rfl rfl ⟨roE_ints (l := 0) rfl (by omega) rfl (.inl rfl), roE_cells (l := 1) rfl (by omega) rfl (.inl rfl), trivial⟩ ?_ | refine CallK.m ?_)
      intro ρ; rfl
    | true =>
      have hok := okC_iff.1 hv
      have hW := hok.w
      have hH := hok.h
      have hcl := hok.len
      have hn : (cs.length : Int) ≤ 100 := by have := Int.mul_le_mul hW.2 hH.2 (by omega) (by omega : (0:Int) ≤ 10); omega
      have hli := listed_spec W H cs.length l (by omega) (by omega) hc
      have hieq := isCh_eq (H := H) (wet := wetB cs (boomF W H bs)) (l := l) (show 0 < W by omega)
      unfold isChP at hieq
      cases hlo : listOkK W H l l.length with
      | false =>
        rw [hlo] at hieq
        rw [← hieq]
        repeat ((conv => whnf); first | (refine And.intro (by first | omega | exact Nat.le_of_ble_eq_true rfl) ?_) | refine Exists.intro _ (And.intro rfl ?_) | refine br_f (by omega) ?_ | refine fun (K' : K3) hK' => ?_ | (refine hK' _ _ _ ?_; clear hK' K') | refine draw_auto tok mixed (by kernel_rfl) ?_ | refine CallK.newOk (a := 0) (bs := bs) (R := []) hl hb hv hB rfl rfl (by omega) ⟨roE_ints (l := 0) rfl (by omega) rfl (.inl rfl), roE_cells (l := 1) rfl (by omega) rfl (.inl rfl), trivial⟩ ?_ | refine CallK.lisF (R := [(1, some 4)]) hlo hli (by kernel_rfl) rfl (by simp [V.wf, A.wf, C.wf]) ⟨roE_cells rfl (by omega) rfl (.inr rfl), trivial⟩ rfl ?_ | refine CallK.m ?_)
        intro ρ; rfl
      | true =>
        rw [hlo] at hieq
        cases hle : lenOk l with
        | false =>
          rw [hle] at hieq
          rw [← hieq]
          repeat ((conv => whnf); first | (refine And.intro (by first | omega | exact Nat.le_of_ble_eq_true rfl) ?_) | refine Exists.intro _ (And.intro rfl ?_) | refine br_f (by omega) ?_ | refine fun (K' : K3) hK' => ?_ | (refine hK' _ _ _ ?_; clear hK' K') | refine draw_auto tok mixed (by kernel_rfl) ?_ | refine CallK.newOk (a := 0) (bs := bs) (R := []) hl hb hv hB rfl rfl (by omega) ⟨roE_ints (l := 0) rfl (by omega) rfl (.inl rfl), roE_cells (l := 1) rfl (by omega) rfl (.inl rfl), trivial⟩ ?_ | refine CallK.lisT (R := [(1, some 4)]) hlo hli (by kernel_rfl) rfl (by simp [V.wf, A.wf, C.wf]) ⟨roE_cells rfl (by omega) rfl (.inr rfl), trivial⟩ rfl ?_ | refine bs_bt (congrArg Bool.not hle) ?_ | refine CallK.m ?_)
          intro ρ; rfl
        | true =>
          rw [hle] at hieq
          have hlen : 1 ≤ l.length ∧ l.length ≤ 100 := by unfold lenOk at hle; rw [decide_eq_true_eq] at hle; omega
          have hin := listOk_in (show 0 < W by omega) hlo
          have hkl := listI_len W H l
          have hfo := follows_spec W H cs.length false (listI W H l) (by omega) (by omega) (by omega) hin
          have han := anyDry_spec W H cs (boomF W H bs) (listI W H l) (by omega) hl (fun k hk => by have := hin k hk; omega)
          have h0 := intLz (l := listI W H l) (k := 0) (z := 0) rfl (by omega)
          have h9 := intLz (l := listI W H l) (k := l.length - 1) (z := (l.length : Int) - 1) (by omega) (by omega)
          have hi0 := hin 0 (by omega)
          have hi9 := hin (l.length - 1) (by omega)
          rw [hkl] at hfo han
          obtain ⟨x0, hx0⟩ : ∃ x, x = (listI W H l).getD 0 0 := ⟨_, rfl⟩
          obtain ⟨x9, hx9⟩ : ∃ x, x = (listI W H l).getD (l.length - 1) 0 := ⟨_, rfl⟩
          rw [← hx0] at h0 hi0 hieq
          rw [← hx9] at h9 hi9 hieq
          obtain ⟨fo, hfoe⟩ : ∃ b, b = follB W H false (listI W H l) l.length := ⟨_, rfl⟩
          rw [← hfoe] at hfo hieq
          obtain ⟨an, hane⟩ : ∃ b, b = (listI W H l).any fun i => !wetB cs (boomF W H bs) i := ⟨_, rfl⟩
          rw [← hane] at han hieq
          have hkm : ((listI W H l).map C.i).length = l.length := by simp [listI]
          by_cases g0 : x0 % W = 0
          · by_cases g9 : x9 % W = W - 1
            · rw [dd_t g0, dd_t g9] at hieq
              cases an with
              | true =>
                rw [← hieq]
                repeat ((conv => whnf); first | (refine And.intro (by first | omega | exact Nat.le_of_ble_eq_true rfl | (dsimp only [inK]; omega)) ?_) | with_reducible refine ld (h0) ?_ | with_reducible refine ld (h9) ?_ | refine Exists.intro _ (And.intro rfl ?_) | refine br_f (by omega) ?_ | refine bs_f (by omega) ?_ | refine fun (K' : K3) hK' => ?_ | (refine hK' _ _ _ ?_; clear hK' K') | refine draw_auto tok mixed (by kernel_rfl) ?_ | refine CallK.newOk (a := 0) (bs := bs) (R := []) hl hb hv hB rfl rfl (by omega) ⟨roE_ints (l := 0) rfl (by omega) rfl (.inl rfl), roE_cells (l := 1) rfl (by omega) rfl (.inl rfl), trivial⟩ ?_ | refine CallK.lisT (R := [(1, some 4)]) hlo hli (by kernel_rfl) rfl (by simp [V.wf, A.wf, C.wf]) ⟨roE_cells rfl (by omega) rfl (.inr rfl), trivial⟩ rfl ?_ | refine bs_bf (congrArg Bool.not hle) ?_ | (refine HD_mk (fun _ h => CallK.val (R := [(0, some 6), (1, some 4), (2, some 0), (3, some 5)]) han (by kernel_rfl) rfl (by intro v hv; simp only [List.mem_cons, List.not_mem_nil, or_false] at hv; rcases hv with rfl | rfl; simp [V.wf, A.wf, C.wf]; exact fn_wf3 rfl) ⟨roE_ints (l := 6) rfl (by omega) rfl (.inl rfl), roE_map (l := 4) rfl (by omega) rfl, roE_ints (l := 0) rfl (by omega) rfl (.inl rfl), ⟨by show 3 < 4; omega, by simp [C.wf], _, _, rfl, .inl rfl, rfl⟩, trivial⟩ rfl rfl trivial h) ?_) | refine br_bt (Eq.refl true) ?_ | refine CallK.m ?_)
                intro ρ; rfl
              | false =>
                rw [← hieq]
                repeat ((conv => whnf); first | (refine And.intro (by first | omega | exact Nat.le_of_ble_eq_true rfl | (dsimp only [inK]; omega)) ?_) | with_reducible refine ld (h0) ?_ | with_reducible refine ld (h9) ?_ | refine Exists.intro _ (And.intro rfl ?_) | refine br_f (by omega) ?_ | refine bs_f (by omega) ?_ | refine fun (K' : K3) hK' => ?_ | (refine hK' _ _ _ ?_; clear hK' K') | refine draw_auto tok mixed (by kernel_rfl) ?_ | refine CallK.newOk (a := 0) (bs := bs) (R := []) hl hb hv hB rfl rfl (by omega) ⟨roE_ints (l := 0) rfl (by omega) rfl (.inl rfl), roE_cells (l := 1) rfl (by omega) rfl (.inl rfl), trivial⟩ ?_ | refine CallK.lisT (R := [(1, some 4)]) hlo hli (by kernel_rfl) rfl (by simp [V.wf, A.wf, C.wf]) ⟨roE_cells rfl (by omega) rfl (.inr rfl), trivial⟩ rfl ?_ | refine bs_bf (congrArg Bool.not hle) ?_ | (refine HD_mk (fun _ h => CallK.val (R := [(0, some 6), (1, some 4), (2, some 0), (3, some 5)]) han (by kernel_rfl) rfl (by intro v hv; simp only [List.mem_cons, List.not_mem_nil, or_false] at hv; rcases hv with rfl | rfl; simp [V.wf, A.wf, C.wf]; exact fn_wf3 rfl) ⟨roE_ints (l := 6) rfl (by omega) rfl (.inl rfl), roE_map (l := 4) rfl (by omega) rfl, roE_ints (l := 0) rfl (by omega) rfl (.inl rfl), ⟨by show 3 < 4; omega, by simp [C.wf], _, _, rfl, .inl rfl, rfl⟩, trivial⟩ rfl rfl trivial h) ?_) | refine CallK.den (vs := [V.agg [C.i W, C.i H, C.sl 0 cs.length, C.mp 4], V.c (.sl 6 l.length), V.c (.bool false)]) (fun ρ => rfl) (by simp [V.wf, A.wf, C.wf]) (CallK.val (R := [(1, some 4), (2, some 6)]) hfo (by kernel_rfl) rfl (by simp [V.wf, A.wf, C.wf]) ⟨roE_ints (l := 6) rfl (by omega) rfl (.inl rfl), trivial⟩ rfl rfl trivial ?_) | refine br_bf (Eq.refl false) ?_ | refine CallK.m ?_)
                intro ρ; rfl
            · rw [dd_t g0, dd_f g9] at hieq
              rw [← hieq]
              repeat ((conv => whnf); first | (refine And.intro (by first | omega | exact Nat.le_of_ble_eq_true rfl | (dsimp only [inK]; omega)) ?_) | with_reducible refine ld (h0) ?_ | with_reducible refine ld (h9) ?_ | refine Exists.intro _ (And.intro rfl ?_) | refine br_f (by omega) ?_ | refine bs_t (by omega) ?_ | refine bs_f (by omega) ?_ | refine fun (K' : K3) hK' => ?_ | (refine hK' _ _ _ ?_; clear hK' K') | refine draw_auto tok mixed (by kernel_rfl) ?_ | refine CallK.newOk (a := 0) (bs := bs) (R := []) hl hb hv hB rfl rfl (by omega) ⟨roE_ints (l := 0) rfl (by omega) rfl (.inl rfl), roE_cells (l := 1) rfl (by omega) rfl (.inl rfl), trivial⟩ ?_ | refine CallK.lisT (R := [(1, some 4)]) hlo hli (by kernel_rfl) rfl (by simp [V.wf, A.wf, C.wf]) ⟨roE_cells rfl (by omega) rfl (.inr rfl), trivial⟩ rfl ?_ | refine bs_bf (congrArg Bool.not hle) ?_ | refine CallK.m ?_)
              intro ρ; rfl
          · rw [dd_f g0] at hieq
            rw [← hieq]
            repeat ((conv => whnf); first | (refine And.intro (by first | omega | exact Nat.le_of_ble_eq_true rfl | (dsimp only [inK]; omega)) ?_) | with_reducible refine ld (h0) ?_ | refine Exists.intro _ (And.intro rfl ?_) | refine br_f (by omega) ?_ | refine bs_t (by omega) ?_ | refine fun (K' : K3) hK' => ?_ | (refine hK' _ _ _ ?_; clear hK' K') | refine draw_auto tok mixed (by kernel_rfl) ?_ | refine CallK.newOk (a := 0) (bs := bs) (R := []) hl hb hv hB rfl rfl (by omega) ⟨roE_ints (l := 0) rfl (by omega) rfl (.inl rfl), roE_cells (l := 1) rfl (by omega) rfl (.inl rfl), trivial⟩ ?_ | refine CallK.lisT (R := [(1, some 4)]) hlo hli (by kernel_rfl) rfl (by simp [V.wf, A.wf, C.wf]) ⟨roE_cells rfl (by omega) rfl (.inr rfl), trivial⟩ rfl ?_ | refine bs_bf (congrArg Bool.not hle) ?_ | refine CallK.m ?_)
            intro ρ; rfl
set_option maxRecDepth 10000 in
set_option maxHeartbeats 8000000 in
theorem rIsChannel_spec (W H : Int) (cs : List Int) (bs l : List Cell) (hl : cs.length ≤ 300) (hb : bs.length ≤ 300) (hc : l.length ≤ 300) :
    Spec Try.prog 47 [chR W H cs.length, V.c (.sl 1 bs.length), V.c (.sl 2 l.length)] [⟨0, .ro 0, cs.map C.i⟩, ⟨1, .ro 0, cellC bs⟩, ⟨2, .ro 2, cellC l⟩] 3 (Is (V.tup [A.c (.bool (isChB W H cs bs l)), A.c (C.i (blE W H cs bs))])) := by
  have hak := asked_spec W H cs bs hl hb
  have hcc := cellC_len l
  unfold askE at hak
  unfold isChB blE
  refine Spec.of tok Try.func47 rfl rfl rfl fun n0 cx => vc_ok tok ?_
  cases hv : okC W H cs with
  | false =>
    rw [hv] at hak
    repeat ((conv => whnf); first | refine Exists.intro _ (And.intro rfl ?_) | refine fun (K' : K3) hK' => ?_ | (refine hK' _ _ _ ?_; clear hK' K') | refine CallK.val (R := []) hak (by kernel_rfl) rfl (by simp [V.wf, A.wf, C.wf]) ⟨roE_ints (l := 0) rfl (by omega) rfl (.inl rfl), roE_cells (l := 1) rfl (by omega) rfl (.inl rfl), trivial⟩ rfl rfl trivial ?_ | refine br_bt (Eq.refl true) ?_ | refine CallK.m ?_)
    intro ρ; rfl
  | true =>
    cases hB : okB W H cs bs with
    | false =>
      rw [hv, hB] at hak
      repeat ((conv => whnf); first | refine Exists.intro _ (And.intro rfl ?_) | refine fun (K' : K3) hK' => ?_ | (refine hK' _ _ _ ?_; clear hK' K') | refine CallK.val (R := []) hak (by kernel_rfl) rfl (by simp [V.wf, A.wf, C.wf]) ⟨roE_ints (l := 0) rfl (by omega) rfl (.inl rfl), roE_cells (l := 1) rfl (by omega) rfl (.inl rfl), trivial⟩ rfl rfl trivial ?_ | refine br_bt (Eq.refl true) ?_ | refine CallK.m ?_)
      intro ρ; rfl
    | true =>
      rw [hv, hB] at hak
      have hok := okC_iff.1 hv
      have hW := hok.w
      have hH := hok.h
      have hcl := hok.len
      have hn : (cs.length : Int) ≤ 100 := by have := Int.mul_le_mul hW.2 hH.2 (by omega) (by omega : (0:Int) ≤ 10); omega
      have hwy := isWay_spec W H cs.length l false (by omega) (by omega) hc
      have hop := open_spec W H cs bs hok hB hb
      obtain ⟨wet, hwet⟩ : ∃ wet, wet = wetB cs (boomF W H bs) := ⟨_, rfl⟩
      rw [← hwet] at hop ⊢
      have hlb : ((bL cs.length wet).map C.bool).length = cs.length := by simp [bL]
      have hbl : (bL cs.length wet).length = cs.length := bL_len _ _
      unfold isChR
      by_cases hlong : (l.length : Int) > 100
      · have hno : isWayB W H l false = false := by
          unfold isWayB
          rw [dd_f (show ¬ (l.length : Int) ≤ 100 by omega)]; simp
        rw [hno]
        repeat ((conv => whnf); first | refine Exists.intro _ (And.intro rfl ?_) | refine bs_t (by omega) ?_ | refine fun (K' : K3) hK' => ?_ | (refine hK' _ _ _ ?_; clear hK' K') | refine draw_auto tok mixed (by kernel_rfl) ?_ | refine CallK.val (R := []) hak (by kernel_rfl) rfl (by simp [V.wf, A.wf, C.wf]) ⟨roE_ints (l := 0) rfl (by omega) rfl (.inl rfl), roE_cells (l := 1) rfl (by omega) rfl (.inl rfl), trivial⟩ rfl rfl trivial ?_ | refine br_bf (Eq.refl false) ?_ | refine CallK.m ?_)
        intro ρ; rfl
      · cases hw : isWayB W H l false with
        | false =>
          rw [hw] at hwy
          repeat ((conv => whnf); first | refine Exists.intro _ (And.intro rfl ?_) | refine bs_f (by omega) ?_ | refine fun (K' : K3) hK' => ?_ | (refine hK' _ _ _ ?_; clear hK' K') | refine draw_auto tok mixed (by kernel_rfl) ?_ | refine CallK.val (R := []) hak (by kernel_rfl) rfl (by simp [V.wf, A.wf, C.wf]) ⟨roE_ints (l := 0) rfl (by omega) rfl (.inl rfl), roE_cells (l := 1) rfl (by omega) rfl (.inl rfl), trivial⟩ rfl rfl trivial ?_ | refine HD_mk (fun _ h => CallK.den (vs := [V.agg [C.i W, C.i H, C.sl 0 cs.length], V.c (.sl 2 l.length), V.c (.bool false)]) (fun ρ => rfl) (by simp [V.wf, A.wf, C.wf]) (CallK.val (R := [(1, some 2)]) hwy (by kernel_rfl) rfl (by simp [V.wf, A.wf, C.wf]) ⟨roE_cells (l := 2) rfl (by omega) rfl (.inr rfl), trivial⟩ rfl rfl trivial h)) ?_ | refine bs_bt rfl ?_ | refine br_bf (Eq.refl false) ?_ | refine CallK.m ?_)
          intro ρ; rfl
        | true =>
          rw [hw] at hwy
          obtain ⟨hon, _, hlen, _⟩ := isWay_iff.1 hw
          have h0 := cellL0 (l := l) (k := 0) (z := 0) rfl (by omega)
          have h9 := cellL0 (l := l) (k := l.length - 1) (z := (l.length : Int) - 1) (by omega) (by omega)
          obtain ⟨x0, hx0⟩ : ∃ x, x = (l.getD 0 (0, 0)).1 := ⟨_, rfl⟩
          obtain ⟨x9, hx9⟩ : ∃ x, x = (l.getD (l.length - 1) (0, 0)).1 := ⟨_, rfl⟩
          have hx0' : (l.getD 0 cz).1 = x0 := hx0.symm
          have hx9' : (l.getD (l.length - 1) cz).1 = x9 := hx9.symm
          rw [← hx0] at h0
          rw [← hx9] at h9
          rw [hx0', hx9']
          have hpx := onB_t (hon (l.length - 1) (by omega))
          by_cases g0 : x0 = 0
          · by_cases g9 : x9 = W - 1
            · rw [dd_t g0, dd_t g9]
              repeat ((conv => whnf); first | (refine And.intro (by first | omega | exact Nat.le_of_ble_eq_true rfl | (dsimp only [inK]; omega)) ?_) | with_reducible refine ld (h0) ?_ | with_reducible refine ld (h9) ?_ | refine Exists.intro _ (And.intro rfl ?_) | refine br_f (by omega) ?_ | refine bs_f (by omega) ?_ | refine fun (K' : K3) hK' => ?_ | (refine hK' _ _ _ ?_; clear hK' K') | refine draw_auto tok mixed (by kernel_rfl) ?_ | refine CallK.val (R := []) hak (by kernel_rfl) rfl (by simp [V.wf, A.wf, C.wf]) ⟨roE_ints (l := 0) rfl (by omega) rfl (.inl rfl), roE_cells (l := 1) rfl (by omega) rfl (.inl rfl), trivial⟩ rfl rfl trivial ?_ | refine HD_mk (fun _ h => CallK.den (vs := [V.agg [C.i W, C.i H, C.sl 0 cs.length], V.c (.sl 2 l.length), V.c (.bool false)]) (fun ρ => rfl) (by simp [V.wf, A.wf, C.wf]) (CallK.val (R := [(1, some 2)]) hwy (by kernel_rfl) rfl (by simp [V.wf, A.wf, C.wf]) ⟨roE_cells (l := 2) rfl (by omega) rfl (.inr rfl), trivial⟩ rfl rfl trivial h)) ?_ | refine bs_bf rfl ?_ | refine br_bf rfl ?_ | refine CallK.boolsR (R := []) hop (by kernel_rfl) rfl (by simp [V.wf, A.wf, C.wf]) ⟨roE_ints (l := 0) rfl (by omega) rfl (.inl rfl), roE_cells (l := 1) rfl (by omega) rfl (.inl rfl), trivial⟩ rfl ?_ | refine CallK.m ?_)
              rw [hbl]
              refine Tri.loop (γ := Nat) (fun j => j ≤ l.length ∧ ∀ i, i < j → wet (idxU W (l.getD i cz)) = true) (fun j => [(2, V.c (.sl 2 l.length)), (3, V.c (.ptr 3 0)), (9, V.c (.sl 4 cs.length)), (50, V.c (.sl 2 l.length)), (51, V.i l.length), (52, V.i (j : Nat))])
                (fun j => [⟨4, .vec 4 1, (bL cs.length wet).map C.bool⟩, ⟨3, .own 24, [C.i W, C.i H, .sl 0 cs.length]⟩, ⟨0, .ro 0, cs.map C.i⟩, ⟨1, .ro 0, cellC bs⟩, ⟨2, .ro 2, cellC l⟩]) 5 (fun j => l.length - j) 0 (R0 := []) ?_ ?_ ?_
              · exact ⟨Nat.zero_le _, fun i hi => by omega⟩
              · skip
                refine ⟨?_, ?_, rfl, rfl, by exact Nat.le_of_ble_eq_true rfl⟩
                · repeat (first | exact trivial | (refine And.intro (covS_syn (by rfl) rfl (by first | exact trivial | exact Nat.le_of_ble_eq_true rfl)) ?_))
                · repeat (first | exact trivial | (refine And.intro (covE_id (Nat.le_of_ble_eq_true rfl) (by first | exact wf_ints _ _ | exact wf_bools _ _ | first | exact wf_cells _ _ | simp [C.wf]) rfl (by rfl)) ?_))
              · rintro j ⟨hj, hI⟩
                refine vc_ok tok ?_
                by_cases hjl : j < l.length
                · have hld := cellT (l := l) (k := j) rfl hjl
                  have ho : onB W H (l.getD j (0, 0)).1 (l.getD j (0, 0)).2 = true := hon j hjl
                  have hxy := onB_t ho
                  have hidx := idxU_in hok ho
                  have hix := rindex_spec W H cs.length (l.getD j (0, 0)).1 (l.getD j (0, 0)).2 (by omega) (by omega) (by omega)
                  have he : (l.getD j (0, 0)).2 * W + (l.getD j (0, 0)).1 = idxU W (l.getD j (0, 0)) := rfl
                  rw [he] at hix
                  obtain ⟨i, hi⟩ : ∃ i : Nat, (i : Int) = idxU W (l.getD j (0, 0)) := ⟨(idxU W (l.getD j (0, 0))).toNat, by omega⟩
                  rw [← hi] at hix hidx
                  obtain ⟨p, hp⟩ : ∃ p, p = l.getD j (0, 0) := ⟨_, rfl⟩
                  rw [← hp] at hld hix
                  have hil : i < cs.length := by omega
                  have hldb := boolL (l := bL cs.length wet) (k := i) (by omega)
                  rw [bL_get hil] at hldb
                  cases hw : wet (i : Int) with
                  | true =>
                    rw [hw] at hldb
                    repeat ((conv => whnf); first | (refine And.intro (by first | omega | exact Nat.le_of_ble_eq_true rfl | (dsimp only [inK]; omega)) ?_) | with_reducible refine ld (hld) ?_ | with_reducible refine ld (hldb) ?_ | refine Exists.intro _ (And.intro rfl ?_) | refine br_t (by omega) ?_ | refine fun (K' : K3) hK' => ?_ | (refine hK' _ _ _ ?_; clear hK' K') | refine CallK.val (R := []) hix (by kernel_rfl) rfl (by simp [V.wf, A.wf, C.wf]) trivial rfl rfl trivial ?_ | refine br_bf (Eq.refl false) ?_ | refine CallK.m ?_)
                    refine ⟨j + 1, [], ⟨by omega, fun i' hi' => ?_⟩, by omega, ?_⟩
                    · by_cases hij : i' = j
                      · subst hij
                        show wet (idxU W (l.getD i' (0, 0))) = true
                        rw [← hi]; exact hw
                      · exact hI i' (by omega)
                    · skip
                      refine ⟨?_, ?_, rfl, rfl, by exact Nat.le_of_ble_eq_true rfl⟩
                      · repeat (first | exact trivial | (refine And.intro (covS_syn (by rfl) rfl (by first | exact trivial | exact Nat.le_of_ble_eq_true rfl)) ?_))
                      · repeat (first | exact trivial | (refine And.intro (covE_id (Nat.le_of_ble_eq_true rfl) (by first | exact wf_ints _ _ | exact wf_bools _ _ | first | exact wf_cells _ _ | simp [C.wf]) rfl (by rfl)) ?_))
                  | false =>
                    rw [hw] at hldb
                    have hall : (l.all fun p => wet (idxU W p)) = false := by
                      cases ha : (l.all fun p => wet (idxU W p)) with
                      | false => rfl
                      | true =>
                        have := getD_all.1 ha j hjl
                        have e : wet (idxU W (l.getD j (0, 0))) = true := this
                        rw [← hi, hw] at e; cases e
                    rw [hall]
                    repeat ((conv => whnf); first | (refine And.intro (by first | omega | exact Nat.le_of_ble_eq_true rfl | (dsimp only [inK]; omega)) ?_) | with_reducible refine ld (hld) ?_ | with_reducible refine ld (hldb) ?_ | refine Exists.intro _ (And.intro rfl ?_) | refine br_t (by omega) ?_ | refine fun (K' : K3) hK' => ?_ | (refine hK' _ _ _ ?_; clear hK' K') | refine CallK.val (R := []) hix (by kernel_rfl) rfl (by simp [V.wf, A.wf, C.wf]) trivial rfl rfl trivial ?_ | refine br_bt (Eq.refl true) ?_ | refine CallK.m ?_)
                    intro ρ; rfl
                · have hjn : j = l.length := by omega
                  subst hjn
                  rw [getD_all.2 hI]
                  repeat ((conv => whnf); first | refine br_f (by omega) ?_ | refine fun (K' : K3) hK' => ?_ | (refine hK' _ _ _ ?_; clear hK' K'))
                  intro ρ; rfl
            · rw [dd_t g0, dd_f g9]
              repeat ((conv => whnf); first | (refine And.intro (by first | omega | exact Nat.le_of_ble_eq_true rfl | (dsimp only [inK]; omega)) ?_) | with_reducible refine ld (h0) ?_ | with_reducible refine ld (h9) ?_ | refine Exists.intro _ (And.intro rfl ?_) | refine br_t (by omega) ?_ | refine bs_f (by omega) ?_ | refine fun (K' : K3) hK' => ?_ | (refine hK' _ _ _ ?_; clear hK' K') | refine draw_auto tok mixed (by kernel_rfl) ?_ | refine CallK.val (R := []) hak (by kernel_rfl) rfl (by simp [V.wf, A.wf, C.wf]) ⟨roE_ints (l := 0) rfl (by omega) rfl (.inl rfl), roE_cells (l := 1) rfl (by omega) rfl (.inl rfl), trivial⟩ rfl rfl trivial ?_ | refine HD_mk (fun _ h => CallK.den (vs := [V.agg [C.i W, C.i H, C.sl 0 cs.length], V.c (.sl 2 l.length), V.c (.bool false)]) (fun ρ => rfl) (by simp [V.wf, A.wf, C.wf]) (CallK.val (R := [(1, some 2)]) hwy (by kernel_rfl) rfl (by simp [V.wf, A.wf, C.wf]) ⟨roE_cells (l := 2) rfl (by omega) rfl (.inr rfl), trivial⟩ rfl rfl trivial h)) ?_ | refine bs_bf rfl ?_ | refine br_bf rfl ?_ | refine CallK.m ?_)
              intro ρ; rfl
          · rw [dd_f g0]
            repeat ((conv => whnf); first | (refine And.intro (by first | omega | (dsimp only [inK]; omega)) ?_) | with_reducible refine ld (h0) ?_ | refine Exists.intro _ (And.intro rfl ?_) | refine bs_t (by omega) ?_ | refine bs_f (by omega) ?_ | refine fun (K' : K3) hK' => ?_ | (refine hK' _ _ _ ?_; clear hK' K') | refine draw_auto tok mixed (by kernel_rfl) ?_ | refine CallK.val (R := []) hak (by kernel_rfl) rfl (by simp [V.wf, A.wf, C.wf]) ⟨roE_ints (l := 0) rfl (by omega) rfl (.inl rfl), roE_cells (l := 1) rfl (by omega) rfl (.inl rfl), trivial⟩ rfl rfl trivial ?_ | refine HD_mk (fun _ h => CallK.den (vs := [V.agg [C.i W, C.i H, C.sl 0 cs.length], V.c (.sl 2 l.length), V.c (.bool false)]) (fun ρ => rfl) (by simp [V.wf, A.wf, C.wf]) (CallK.val (R := [(1, some 2)]) hwy (by kernel_rfl) rfl (by simp [V.wf, A.wf, C.wf]) ⟨roE_cells (l := 2) rfl (by omega) rfl (.inr rfl), trivial⟩ rfl rfl trivial h)) ?_ | refine bs_bf rfl ?_ | refine br_bf rfl ?_ | refine CallK.m ?_)
            intro ρ; rfl
end Go.Proofs.Ytbhpnhcdjmcaoaa

/- Boom: the law of the channels. -/
namespace Go.Proofs.Ytbhpnhcdjmcaoaa
open Go.RowKit
set_option linter.unusedVariables false
set_option linter.unusedSimpArgs false
theorem channels_long (W H : Int) (cs : List Int) (bs l : List Cell) (hcs : cs.length < 9223372036854775808) (hb : bs.length < 9223372036854775808) (hl : l.length < 9223372036854775808) (h : (cs.length : Int) > 300 ∨ (bs.length : Int) > 250 ∨ (l.length : Int) > 250) :
    Spec Try.prog 11 [chR W H cs.length, V.c (.sl 1 bs.length), V.c (.sl 2 l.length)] [⟨0, .ro 0, cs.map C.i⟩, ⟨1, .ro 2, cellC bs⟩, ⟨2, .ro 2, cellC l⟩] 3 (Is (V.c (.bool true))) := by
  refine Spec.of tok Try.func11 rfl rfl rfl fun n0 cx => vc_ok tok ?_
  by_cases h1 : (cs.length : Int) > 300
  · repeat ((conv => whnf); first | refine Exists.intro _ (And.intro rfl ?_) | refine bs_t (by omega) ?_ | refine fun (K' : K3) hK' => ?_ | (refine hK' _ _ _ ?_; clear hK' K') | refine wide_k hcs ?_ | refine awake_k ?_ | refine CallK.m ?_)
    intro ρ; rfl
  · by_cases h2 : (bs.length : Int) > 250
    · repeat ((conv => whnf); first | refine Exists.intro _ (And.intro rfl ?_) | refine bs_t (by omega) ?_ | refine bs_f (by omega) ?_ | refine fun (K' : K3) hK' => ?_ | (refine hK' _ _ _ ?_; clear hK' K') | refine wide_k hcs ?_ | refine long_k hb ?_ | refine awake_k ?_ | refine CallK.m ?_)
      intro ρ; rfl
    · have h3 : (l.length : Int) > 250 := by omega
      repeat ((conv => whnf); first | refine Exists.intro _ (And.intro rfl ?_) | refine br_t (by omega) ?_ | refine bs_f (by omega) ?_ | refine fun (K' : K3) hK' => ?_ | (refine hK' _ _ _ ?_; clear hK' K') | refine wide_k hcs ?_ | refine long_k hl ?_ | refine long_k hb ?_ | refine awake_k ?_ | refine CallK.m ?_)
      intro ρ; rfl
theorem chC_len (W H : Int) (cs : List Int) (bs : List Cell) (hl : cs.length ≤ 300) : (chC W H cs bs).length ≤ 300 := by
  unfold chC
  split
  · rename_i h
    rw [Bool.and_eq_true] at h
    have hok := okC_iff.1 h.1
    cases ho : chanO W H cs.length (wetB cs (boomF W H bs)) with
    | none => simp
    | some l =>
      have := (chan_in (by have := hok.w; omega) hok.len ho).2
      simp only [cellsL, List.length_map]; omega
  · simp
set_option maxRecDepth 10000 in
set_option maxHeartbeats 8000000 in
theorem channels_spec (W H : Int) (cs : List Int) (bs l : List Cell) (hcs : ¬ (cs.length : Int) > 300) (hbs : ¬ (bs.length : Int) > 250) (hls : ¬ (l.length : Int) > 250) :
    Spec Try.prog 11 [chR W H cs.length, V.c (.sl 1 bs.length), V.c (.sl 2 l.length)] [⟨0, .ro 0, cs.map C.i⟩, ⟨1, .ro 2, cellC bs⟩, ⟨2, .ro 2, cellC l⟩] 3 (Is (V.c (.bool true))) := by
  have h1 := pIsChannel_spec W H cs bs l (by omega) (by omega) (by omega)
  have h2 := rIsChannel_spec W H cs bs l (by omega) (by omega) (by omega)
  have h3 := pChannel_spec W H cs bs (by omega) (by omega)
  have h4 := rChannel_spec W H cs bs (by omega) (by omega)
  have h5 := pBlocks_spec W H cs bs (by omega) (by omega)
  have h6 := rBlocks_spec W H cs bs (by omega) (by omega)
  have h7 := sameC_spec (chC W H cs bs) (chC_len W H cs bs (by omega))
  obtain ⟨b, hb⟩ : ∃ b, b = isChB W H cs bs l := ⟨_, rfl⟩
  obtain ⟨e, he⟩ : ∃ e, e = blE W H cs bs := ⟨_, rfl⟩
  obtain ⟨c, hc⟩ : ∃ c, c = chC W H cs bs := ⟨_, rfl⟩
  obtain ⟨g, hg⟩ : ∃ g, g = chE W H cs bs := ⟨_, rfl⟩
  obtain ⟨q, hq⟩ : ∃ q, q = blB W H cs bs := ⟨_, rfl⟩
  rw [← hb, ← he] at h1 h2
  rw [← hc, ← hg] at h3 h4
  rw [← hq, ← he] at h5 h6
  rw [← hc] at h7
  refine Spec.of tok Try.func11 rfl rfl rfl fun n0 cx => vc_ok tok ?_
  repeat ((conv => whnf); first | refine Exists.intro _ (And.intro rfl ?_) | refine br_t (by omega) ?_ | refine br_f (by omega) ?_ | refine bs_f (by omega) ?_ | refine fun (K' : K3) hK' => ?_ | (refine hK' _ _ _ ?_; clear hK' K') | refine wide_k (by omega) ?_ | refine long_k (by omega) ?_ | refine CallK.val (R := []) h1 (by kernel_rfl) rfl (by simp [V.wf, A.wf, C.wf, V.i]) ⟨roE_ints (l := 0) rfl (by omega) rfl (.inl rfl), roE_cells (l := 1) rfl (by omega) rfl (.inl rfl), roE_cells (l := 2) rfl (by omega) rfl (.inr rfl), trivial⟩ rfl rfl (by simp [V.wf, A.wf, C.wf]) ?_ | refine CallK.val (R := []) h2 (by kernel_rfl) rfl (by simp [V.wf, A.wf, C.wf, V.i]) ⟨roE_ints (l := 0) rfl (by omega) rfl (.inl rfl), roE_cells (l := 1) rfl (by omega) rfl (.inl rfl), roE_cells (l := 2) rfl (by omega) rfl (.inr rfl), trivial⟩ rfl rfl (by simp [V.wf, A.wf, C.wf]) ?_ | refine CallK.cellsE (R := []) h3 (by kernel_rfl) rfl (by simp [V.wf, A.wf, C.wf, V.i]) ⟨roE_ints (l := 0) rfl (by omega) rfl (.inl rfl), roE_cells (l := 1) rfl (by omega) rfl (.inl rfl), trivial⟩ rfl ?_ | refine CallK.cellsE (R := []) h4 (by kernel_rfl) rfl (by simp [V.wf, A.wf, C.wf, V.i]) ⟨roE_ints (l := 0) rfl (by omega) rfl (.inl rfl), roE_cells (l := 1) rfl (by omega) rfl (.inl rfl), trivial⟩ rfl ?_ | refine CallK.val (R := []) h5 (by kernel_rfl) rfl (by simp [V.wf, A.wf, C.wf, V.i]) ⟨roE_ints (l := 0) rfl (by omega) rfl (.inl rfl), roE_cells (l := 1) rfl (by omega) rfl (.inl rfl), trivial⟩ rfl rfl (by simp [V.wf, A.wf, C.wf]) ?_ | refine CallK.val (R := []) h6 (by kernel_rfl) rfl (by simp [V.wf, A.wf, C.wf, V.i]) ⟨roE_ints (l := 0) rfl (by omega) rfl (.inl rfl), roE_cells (l := 1) rfl (by omega) rfl (.inl rfl), trivial⟩ rfl rfl (by simp [V.wf, A.wf, C.wf]) ?_ | refine CallK.val (R := [(0, some 4), (1, some 5)]) h7 (by kernel_rfl) rfl (by simp [V.wf, A.wf, C.wf, V.i]) ⟨roE_cells (l := 4) rfl (by omega) rfl (.inl rfl), roE_cells (l := 5) rfl (by omega) rfl (.inl rfl), trivial⟩ rfl rfl trivial ?_ | refine bs_bf (Eq.refl false) ?_ | refine bs_bf (nd_f rfl) ?_ | refine br_bt (beq_self_eq_true _) ?_ | refine awake_k ?_ | refine CallK.m ?_)
  intro ρ; rfl
theorem hp_3c {W : World} {cs : List Int} {l l2 : List Cell} {ao bo co : Option Addr} {c d e : Nat} (h : IntsAt W ao cs) (h2 : CellsAt W bo d l) (h3 : CellsAt W co e l2) : Hp W.heap.size (envL [(ao, c), (bo, d), (co, e)]) W [⟨0, .ro 0, cs.map C.i⟩, ⟨1, .ro 2, cellC l⟩, ⟨2, .ro 2, cellC l2⟩] 3 := by
  refine Hp.rosz (fun x hx => ?_) rfl
  simp only [List.mem_cons, List.not_mem_nil, or_false] at hx
  rcases hx with rfl | rfl | rfl
  · exact ent_ints h (by show 0 < 3; omega) rfl
  · exact ent_cells h2 (by show 1 < 3; omega) rfl
  · exact ent_cells h3 (by show 2 < 3; omega) rfl
theorem channels_any (W H : Int) (cs : List Int) (bs l : List Cell) (ao : Option Addr) (c : Nat) (bo : Option Addr) (d : Nat) (co : Option Addr) (e : Nat) (w : World) (h : IntsAt w ao cs) (h2 : CellsAt w bo d bs) (h3 : CellsAt w co e l) :
    Calls Try.prog 11 #[.agg #[.int .i64 W, .int .i64 H, .slice ao cs.length c], .slice bo bs.length d, .slice co l.length e] w fun e w' => e = .returned (.bool true) ∧ Below w.heap.size w w' := by
  by_cases hl : (cs.length : Int) > 300 ∨ (bs.length : Int) > 250 ∨ (l.length : Int) > 250
  · exact isTrue_any (vs := [chR W H cs.length, V.c (.sl 1 bs.length), V.c (.sl 2 l.length)]) (channels_long W H cs bs l h.2 h2.2.2 h3.2.2 hl) (hp_3c h h2 h3) (by simp [V.wf, A.wf, C.wf]) rfl
  · exact isTrue_any (vs := [chR W H cs.length, V.c (.sl 1 bs.length), V.c (.sl 2 l.length)]) (channels_spec W H cs bs l (fun e => hl (.inl e)) (fun e => hl (.inr (.inl e))) (fun e => hl (.inr (.inr e)))) (hp_3c h h2 h3) (by simp [V.wf, A.wf, C.wf]) rfl
end Go.Proofs.Ytbhpnhcdjmcaoaa

