/- Texts of the proof, part 5: X3, D1, D2, D3, X4, X7, X9, P16, X5, P10, P11, P17, X6, P18, P19, T1, T2, T3, T4. -/
import Derived.Test.YtbhpnhcdjmcaoaaW4
import Derived.WalkKit
import Derived.Below
import Derived.Laws.OwnMore
import Derived.Maps.AppendAt
import Derived.Laws.IdiomCopy
import Derived.Laws.CopyRow
import Derived.IntWalk
import Derived.StillTail
import Derived.Scope
import Derived.ChangeKeysEq
import Derived.Laws.Small
import Derived.OrdersIn
import Derived.TacticsIn
import Derived.OwnWalkIn
import Derived.RangeFuncNested
import Derived.RangeFuncLeaves
import Derived.RangeFuncRecord
import Derived.Maps.Keyed
import Derived.Maps.RangeRun
import Derived.DeepKeys4
import Derived.Test.YtbhpnhcdjmcaoaaRows
import Derived.KernelRfl
import Derived.ProofKit
import Derived.OpenShut
import Derived.Lib.SmallJoins
import Derived.Deep.Slices
import Derived.Sort.LoopGhostIn
import Derived.Shelf.Sort.Plain
import Derived.Shelf.Slices.In.SortNone
import Derived.PlainAid
import Derived.StillTailTactics
import Derived.WalkSpells
import Derived.OwnWalk
import Derived.Deep.RegionLaw
import Derived.Lib.SliceRun
/- Boom, the reference: what is open, and how many cells are left. -/
namespace Go.Proofs.Ytbhpnhcdjmcaoaa
open Go.RowKit
set_option linter.unusedVariables false
set_option linter.unusedSimpArgs false
def boolsR (l : List Bool) (v : V) (L' : List E) : Prop := ∃ lab, v = V.c (.sl lab l.length) ∧ find L' lab = some ⟨lab, .vec 4 1, l.map C.bool⟩
theorem chk_bools (p : Nat → Bool) (l : List Bool) : (l.map C.bool).all (C.chk p) = true := List.all_eq_true.2 fun c hc => by
  obtain ⟨b, _, rfl⟩ := List.mem_map.1 hc; rfl
theorem CallK.boolsR {P : Program} {n0 nx nac : Nat} {f : FuncId} {vs vs' : List V} {Lc L : List E} {R : Rn} {K : V → List E → Nat → Prop} {l : List Bool} (spec : Spec P f vs Lc nac (fun v L' _ => boolsR l v L')) (hok : callB P f = true)
    (hv : renVs R vs = some vs') (hvw : ∀ v ∈ vs, v.wf nac) (hL : roL R nac L Lc) (hLc : injB [] Lc = true)
    (hK : K (V.c (.sl nx l.length)) [⟨nx, .vec 4 1, l.map C.bool⟩] (nx + 1)) : CallK P n0 f vs' L nx K := by
  refine CallK.mk' hok spec hv hvw hL hLc ?_
  rintro v L' nx' hw ⟨lab, rfl, hf⟩
  refine ⟨V.c (.sl nx l.length), [⟨nx, .vec 4 1, l.map C.bool⟩], nx + 1, [(nx, some lab)], ⟨Nat.le_succ _, ?_, ?_, ⟨covE_some (renL_one _ _) (Nat.lt_succ_self nx) (wf_bools _ _) hf (ren_bools _ _), trivial⟩, rfl, ?_⟩, hK⟩
  · simp only [V.ren, A.ren, C.ren, renL_one]
  · simp only [V.chk, A.chk, C.chk]; exact inLab_one nx
  · simp only [List.all_cons, List.all_nil, Bool.and_true, inLab_one, Kd.isRo, Bool.not_false, Bool.true_and]
    exact chk_bools _ _
set_option maxRecDepth 10000 in
set_option maxHeartbeats 8000000 in
theorem open_spec (W H : Int) (cs : List Int) (bs : List Cell) (hok : CO W H cs) (hB : okB W H cs bs = true) (hb : bs.length ≤ 300) :
    Spec Try.prog 87 [chR W H cs.length, V.c (.sl 1 bs.length)] [⟨0, .ro 0, cs.map C.i⟩, ⟨1, .ro 0, cellC bs⟩] 2 (fun v L' _ => boolsR (bL cs.length (wetB cs (boomF W H bs))) v L') := by
  have hlm : (cs.map C.i).length = cs.length := by simp
  have hlb : ∀ g, ((bL cs.length g).map C.bool).length = cs.length := fun g => by simp [bL]
  have hcb : (cellC bs).length = 2 * bs.length := cellC_len bs
  obtain ⟨hW, hH, hcl, hcost⟩ := hok
  have hok : CO W H cs := ⟨hW, hH, hcl, hcost⟩
  have hn : (cs.length : Int) ≤ 100 := by have := Int.mul_le_mul hW.2 hH.2 (by omega) (by omega : (0:Int) ≤ 10); omega
  have hon := okB_on (by omega) hB
  refine Spec.of tok Try.func87 rfl rfl rfl fun n0 cx => vc_ok tok ?_
  repeat ((conv => whnf); first | (refine And.intro (by first | omega | exact Nat.le_of_ble_eq_true rfl | (dsimp only [inK]; omega)) ?_) | refine Exists.intro _ (And.intro rfl ?_) | refine fun (K' : K3) hK' => ?_ | (refine hK' _ _ _ ?_; clear hK' K'))
  refine Tri.loop (γ := Nat) (fun k => k ≤ cs.length) (fun k => [(1, V.c (.sl 1 bs.length)), (2, V.c (.ptr 2 0)), (5, V.c (.sl 3 cs.length)), (15, V.c (.sl 0 cs.length)), (16, V.i cs.length), (17, V.i (k : Nat))])
    (fun k => [⟨3, .vec 4 1, (bL cs.length (opA cs k)).map C.bool⟩, ⟨2, .own 24, [C.i W, C.i H, .sl 0 cs.length]⟩, ⟨0, .ro 0, cs.map C.i⟩, ⟨1, .ro 0, cellC bs⟩]) 4 (fun k => cs.length - k) 0 (R0 := []) ?_ ?_ ?_
  · omega
  · skip
    refine ⟨?_, ?_, rfl, rfl, by exact Nat.le_of_ble_eq_true rfl⟩
    · repeat (first | exact trivial | (refine And.intro (covS_syn (by rfl) rfl (by first | exact trivial | exact Nat.le_of_ble_eq_true rfl)) ?_))
    · repeat (first | exact trivial | (refine And.intro (covE_bools rfl (Nat.le_of_ble_eq_true rfl) rfl (by rw [opA_zero]; exact toB_zero _)) ?_) | (refine And.intro (covE_id (Nat.le_of_ble_eq_true rfl) (by first | exact wf_ints _ _ | first | exact wf_cells _ _ | simp [C.wf]) rfl (by rfl)) ?_))
  · intro k hk
    refine vc_ok tok ?_
    by_cases hlt : k < cs.length
    · have hld := intL hlt
      obtain ⟨x, hx⟩ : ∃ x, x = cs.getD k 0 := ⟨_, rfl⟩
      have hsu := opA_succ cs k
      rw [← hx] at hld hsu
      repeat ((conv => whnf); first | (refine And.intro (by first | omega | (dsimp only [inK]; omega)) ?_) | with_reducible refine ld (hld) ?_ | refine br_t (by omega) ?_ | refine fun (K' : K3) hK' => ?_ | (refine hK' _ _ _ ?_; clear hK' K') | (refine And.intro (by refine ⟨by omega, by omega, ?_⟩; (try dsimp only); rw [hlb]; omega) ?_) | (refine And.intro (by (try dsimp only); rw [hlb, mulS_eq]; simp only [Int.toNat_natCast]; omega) ?_))
      refine ⟨k + 1, [], by omega, by omega, ?_⟩
      refine ⟨?_, ?_, rfl, rfl, by exact Nat.le_of_ble_eq_true rfl⟩
      · repeat (first | exact trivial | (refine And.intro (covS_syn (by rfl) rfl (by first | exact trivial | exact Nat.le_of_ble_eq_true rfl)) ?_))
      · repeat (first | exact trivial | refine And.intro (covE_bools rfl (Nat.le_of_ble_eq_true rfl) rfl ((toB_set rfl rfl).trans (by rw [hsu]))) ?_ | (refine And.intro (covE_id (Nat.le_of_ble_eq_true rfl) (by first | exact wf_ints _ _ | first | exact wf_cells _ _ | simp [C.wf]) rfl (by rfl)) ?_))
    · have hkn : k = cs.length := by omega
      subst hkn
      repeat ((conv => whnf); first | refine br_f (by omega) ?_ | refine fun (K' : K3) hK' => ?_ | (refine hK' _ _ _ ?_; clear hK' K'))
      refine Tri.loop (γ := Nat) (fun j => j ≤ bs.length) (fun j => [(2, V.c (.ptr 2 0)), (5, V.c (.sl 3 cs.length)), (28, V.c (.sl 1 bs.length)), (29, V.i bs.length), (30, V.i (j : Nat))])
        (fun j => [⟨3, .vec 4 1, (bL cs.length (opB W H cs bs j)).map C.bool⟩, ⟨2, .own 24, [C.i W, C.i H, .sl 0 cs.length]⟩, ⟨0, .ro 0, cs.map C.i⟩, ⟨1, .ro 0, cellC bs⟩]) 4 (fun j => bs.length - j) 0 (R0 := []) ?_ ?_ ?_
      · omega
      · skip
        refine ⟨?_, ?_, rfl, rfl, by exact Nat.le_of_ble_eq_true rfl⟩
        · repeat (first | exact trivial | (refine And.intro (covS_syn (by rfl) rfl (by first | exact trivial | exact Nat.le_of_ble_eq_true rfl)) ?_))
        · repeat (first | exact trivial | (refine And.intro (covE_bools rfl (Nat.le_of_ble_eq_true rfl) rfl (by rw [opA_end W H cs bs]; exact toB_bools _)) ?_) | (refine And.intro (covE_id (Nat.le_of_ble_eq_true rfl) (by first | exact wf_ints _ _ | first | exact wf_cells _ _ | simp [C.wf]) rfl (by rfl)) ?_))
      · intro j hj
        refine vc_ok tok ?_
        by_cases hlj : j < bs.length
        · have hld := cellT (l := bs) (k := j) rfl hlj
          have ho := hon j hlj
          have hxy := onB_t ho
          have hsu := opB_succ (W := W) (H := H) (cs := cs) hlj
          have hid := idxC_mod ho
          have hidx := idxU_in hok ho
          have hix := rindex_spec W H cs.length (bs.getD j (0, 0)).1 (bs.getD j (0, 0)).2 (by omega) (by omega) (by omega)
          rw [hid.1] at hsu
          have he : (bs.getD j (0, 0)).2 * W + (bs.getD j (0, 0)).1 = idxU W (bs.getD j (0, 0)) := rfl
          rw [he] at hix
          obtain ⟨i, hi⟩ : ∃ i : Nat, (i : Int) = idxU W (bs.getD j (0, 0)) := ⟨(idxU W (bs.getD j (0, 0))).toNat, by omega⟩
          rw [← hi] at hix hsu hidx
          obtain ⟨p, hp⟩ : ∃ p, p = bs.getD j (0, 0) := ⟨_, rfl⟩
          rw [← hp] at hld hix
          have hil : i < cs.length := by omega
          repeat ((conv => whnf); first | (refine And.intro (by first | omega | exact Nat.le_of_ble_eq_true rfl | (dsimp only [inK]; omega)) ?_) | with_reducible refine ld (hld) ?_ | refine Exists.intro _ (And.intro rfl ?_) | refine br_t (by omega) ?_ | refine fun (K' : K3) hK' => ?_ | (refine hK' _ _ _ ?_; clear hK' K') | refine CallK.val (R := []) hix (by kernel_rfl) rfl (by simp [V.wf, A.wf, C.wf]) trivial rfl rfl trivial ?_ | (refine And.intro (by refine ⟨by omega, by omega, ?_⟩; (try dsimp only); rw [hlb]; omega) ?_) | (refine And.intro (by (try dsimp only); rw [hlb, mulS_eq]; simp only [Int.toNat_natCast]; omega) ?_) | refine CallK.m ?_)
          refine ⟨j + 1, [], by omega, by omega, ?_⟩
          refine ⟨?_, ?_, rfl, rfl, by exact Nat.le_of_ble_eq_true rfl⟩
          · repeat (first | exact trivial | (refine And.intro (covS_syn (by rfl) rfl (by first | exact trivial | exact Nat.le_of_ble_eq_true rfl)) ?_))
          · repeat (first | exact trivial | refine And.intro (covE_bools rfl (Nat.le_of_ble_eq_true rfl) rfl ((toB_set rfl rfl).trans (by rw [hsu]))) ?_ | (refine And.intro (covE_id (Nat.le_of_ble_eq_true rfl) (by first | exact wf_ints _ _ | first | exact wf_cells _ _ | simp [C.wf]) rfl (by rfl)) ?_))
        · have hjl : j = bs.length := by omega
          subst hjl
          rw [opB_end hok]
          repeat ((conv => whnf); first | refine br_f (by omega) ?_ | refine fun (K' : K3) hK' => ?_ | (refine hK' _ _ _ ?_; clear hK' K'))
          exact ⟨3, by rw [bL_len]; rfl, rfl⟩
set_option maxRecDepth 10000 in
set_option maxHeartbeats 8000000 in
theorem left_spec (W H : Int) (cs : List Int) (bs : List Cell) (hok : CO W H cs) (hB : okB W H cs bs = true) (hb : bs.length ≤ 300) :
    Spec Try.prog 95 [chR W H cs.length, V.c (.sl 1 bs.length)] [⟨0, .ro 0, cs.map C.i⟩, ⟨1, .ro 0, cellC bs⟩] 2 (fun v L' _ => intsR (iL cs.length (lef (distW W H cs.length (wetB cs (boomF W H bs)) (W - 1)))) v L') := by
  have hlm : (cs.map C.i).length = cs.length := by simp
  have hop := open_spec W H cs bs hok hB hb
  obtain ⟨hW, hH, hcl, hcost⟩ := hok
  have hok : CO W H cs := ⟨hW, hH, hcl, hcost⟩
  have hn : (cs.length : Int) ≤ 100 := by have := Int.mul_le_mul hW.2 hH.2 (by omega) (by omega : (0:Int) ≤ 10); omega
  have hW0 : 0 < W := by omega
  obtain ⟨wet, hwet⟩ : ∃ wet, wet = wetB cs (boomF W H bs) := ⟨_, rfl⟩
  rw [← hwet] at hop ⊢
  obtain ⟨h0, rfl⟩ : ∃ h0 : Nat, H = h0 := ⟨H.toNat, by omega⟩
  obtain ⟨N, hN⟩ : ∃ N, N = cs.length := ⟨_, rfl⟩
  rw [← hN] at hop hcl hn ⊢
  have hlb : ((bL N wet).map C.bool).length = N := by simp [bL]
  have hli : ∀ g, ((iL N g).map C.i).length = N := fun g => by simp [iL]
  have hbl : (bL N wet).length = N := bL_len _ _
  rw [← hN] at hlm
  refine Spec.of tok Try.func95 rfl rfl rfl fun n0 cx => vc_ok tok ?_
  repeat ((conv => whnf); first | (refine And.intro (by first | omega | exact Nat.le_of_ble_eq_true rfl | (dsimp only [inK]; omega)) ?_) | refine Exists.intro _ (And.intro rfl ?_) | refine fun (K' : K3) hK' => ?_ | (refine hK' _ _ _ ?_; clear hK' K') | refine CallK.boolsR (R := []) hop (by kernel_rfl) rfl (by simp [V.wf, A.wf, C.wf]) ⟨roE_ints (l := 0) rfl (by omega) rfl (.inl rfl), roE_cells (l := 1) rfl (by omega) rfl (.inl rfl), trivial⟩ rfl ?_ | refine CallK.m ?_)
  rw [hbl]
  refine Tri.loop (γ := Nat) (fun y => y ≤ h0) (fun y => [(2, V.c (.ptr 2 0)), (5, V.c (.sl 3 N)), (6, V.c (.sl 4 N)), (22, V.i h0), (23, V.i (y : Nat))])
    (fun y => [⟨4, .vec 3 1, (iL N (colK W N wet (W - 1) y)).map C.i⟩, ⟨3, .vec 4 1, (bL N wet).map C.bool⟩, ⟨2, .own 24, [C.i W, C.i h0, .sl 0 N]⟩, ⟨0, .ro 0, cs.map C.i⟩, ⟨1, .ro 0, cellC bs⟩]) 5 (fun y => h0 - y) 0 (R0 := []) ?_ ?_ ?_
  · omega
  · skip
    refine ⟨?_, ?_, rfl, rfl, by exact Nat.le_of_ble_eq_true rfl⟩
    · repeat (first | exact trivial | (refine And.intro (covS_syn (by rfl) rfl (by first | exact trivial | exact Nat.le_of_ble_eq_true rfl)) ?_))
    · repeat (first | exact trivial | (refine And.intro (covE_id (Nat.le_of_ble_eq_true rfl) (by first | exact wf_ints _ _ | exact wf_bools _ _ | first | exact wf_cells _ _ | simp [C.wf]) rfl (by first | rfl | ((rw [colK_zero hW0]; exact repC_iL _)))) ?_))
  · intro y hy
    refine vc_ok tok ?_
    by_cases hlt : y < h0
    · have hyw : 0 ≤ (y : Int) * W ∧ (y : Int) * W + W ≤ N := by
        have h1 : 0 ≤ (y : Int) * W := Int.mul_nonneg (by omega) (by omega)
        have h2 := Int.mul_le_mul_of_nonneg_right (show (y : Int) + 1 ≤ h0 by omega) (show 0 ≤ W by omega)
        rw [Int.add_mul] at h2
        have : (h0 : Int) * W = W * h0 := Int.mul_comm _ _
        omega
      obtain ⟨i, hi⟩ : ∃ i : Nat, (i : Int) = (y : Int) * W + (W - 1) := ⟨((y : Int) * W + (W - 1)).toNat, by omega⟩
      have hil : i < N := by omega
      have hix := rindex_spec W h0 N (W - 1) (y : Int) (by omega) (by omega) (by omega)
      rw [← hi] at hix
      have hld := boolL (l := bL N wet) (k := i) (by omega)
      rw [bL_get hil] at hld
      have hsetc := iL_set (n := N) (g := colK W N wet (W - 1) y) (k := i) 1
      cases hw : wet (i : Int) with
      | true =>
        rw [hw] at hld
        rw [colK_t hW0 hi hil hw] at hsetc
        repeat ((conv => whnf); first | (refine And.intro (by first | omega | exact Nat.le_of_ble_eq_true rfl | (dsimp only [inK]; omega)) ?_) | with_reducible refine ld (hld) ?_ | refine Exists.intro _ (And.intro rfl ?_) | refine br_t (by omega) ?_ | refine fun (K' : K3) hK' => ?_ | (refine hK' _ _ _ ?_; clear hK' K') | refine CallK.val (R := []) hix (by kernel_rfl) rfl (by simp [V.wf, A.wf, C.wf]) trivial rfl rfl trivial ?_ | refine br_bt rfl ?_ | (refine And.intro (by refine ⟨by omega, by omega, ?_⟩; (try dsimp only); rw [hli]; omega) ?_) | (refine And.intro (by (try dsimp only); rw [hli, mulS_eq]; simp only [Int.toNat_natCast]; omega) ?_) | refine CallK.m ?_)
        refine ⟨y + 1, [], by omega, by omega, ?_⟩
        refine ⟨?_, ?_, rfl, rfl, by exact Nat.le_of_ble_eq_true rfl⟩
        · repeat (first | exact trivial | (refine And.intro (covS_syn (by rfl) rfl (by first | exact trivial | exact Nat.le_of_ble_eq_true rfl)) ?_))
        · repeat (first | exact trivial | (refine And.intro (covE_id (Nat.le_of_ble_eq_true rfl) (by first | exact wf_ints _ _ | exact wf_bools _ _ | first | exact wf_cells _ _ | simp [C.wf]) rfl (by first | rfl | ((rw [← hsetc]; exact setL_int rfl)))) ?_))
      | false =>
        rw [hw] at hld
        have hst := colK_f (n := N) hW0 hi hw
        repeat ((conv => whnf); first | (refine And.intro (by first | omega | exact Nat.le_of_ble_eq_true rfl | (dsimp only [inK]; omega)) ?_) | with_reducible refine ld (hld) ?_ | refine Exists.intro _ (And.intro rfl ?_) | refine br_t (by omega) ?_ | refine fun (K' : K3) hK' => ?_ | (refine hK' _ _ _ ?_; clear hK' K') | refine CallK.val (R := []) hix (by kernel_rfl) rfl (by simp [V.wf, A.wf, C.wf]) trivial rfl rfl trivial ?_ | refine br_bf rfl ?_ | refine CallK.m ?_)
        refine ⟨y + 1, [], by omega, by omega, ?_⟩
        refine ⟨?_, ?_, rfl, rfl, by exact Nat.le_of_ble_eq_true rfl⟩
        · repeat (first | exact trivial | (refine And.intro (covS_syn (by rfl) rfl (by first | exact trivial | exact Nat.le_of_ble_eq_true rfl)) ?_))
        · repeat (first | exact trivial | (refine And.intro (covE_id (Nat.le_of_ble_eq_true rfl) (by first | exact wf_ints _ _ | exact wf_bools _ _ | first | exact wf_cells _ _ | simp [C.wf]) rfl (by first | rfl | (rw [hst]))) ?_))
    · have hyh : y = h0 := by omega
      subst hyh
      rw [colK_end hW0 hcl rfl]
      obtain ⟨d, hd⟩ : ∃ d, d = distW W y N wet (W - 1) := ⟨_, rfl⟩
      have hlast : ∀ {t : Int} {L pre : List Int}, LI W y N wet d t N pre L → 1 ≤ t → L = iL N (lvl d (t + 1)) := fun {t L pre} h ht => by rw [hd] at h ⊢; exact h.last hW0 hcl ht
      have hput : ∀ {t j k : Int} {pre L : List Int}, LI W y N wet d t j pre L → 1 ≤ t → d j = some (t - 1) → k ∈ nbW W y N wet j → hL L k = 0 → LI W y N wet d t j (pre ++ [k]) (L.set k.toNat (t + 1)) := fun {t j k pre L} h ht hj hk hz => by rw [hd] at h hj ⊢; exact h.put hW0 hcl ht hj hk hz
      have hall : iL N (lvl d ((N : Int) + 1)) = iL N (lef d) := by rw [hd]; exact lvl_all hW0 hcl
      have hdw : ∀ {i m : Int}, d i = some m → (0 ≤ i ∧ i < N) ∧ wet i = true := fun {i m} h => by rw [hd] at h; exact distW_dom hW0 hcl h
      rw [← hd]
      clear hd
      repeat ((conv => whnf); first | refine br_f (by omega) ?_ | refine fun (K' : K3) hK' => ?_ | (refine hK' _ _ _ ?_; clear hK' K'))
      refine Tri.loop (γ := Nat) (fun t => 1 ≤ t ∧ t ≤ N + 1) (fun t => [(2, V.c (.ptr 2 0)), (5, V.c (.sl 3 N)), (6, V.c (.sl 4 N)), (9, V.i (t : Nat))])
        (fun t => [⟨4, .vec 3 1, (iL N (lvl d t)).map C.i⟩, ⟨3, .vec 4 1, (bL N wet).map C.bool⟩, ⟨2, .own 24, [C.i W, C.i y, .sl 0 N]⟩, ⟨0, .ro 0, cs.map C.i⟩, ⟨1, .ro 0, cellC bs⟩]) 5 (fun t => N + 1 - t) 1 (R0 := []) ?_ ?_ ?_
      · exact ⟨Nat.le_refl _, by omega⟩
      · skip
        refine ⟨?_, ?_, rfl, rfl, by exact Nat.le_of_ble_eq_true rfl⟩
        · repeat (first | exact trivial | (refine And.intro (covS_syn (by rfl) rfl (by first | exact trivial | exact Nat.le_of_ble_eq_true rfl)) ?_))
        · repeat (first | exact trivial | (refine And.intro (covE_id (Nat.le_of_ble_eq_true rfl) (by first | exact wf_ints _ _ | exact wf_bools _ _ | first | exact wf_cells _ _ | simp [C.wf]) rfl (by rfl)) ?_))
      · rintro t ⟨ht1, ht2⟩
        refine vc_ok tok ?_
        by_cases htn : t ≤ N
        · repeat ((conv => whnf); first | refine br_t (by omega) ?_ | refine fun (K' : K3) hK' => ?_ | (refine hK' _ _ _ ?_; clear hK' K'))
          refine Tri.loop (γ := Nat × List Int) (fun g => g.1 ≤ N ∧ LI W y N wet d t g.1 [] g.2) (fun g => [(2, V.c (.ptr 2 0)), (5, V.c (.sl 3 N)), (6, V.c (.sl 4 N)), (9, V.i (t : Nat)), (47, V.c (.sl 4 N)), (48, V.i N), (49, V.i (g.1 : Nat))])
            (fun g => [⟨4, .vec 3 1, g.2.map C.i⟩, ⟨3, .vec 4 1, (bL N wet).map C.bool⟩, ⟨2, .own 24, [C.i W, C.i y, .sl 0 N]⟩, ⟨0, .ro 0, cs.map C.i⟩, ⟨1, .ro 0, cellC bs⟩]) 5 (fun g => N - g.1) (0, iL N (lvl d t)) (R0 := []) ?_ ?_ ?_
          · exact ⟨by simp only; omega, LI.start d t⟩
          · skip
            refine ⟨?_, ?_, rfl, rfl, by exact Nat.le_of_ble_eq_true rfl⟩
            · repeat (first | exact trivial | (refine And.intro (covS_syn (by rfl) rfl (by first | exact trivial | exact Nat.le_of_ble_eq_true rfl)) ?_))
            · repeat (first | exact trivial | (refine And.intro (covE_id (Nat.le_of_ble_eq_true rfl) (by first | exact wf_ints _ _ | exact wf_bools _ _ | first | exact wf_cells _ _ | simp [C.wf]) rfl (by rfl)) ?_))
          · rintro ⟨j, L⟩ ⟨hj, hI⟩
            simp only at hj hI ⊢
            refine vc_ok tok ?_
            have hLl := hI.len
            have hLm : (L.map C.i).length = N := by simp [hLl]
            by_cases hjl : j < N
            · have hld := intL (l := L) (k := j) (by omega)
              have htold := hI.told (by omega) (by omega) (by omega)
              have hLj : hL L (j : Int) = L.getD j 0 := by unfold hL; rw [Int.toNat_natCast]
              rw [hLj] at htold
              obtain ⟨x, hx⟩ : ∃ x, x = L.getD j 0 := ⟨_, rfl⟩
              rw [← hx] at hld htold
              by_cases hxt : x = t
              · have hdj := htold.1 hxt
                have hbe := beside_spec W y N (j : Int) false (by omega) (by omega) (by omega)
                have hne := fun x (hx : x ∈ nearL W y false (j : Int)) => near_in hW0 hx
                have hlen := near_len W y false (j : Int)
                have hnbi : ∀ k, k ∈ nbW W y N wet (j : Int) ↔ k ∈ nearL W y false (j : Int) ∧ wet k = true := fun k => by
                  rw [nbW_iff]
                  exact ⟨fun h => h.2.2, fun h => ⟨by omega, (hdw hdj).2, h⟩⟩
                obtain ⟨nl, hnl⟩ : ∃ nl, nl = nearL W y false (j : Int) := ⟨_, rfl⟩
                rw [← hnl] at hbe hne hlen
                simp only [← hnl] at hnbi
                repeat ((conv => whnf); first | (refine And.intro (by first | omega | (dsimp only [inK]; omega)) ?_) | with_reducible refine ld (hld) ?_ | refine Exists.intro _ (And.intro rfl ?_) | refine br_t (by omega) ?_ | refine br_f (by omega) ?_ | refine fun (K' : K3) hK' => ?_ | (refine hK' _ _ _ ?_; clear hK' K') | refine CallK.den (vs := [V.agg [C.i W, C.i y, C.sl 0 N], V.i (j : Int), V.c (.bool false)]) (fun ρ => rfl) (by simp [V.wf, A.wf, C.wf]) (CallK.intsR (R := []) hbe (by kernel_rfl) rfl (by simp [V.wf, A.wf, C.wf]) trivial rfl ?_) | refine CallK.m ?_)
                refine Tri.loop (γ := Nat × List Int) (fun g => g.1 ≤ nl.length ∧ LI W y N wet d t j (nl.take g.1) g.2) (fun g => [(2, V.c (.ptr 2 0)), (5, V.c (.sl 3 N)), (6, V.c (.sl 4 N)), (9, V.i (t : Nat)), (47, V.c (.sl 4 N)), (48, V.i N), (49, V.i (j : Nat)), (59, V.c (.sl 5 nl.length)), (60, V.i nl.length), (61, V.i (g.1 : Nat))])
                  (fun g => [⟨5, .vec 3 1, nl.map C.i⟩, ⟨4, .vec 3 1, g.2.map C.i⟩, ⟨3, .vec 4 1, (bL N wet).map C.bool⟩, ⟨2, .own 24, [C.i W, C.i y, .sl 0 N]⟩, ⟨0, .ro 0, cs.map C.i⟩, ⟨1, .ro 0, cellC bs⟩]) 6 (fun g => nl.length - g.1) (0, L) (R0 := []) ?_ ?_ ?_
                · exact ⟨Nat.zero_le _, hI⟩
                · skip
                  refine ⟨?_, ?_, rfl, rfl, by exact Nat.le_of_ble_eq_true rfl⟩
                  · repeat (first | exact trivial | (refine And.intro (covS_syn (by rfl) rfl (by first | exact trivial | exact Nat.le_of_ble_eq_true rfl)) ?_))
                  · repeat (first | exact trivial | (refine And.intro (covE_id (Nat.le_of_ble_eq_true rfl) (by first | exact wf_ints _ _ | exact wf_bools _ _ | first | exact wf_cells _ _ | simp [C.wf]) rfl (by rfl)) ?_))
                · rintro ⟨m, L2⟩ ⟨hm, hI2⟩
                  simp only at hm hI2 ⊢
                  refine vc_ok tok ?_
                  have hL2 := hI2.len
                  have hL2m : (L2.map C.i).length = N := by simp [hL2]
                  by_cases hml : m < nl.length
                  · have hldk := intL hml
                    have hkk := hne _ (getD_mem hml)
                    have htk : nl.take (m + 1) = nl.take m ++ [nl.getD m 0] := by
                      rw [List.take_add_one, List.getElem?_eq_getElem hml, List.getD_eq_getElem?_getD, List.getElem?_eq_getElem hml]; rfl
                    have hmem := getD_mem hml
                    obtain ⟨k, hk⟩ : ∃ k : Nat, (k : Int) = nl.getD m 0 := ⟨(nl.getD m 0).toNat, by omega⟩
                    rw [← hk] at hldk hkk htk hmem
                    have hkl : k < N := by omega
                    have hldb := boolL (l := bL N wet) (k := k) (by omega)
                    rw [bL_get hkl] at hldb
                    have hldo := intL (l := L2) (k := k) (by omega)
                    have hLk : hL L2 (k : Int) = L2.getD k 0 := by unfold hL; rw [Int.toNat_natCast]
                    rw [← hLk] at hldo
                    have hnk := hnbi (k : Int)
                    obtain ⟨xk, hxk⟩ : ∃ xk, xk = hL L2 (k : Int) := ⟨_, rfl⟩
                    rw [← hxk] at hldo
                    cases hw : wet (k : Int) with
                    | false =>
                      rw [hw] at hldb
                      repeat ((conv => whnf); first | (refine And.intro (by first | omega | (dsimp only [inK]; omega) | (simp only [setL_length, List.length_map]; omega)) ?_) | with_reducible refine ld (hldk) ?_ | with_reducible refine ld (hldb) ?_ | refine br_t (by omega) ?_ | refine fun (K' : K3) hK' => ?_ | (refine hK' _ _ _ ?_; clear hK' K') | refine br_bf rfl ?_)
                      refine ⟨(m + 1, L2), [], ⟨by simp only; omega, ?_⟩, by simp only; omega, ?_⟩
                      · simp only; rw [htk]; exact hI2.skip fun h => by have := (hnk.1 h).2; rw [hw] at this; cases this
                      · skip
                        refine ⟨?_, ?_, rfl, rfl, by exact Nat.le_of_ble_eq_true rfl⟩
                        · repeat (first | exact trivial | (refine And.intro (covS_syn (by rfl) rfl (by first | exact trivial | exact Nat.le_of_ble_eq_true rfl)) ?_))
                        · repeat (first | exact trivial | (refine And.intro (covE_id (Nat.le_of_ble_eq_true rfl) (by first | exact wf_ints _ _ | exact wf_bools _ _ | first | exact wf_cells _ _ | simp [C.wf]) rfl (by rfl)) ?_))
                    | true =>
                      rw [hw] at hldb
                      by_cases hz : xk = 0
                      · have hcell : setL (L2.map C.i) (mulS ((k : Nat) : Int).toNat 1) [C.i ((t : Int) + 1)] = (L2.set k ((t : Int) + 1)).map C.i := setL_int rfl
                        have hpt := hput hI2 (by omega) hdj (hnk.2 ⟨hmem, hw⟩) (by rw [← hxk]; exact hz)
                        rw [Int.toNat_natCast] at hpt
                        repeat ((conv => whnf); first | (refine And.intro (by first | omega | (dsimp only [inK]; omega) | (simp only [mulS_eq]; omega) | (simp only [setL_length, List.length_map]; omega)) ?_) | with_reducible refine ld (hldk) ?_ | with_reducible refine ld (hldb) ?_ | with_reducible refine ld (hldo) ?_ | refine br_t (by omega) ?_ | refine fun (K' : K3) hK' => ?_ | (refine hK' _ _ _ ?_; clear hK' K') | refine br_bt rfl ?_)
                        refine ⟨(m + 1, L2.set k ((t : Int) + 1)), [], ⟨by simp only; omega, ?_⟩, by simp only; omega, ?_⟩
                        · simp only; rw [htk]; exact hpt
                        · skip
                          refine ⟨?_, ?_, rfl, rfl, by exact Nat.le_of_ble_eq_true rfl⟩
                          · repeat (first | exact trivial | (refine And.intro (covS_syn (by rfl) rfl (by first | exact trivial | exact Nat.le_of_ble_eq_true rfl)) ?_))
                          · repeat (first | exact trivial | (refine And.intro (covE_id (Nat.le_of_ble_eq_true rfl) (by first | exact wf_ints _ _ | exact wf_bools _ _ | first | exact wf_cells _ _ | simp [C.wf]) rfl (by first | rfl | exact hcell)) ?_))
                      · repeat ((conv => whnf); first | (refine And.intro (by first | omega | (dsimp only [inK]; omega) | (simp only [setL_length, List.length_map]; omega)) ?_) | with_reducible refine ld (hldk) ?_ | with_reducible refine ld (hldb) ?_ | with_reducible refine ld (hldo) ?_ | refine br_t (by omega) ?_ | refine br_f (by omega) ?_ | refine fun (K' : K3) hK' => ?_ | (refine hK' _ _ _ ?_; clear hK' K') | refine br_bt rfl ?_)
                        refine ⟨(m + 1, L2), [], ⟨by simp only; omega, ?_⟩, by simp only; omega, ?_⟩
                        · simp only; rw [htk]; exact hI2.skip fun _ => by rw [← hxk]; exact hz
                        · skip
                          refine ⟨?_, ?_, rfl, rfl, by exact Nat.le_of_ble_eq_true rfl⟩
                          · repeat (first | exact trivial | (refine And.intro (covS_syn (by rfl) rfl (by first | exact trivial | exact Nat.le_of_ble_eq_true rfl)) ?_))
                          · repeat (first | exact trivial | (refine And.intro (covE_id (Nat.le_of_ble_eq_true rfl) (by first | exact wf_ints _ _ | exact wf_bools _ _ | first | exact wf_cells _ _ | simp [C.wf]) rfl (by rfl)) ?_))
                  · have hme : m = nl.length := by omega
                    subst hme
                    rw [List.take_length] at hI2
                    repeat ((conv => whnf); first | (refine And.intro (by first | omega | (dsimp only [inK]; omega)) ?_) | refine br_f (by omega) ?_ | refine fun (K' : K3) hK' => ?_ | (refine hK' _ _ _ ?_; clear hK' K'))
                    refine ⟨(j + 1, L2), [], ⟨by simp only; omega, ?_⟩, by simp only; omega, ?_⟩
                    · have := hI2.row (by omega) (fun _ k hk => ((hnbi k).1 hk).1)
                      simpa using this
                    · skip
                      refine ⟨?_, ?_, rfl, rfl, by exact Nat.le_of_ble_eq_true rfl⟩
                      · repeat (first | exact trivial | (refine And.intro (covS_syn (by rfl) rfl (by first | exact trivial | exact Nat.le_of_ble_eq_true rfl)) ?_))
                      · repeat (first | exact trivial | (refine And.intro (covE_id (Nat.le_of_ble_eq_true rfl) (by first | exact wf_ints _ _ | exact wf_bools _ _ | first | exact wf_cells _ _ | simp [C.wf]) rfl (by rfl)) ?_))
              · have hrow := hI.row (by omega) (fun h => absurd (htold.2 h) hxt)
                repeat ((conv => whnf); first | (refine And.intro (by first | omega | (dsimp only [inK]; omega)) ?_) | with_reducible refine ld (hld) ?_ | refine br_t (by omega) ?_ | refine fun (K' : K3) hK' => ?_ | (refine hK' _ _ _ ?_; clear hK' K'))
                refine ⟨(j + 1, L), [], ⟨by simp only; omega, by simpa using hrow⟩, by simp only; omega, ?_⟩
                refine ⟨?_, ?_, rfl, rfl, by exact Nat.le_of_ble_eq_true rfl⟩
                · repeat (first | exact trivial | (refine And.intro (covS_syn (by rfl) rfl (by first | exact trivial | exact Nat.le_of_ble_eq_true rfl)) ?_))
                · repeat (first | exact trivial | (refine And.intro (covE_id (Nat.le_of_ble_eq_true rfl) (by first | exact wf_ints _ _ | exact wf_bools _ _ | first | exact wf_cells _ _ | simp [C.wf]) rfl (by rfl)) ?_))
            · have hjn : j = N := by omega
              subst hjn
              have hfin := hlast hI (by omega)
              repeat ((conv => whnf); first | (refine And.intro (by first | omega | (dsimp only [inK]; omega)) ?_) | refine br_f (by omega) ?_ | refine fun (K' : K3) hK' => ?_ | (refine hK' _ _ _ ?_; clear hK' K'))
              refine ⟨t + 1, [], by omega, by omega, ?_⟩
              rw [hfin]
              refine ⟨?_, ?_, rfl, rfl, by exact Nat.le_of_ble_eq_true rfl⟩
              · repeat (first | exact trivial | (refine And.intro (covS_syn (by rfl) rfl (by first | exact trivial | exact Nat.le_of_ble_eq_true rfl)) ?_))
              · repeat (first | exact trivial | (refine And.intro (covE_id (Nat.le_of_ble_eq_true rfl) (by first | exact wf_ints _ _ | exact wf_bools _ _ | first | exact wf_cells _ _ | simp [C.wf]) rfl (by rfl)) ?_))
        · have htn' : t = N + 1 := by omega
          subst htn'
          repeat ((conv => whnf); first | refine br_f (by omega) ?_ | refine fun (K' : K3) hK' => ?_ | (refine hK' _ _ _ ?_; clear hK' K'))
          have e : iL N (lvl d ((N + 1 : Nat) : Int)) = iL N (lef d) := hall
          rw [e]
          exact ⟨4, by rw [iL_len]; rfl, rfl⟩
end Go.Proofs.Ytbhpnhcdjmcaoaa

/- Boom: charts that are told cell by cell. -/
namespace Go.Proofs.Ytbhpnhcdjmcaoaa
open Go.RowKit
set_option linter.unusedVariables false
set_option linter.unusedSimpArgs false
def chgL (cs : List Int) (g : Int → Int) : List Int := (List.range cs.length).map fun i : Nat => g (i : Int)
def chgK (g : Int → Int) (k : Nat) : List Int := (List.range k).map fun i : Nat => g (i : Int)
theorem chgL_len (cs : List Int) (g : Int → Int) : (chgL cs g).length = cs.length := by simp [chgL]
def dryG (W H : Int) (cs : List Int) (bs : List Cell) (i : Int) : Int := if boomF W H bs i then -1 else cs.getD i.toNat 0
def turnI (W H i : Int) : Int := (H - 1 - i / W) * W + i % W
def turnG (W H : Int) (cs : List Int) (i : Int) : Int := cs.getD (turnI W H i).toNat 0
def strG (cs : List Int) (most : Int) (i : Int) : Int := if cs.getD i.toNat 0 > most then 0 else cs.getD i.toNat 0
theorem turnI_bd {W H i : Int} (hW : 0 < W) (hi : 0 ≤ i) (hn : i < W * H) : 0 ≤ turnI W H i ∧ turnI W H i < W * H := by
  have h1 := Int.emod_nonneg i (show W ≠ 0 by omega)
  have h2 := Int.emod_lt_of_pos i hW
  have h4 : 0 ≤ i / W := Int.ediv_nonneg hi (by omega)
  have h5 : i / W < H := Int.ediv_lt_of_lt_mul hW (by rw [Int.mul_comm]; exact hn)
  unfold turnI
  have h6 : 0 ≤ (H - 1 - i / W) * W := Int.mul_nonneg (by omega) (by omega)
  have h7 : (H - 1 - i / W) * W ≤ (H - 1) * W := Int.mul_le_mul_of_nonneg_right (by omega) (by omega)
  have h8 : (H - 1) * W = W * H - W := by rw [Int.sub_mul, Int.mul_comm H W]; omega
  omega
/-- A chart that comes about, and an error. -/
def chgR (W H : Int) (l : List Int) (v : V) (L' : List E) : Prop := ∃ lab, v = V.agg [C.i W, C.i H, .sl lab l.length] ∧ find L' lab = some ⟨lab, .vec 3 1, l.map C.i⟩

end Go.Proofs.Ytbhpnhcdjmcaoaa

/- Boom: Dry, Turned, Strong. -/
namespace Go.Proofs.Ytbhpnhcdjmcaoaa
open Go.RowKit
set_option linter.unusedVariables false
set_option linter.unusedSimpArgs false
section
variable {P : Program} {n0 nx nac : Nat} {f : FuncId} {vs vs' : List V} {Lc L : List E} {R : Rn} {K : V → List E → Nat → Prop}
theorem CallK.chg {W H : Int} {l : List Int} (spec : Spec P f vs Lc nac (fun v L' _ => chgR W H l v L')) (hok : callB P f = true)
    (hv : renVs R vs = some vs') (hvw : ∀ v ∈ vs, v.wf nac) (hL : roL R nac L Lc) (hLc : injB [] Lc = true)
    (hK : K (V.agg [C.i W, C.i H, .sl nx l.length]) [⟨nx, .vec 3 1, l.map C.i⟩] (nx + 1)) : CallK P n0 f vs' L nx K := by
  refine CallK.mk' hok spec hv hvw hL hLc ?_
  rintro v L' nx' hw ⟨lab, rfl, hf⟩
  refine ⟨V.agg [C.i W, C.i H, .sl nx l.length], [⟨nx, .vec 3 1, l.map C.i⟩], nx + 1, [(nx, some lab)], ⟨Nat.le_succ _, ?_, ?_, ⟨covE_some (renL_one _ _) (Nat.lt_succ_self nx) (wf_ints _ _) hf (ren_ints _ _), trivial⟩, rfl, ?_⟩, hK⟩
  · simp [V.ren, A.ren, C.ren, renL_one, C.i, seqO]
  · simp [V.chk, A.chk, C.chk, inLab_one, C.i]
  · simp only [List.all_cons, List.all_nil, Bool.and_true, inLab_one, Kd.isRo, Bool.not_false, Bool.true_and]
    exact chk_ints _ _
/-- A chart and an error. -/
def chrE (o : Option (List Int)) (W H Er : Int) (v : V) (L' : List E) : Prop := match o with
  | none => v = V.tup [A.agg [C.i 0, C.i 0, .nil], A.c (C.i Er)]
  | some l => ∃ lab, v = V.tup [A.agg [C.i W, C.i H, .sl lab l.length], A.c (C.i 0)] ∧ find L' lab = some ⟨lab, .vec 3 1, l.map C.i⟩
end
def dryO (W H : Int) (cs : List Int) (bs : List Cell) : Option (List Int) := if okC W H cs = true ∧ okB W H cs bs = true then some (chgL cs (dryG W H cs bs)) else none
def dryE (W H : Int) (cs : List Int) (bs : List Cell) : Int := if okC W H cs = true then (if okB W H cs bs = true then 0 else 2) else 30
def turnO (W H : Int) (cs : List Int) : Option (List Int) := if okC W H cs = true then some (chgL cs (turnG W H cs)) else none
def turnE (W H : Int) (cs : List Int) : Int := if okC W H cs = true then 0 else 30
def strO (W H : Int) (cs : List Int) (most : Int) : Option (List Int) := if okC W H cs = true ∧ (0 ≤ most ∧ most ≤ 100) then some (chgL cs (strG cs most)) else none
def strE (W H : Int) (cs : List Int) (most : Int) : Int := if okC W H cs = true then (if 0 ≤ most ∧ most ≤ 100 then 0 else 2) else 30
end Go.Proofs.Ytbhpnhcdjmcaoaa

/- Boom, the reference: booms; Dry, Turned, Strong; charts that are the same. -/
namespace Go.Proofs.Ytbhpnhcdjmcaoaa
open Go.RowKit
set_option linter.unusedVariables false
set_option linter.unusedSimpArgs false
theorem cmp_ge (a b : Cell) : cmpC a b ≥ 0 ↔ (b.2 < a.2 ∨ (b.2 = a.2 ∧ b.1 ≤ a.1)) := by
  unfold cmpC orI cmpI
  by_cases h1 : a.2 < b.2
  · simp [h1]; omega
  · by_cases h2 : a.2 > b.2
    · simp [h1, h2]
    · have h3 : a.2 = b.2 := by omega
      simp only [h3]
      by_cases h4 : a.1 < b.1
      · simp [h4]
        try omega
      · by_cases h5 : a.1 > b.1
        · simp [h4, h5]; omega
        · simp [h4, h5]; omega
set_option maxRecDepth 10000 in
set_option maxHeartbeats 8000000 in
theorem areBooms_spec (W H : Int) (cs : List Int) (bs : List Cell) (hok : CO W H cs) (hb : bs.length ≤ 300) :
    Spec Try.prog 44 [chR W H cs.length, V.c (.sl 1 bs.length)] [⟨0, .ro 0, cs.map C.i⟩, ⟨1, .ro 0, cellC bs⟩] 2 (Is (V.c (.bool (okB W H cs bs)))) := by
  have hlm : (cs.map C.i).length = cs.length := by simp
  have hcl := cellC_len bs
  have hW := hok.w
  have hH := hok.h
  have hcn := hok.len
  have hn100 : W * H ≤ 100 := by have := Int.mul_le_mul hW.2 hH.2 (by omega) (by omega : (0:Int) ≤ 10); omega
  refine Spec.of tok Try.func44 rfl rfl rfl fun n0 cx => vc_ok tok ?_
  repeat ((conv => whnf); first | refine fun (K' : K3) hK' => ?_ | (refine hK' _ _ _ ?_; clear hK' K'))
  refine Tri.loop (γ := Nat) (fun k => k ≤ bs.length ∧ okBk W H cs bs k = true ∧ (0 < k → onB W H (bs.getD (k - 1) (0, 0)).1 (bs.getD (k - 1) (0, 0)).2 = true)) (fun k => [(1, V.c (.sl 1 bs.length)), (2, V.c (.ptr 2 0)), (7, V.c (.sl 1 bs.length)), (8, V.i bs.length), (9, V.i (k : Nat))])
    (fun k => [⟨2, .own 24, [C.i W, C.i H, .sl 0 cs.length]⟩, ⟨1, .ro 0, cellC bs⟩, ⟨0, .ro 0, cs.map C.i⟩]) 3 (fun k => bs.length - k) 0 (R0 := []) ?_ ?_ ?_
  · exact ⟨by omega, rfl, by omega⟩
  · skip
    refine ⟨?_, ?_, rfl, rfl, by exact Nat.le_of_ble_eq_true rfl⟩
    · repeat (first | exact trivial | (refine And.intro (covS_syn (by rfl) rfl (by first | exact trivial | exact Nat.le_of_ble_eq_true rfl)) ?_))
    · repeat (first | exact trivial | (refine And.intro (covE_id (Nat.le_of_ble_eq_true rfl) (by first | exact wf_ints _ _ | first | exact wf_cells _ _ | exact wf_zc _ | simp [C.wf]) rfl (by rfl)) ?_))
  · rintro k ⟨hk, hokk, hprev⟩
    refine vc_ok tok ?_
    by_cases hlt : k < bs.length
    · have hbad : badK W H cs bs k = (decide (idxC W H (bs.getD k (0, 0)) < 0) || (decide (cs.getD (idxC W H (bs.getD k (0, 0))).toNat 0 ≤ 0) || (decide ((k : Int) > 0) && decide (cmpC (bs.getD (k - 1) (0, 0)) (bs.getD k (0, 0)) ≥ 0)))) := rfl
      have hld := cellT (l := bs) (k := k) rfl hlt
      have hno := fun h => okBk_false (W := W) (H := H) (cs := cs) hlt h
      have hon := on_spec W H cs.length (bs.getD k (0, 0)).1 (bs.getD k (0, 0)).2
      have hne : (k + 1 - 1 : Nat) = k := by omega
      obtain ⟨p, hp⟩ : ∃ p, p = bs.getD k (0, 0) := ⟨_, rfl⟩
      rw [← hp] at hbad hld hon
      cases ho : onB W H p.1 p.2 with
      | false =>
        have hlt0 : idxC W H p < 0 := by have := idxI_off ho; unfold idxC; omega
        have hr := hno (by rw [hbad, dd_t hlt0]; rfl)
        repeat ((conv => whnf); first | (refine And.intro (by first | omega | exact Nat.le_of_ble_eq_true rfl | (dsimp only [inK]; omega)) ?_) | with_reducible refine ld (hld) ?_ | refine Exists.intro _ (And.intro rfl ?_) | refine br_t (by omega) ?_ | refine fun (K' : K3) hK' => ?_ | (refine hK' _ _ _ ?_; clear hK' K') | refine draw_auto tok mixed (by kernel_rfl) ?_ | refine HD_mk (fun _ h => CallK.val (R := []) hon (by kernel_rfl) rfl (by simp [V.wf, A.wf, C.wf]) trivial rfl rfl trivial h) ?_ | refine bs_bt (congrArg Bool.not ho) ?_)
        intro ρ; rw [hr]; rfl
      | true =>
        have hpo := onB_t ho
        obtain ⟨q1, q2⟩ := idxI_on ho
        have hil := (idxI_lt (by omega) q2).1
        have hix := rindex_spec W H cs.length p.1 p.2 (by omega) (by omega) (by omega)
        obtain ⟨i, hi⟩ : ∃ i : Nat, (i : Int) = p.2 * W + p.1 := ⟨(p.2 * W + p.1).toNat, by omega⟩
        have hie : idxC W H p = i := by unfold idxC; omega
        rw [← hi] at hix
        rw [hie, dd_f (show ¬ (i : Int) < 0 by omega), Bool.false_or, Int.toNat_natCast] at hbad
        have hldc := intL (l := cs) (k := i) (by unfold idxC at hie; omega)
        have hic : i < cs.length := by unfold idxC at hie; omega
        obtain ⟨ci, hci⟩ : ∃ ci, ci = cs.getD i 0 := ⟨_, rfl⟩
        rw [← hci] at hldc hbad
        by_cases g1 : ci ≤ 0
        · have hr := hno (by rw [hbad, dd_t g1]; rfl)
          repeat ((conv => whnf); first | (refine And.intro (by first | omega | exact Nat.le_of_ble_eq_true rfl | (dsimp only [inK]; omega)) ?_) | with_reducible refine ld (hld) ?_ | with_reducible refine ld (hldc) ?_ | refine Exists.intro _ (And.intro rfl ?_) | refine br_t (by omega) ?_ | refine bs_t (by omega) ?_ | refine fun (K' : K3) hK' => ?_ | (refine hK' _ _ _ ?_; clear hK' K') | refine draw_auto tok mixed (by kernel_rfl) ?_ | refine HD_mk (fun _ h => CallK.val (R := []) hon (by kernel_rfl) rfl (by simp [V.wf, A.wf, C.wf]) trivial rfl rfl trivial h) ?_ | refine bs_bf (congrArg Bool.not ho) ?_ | refine HD_mk (fun _ h => CallK.val (R := []) hix (by kernel_rfl) rfl (by simp [V.wf, A.wf, C.wf]) trivial rfl rfl trivial h) ?_)
          intro ρ; rw [hr]; rfl
        · rw [dd_f g1, Bool.false_or] at hbad
          by_cases g2 : (k : Int) > 0
          · rw [dd_t g2, Bool.true_and] at hbad
            have hqo := onB_t (hprev (by omega))
            have hl0 := cellL0 (l := bs) (k := k - 1) (z := (k : Int) - 1) (by omega) (by omega)
            have hl1 := cellL1 (l := bs) (k := k - 1) (z := (k : Int) - 1) (by omega) (by omega)
            have hge := cmp_ge (bs.getD (k - 1) (0, 0)) p
            obtain ⟨q, hq⟩ : ∃ q, q = bs.getD (k - 1) (0, 0) := ⟨_, rfl⟩
            rw [← hq] at hbad hl0 hl1 hge hqo
            by_cases g3 : p.2 < q.2
            · have hr := hno (by rw [hbad, dd_t (hge.2 (.inl g3))])
              repeat ((conv => whnf); first | (refine And.intro (by first | omega | exact Nat.le_of_ble_eq_true rfl | (dsimp only [inK]; omega)) ?_) | with_reducible refine ld (hld) ?_ | with_reducible refine ld (hldc) ?_ | with_reducible refine ld (hl1) ?_ | refine Exists.intro _ (And.intro rfl ?_) | refine br_t (by omega) ?_ | refine bs_t (by omega) ?_ | refine bs_f (by omega) ?_ | refine fun (K' : K3) hK' => ?_ | (refine hK' _ _ _ ?_; clear hK' K') | refine draw_auto tok mixed (by kernel_rfl) ?_ | refine HD_mk (fun _ h => CallK.val (R := []) hon (by kernel_rfl) rfl (by simp [V.wf, A.wf, C.wf]) trivial rfl rfl trivial h) ?_ | refine bs_bf (congrArg Bool.not ho) ?_ | refine HD_mk (fun _ h => CallK.val (R := []) hix (by kernel_rfl) rfl (by simp [V.wf, A.wf, C.wf]) trivial rfl rfl trivial h) ?_)
              intro ρ; rw [hr]; rfl
            · by_cases g4 : p.2 = q.2
              · by_cases g5 : p.1 ≤ q.1
                · have hr := hno (by rw [hbad, dd_t (hge.2 (.inr ⟨g4, g5⟩))])
                  repeat ((conv => whnf); first | (refine And.intro (by first | omega | exact Nat.le_of_ble_eq_true rfl | (dsimp only [inK]; omega)) ?_) | with_reducible refine ld (hld) ?_ | with_reducible refine ld (hldc) ?_ | with_reducible refine ld (hl0) ?_ | with_reducible refine ld (hl1) ?_ | refine Exists.intro _ (And.intro rfl ?_) | refine br_t (by omega) ?_ | refine bs_f (by omega) ?_ | refine fun (K' : K3) hK' => ?_ | (refine hK' _ _ _ ?_; clear hK' K') | refine draw_auto tok mixed (by kernel_rfl) ?_ | refine HD_mk (fun _ h => CallK.val (R := []) hon (by kernel_rfl) rfl (by simp [V.wf, A.wf, C.wf]) trivial rfl rfl trivial h) ?_ | refine bs_bf (congrArg Bool.not ho) ?_ | refine HD_mk (fun _ h => CallK.val (R := []) hix (by kernel_rfl) rfl (by simp [V.wf, A.wf, C.wf]) trivial rfl rfl trivial h) ?_)
                  intro ρ; rw [hr]; rfl
                · have hgo : okBk W H cs bs (k + 1) = true := by rw [okBk_succ, hokk, hbad, dd_f (fun h => by have := hge.1 h; omega)]; rfl
                  repeat ((conv => whnf); first | (refine And.intro (by first | omega | exact Nat.le_of_ble_eq_true rfl | (dsimp only [inK]; omega)) ?_) | with_reducible refine ld (hld) ?_ | with_reducible refine ld (hldc) ?_ | with_reducible refine ld (hl0) ?_ | with_reducible refine ld (hl1) ?_ | refine Exists.intro _ (And.intro rfl ?_) | refine br_t (by omega) ?_ | refine br_f (by omega) ?_ | refine bs_f (by omega) ?_ | refine fun (K' : K3) hK' => ?_ | (refine hK' _ _ _ ?_; clear hK' K') | refine draw_auto tok mixed (by kernel_rfl) ?_ | refine HD_mk (fun _ h => CallK.val (R := []) hon (by kernel_rfl) rfl (by simp [V.wf, A.wf, C.wf]) trivial rfl rfl trivial h) ?_ | refine bs_bf (congrArg Bool.not ho) ?_ | refine HD_mk (fun _ h => CallK.val (R := []) hix (by kernel_rfl) rfl (by simp [V.wf, A.wf, C.wf]) trivial rfl rfl trivial h) ?_)
                  refine ⟨k + 1, [], ⟨by omega, hgo, fun _ => by rw [hne, ← hp]; exact ho⟩, by omega, ?_⟩
                  refine ⟨?_, ?_, rfl, rfl, by exact Nat.le_of_ble_eq_true rfl⟩
                  · repeat (first | exact trivial | (refine And.intro (covS_syn (by rfl) rfl (by first | exact trivial | exact Nat.le_of_ble_eq_true rfl)) ?_))
                  · repeat (first | exact trivial | (refine And.intro (covE_id (Nat.le_of_ble_eq_true rfl) (by first | exact wf_ints _ _ | first | exact wf_cells _ _ | exact wf_zc _ | simp [C.wf]) rfl (by rfl)) ?_))
              · have hgo : okBk W H cs bs (k + 1) = true := by rw [okBk_succ, hokk, hbad, dd_f (fun h => by have := hge.1 h; omega)]; rfl
                repeat ((conv => whnf); first | (refine And.intro (by first | omega | exact Nat.le_of_ble_eq_true rfl | (dsimp only [inK]; omega)) ?_) | with_reducible refine ld (hld) ?_ | with_reducible refine ld (hldc) ?_ | with_reducible refine ld (hl1) ?_ | refine Exists.intro _ (And.intro rfl ?_) | refine br_t (by omega) ?_ | refine br_f (by omega) ?_ | refine bs_f (by omega) ?_ | refine fun (K' : K3) hK' => ?_ | (refine hK' _ _ _ ?_; clear hK' K') | refine draw_auto tok mixed (by kernel_rfl) ?_ | refine HD_mk (fun _ h => CallK.val (R := []) hon (by kernel_rfl) rfl (by simp [V.wf, A.wf, C.wf]) trivial rfl rfl trivial h) ?_ | refine bs_bf (congrArg Bool.not ho) ?_ | refine HD_mk (fun _ h => CallK.val (R := []) hix (by kernel_rfl) rfl (by simp [V.wf, A.wf, C.wf]) trivial rfl rfl trivial h) ?_)
                refine ⟨k + 1, [], ⟨by omega, hgo, fun _ => by rw [hne, ← hp]; exact ho⟩, by omega, ?_⟩
                refine ⟨?_, ?_, rfl, rfl, by exact Nat.le_of_ble_eq_true rfl⟩
                · repeat (first | exact trivial | (refine And.intro (covS_syn (by rfl) rfl (by first | exact trivial | exact Nat.le_of_ble_eq_true rfl)) ?_))
                · repeat (first | exact trivial | (refine And.intro (covE_id (Nat.le_of_ble_eq_true rfl) (by first | exact wf_ints _ _ | first | exact wf_cells _ _ | exact wf_zc _ | simp [C.wf]) rfl (by rfl)) ?_))
          · have hgo : okBk W H cs bs (k + 1) = true := by rw [okBk_succ, hokk, hbad, dd_f g2]; rfl
            repeat ((conv => whnf); first | (refine And.intro (by first | omega | exact Nat.le_of_ble_eq_true rfl | (dsimp only [inK]; omega)) ?_) | with_reducible refine ld (hld) ?_ | with_reducible refine ld (hldc) ?_ | refine Exists.intro _ (And.intro rfl ?_) | refine br_t (by omega) ?_ | refine br_f (by omega) ?_ | refine bs_f (by omega) ?_ | refine fun (K' : K3) hK' => ?_ | (refine hK' _ _ _ ?_; clear hK' K') | refine draw_auto tok mixed (by kernel_rfl) ?_ | refine HD_mk (fun _ h => CallK.val (R := []) hon (by kernel_rfl) rfl (by simp [V.wf, A.wf, C.wf]) trivial rfl rfl trivial h) ?_ | refine bs_bf (congrArg Bool.not ho) ?_ | refine HD_mk (fun _ h => CallK.val (R := []) hix (by kernel_rfl) rfl (by simp [V.wf, A.wf, C.wf]) trivial rfl rfl trivial h) ?_)
            refine ⟨k + 1, [], ⟨by omega, hgo, fun _ => by rw [hne, ← hp]; exact ho⟩, by omega, ?_⟩
            refine ⟨?_, ?_, rfl, rfl, by exact Nat.le_of_ble_eq_true rfl⟩
            · repeat (first | exact trivial | (refine And.intro (covS_syn (by rfl) rfl (by first | exact trivial | exact Nat.le_of_ble_eq_true rfl)) ?_))
            · repeat (first | exact trivial | (refine And.intro (covE_id (Nat.le_of_ble_eq_true rfl) (by first | exact wf_ints _ _ | first | exact wf_cells _ _ | exact wf_zc _ | simp [C.wf]) rfl (by rfl)) ?_))
    · have hkl : k = bs.length := by omega
      subst hkl
      have hr : okB W H cs bs = true := hokk
      repeat ((conv => whnf); first | refine br_f (by omega) ?_ | refine fun (K' : K3) hK' => ?_ | (refine hK' _ _ _ ?_; clear hK' K'))
      intro ρ; rw [hr]; rfl
def askE (W H : Int) (cs : List Int) (bs : List Cell) : Int := if okC W H cs = true then (if okB W H cs bs = true then 0 else 2) else 30
set_option maxHeartbeats 4000000 in
theorem asked_spec (W H : Int) (cs : List Int) (bs : List Cell) (hl : cs.length ≤ 300) (hb : bs.length ≤ 300) :
    Spec Try.prog 67 [chR W H cs.length, V.c (.sl 1 bs.length)] [⟨0, .ro 0, cs.map C.i⟩, ⟨1, .ro 0, cellC bs⟩] 2 (Is (V.i (askE W H cs bs))) := by
  have hva := rvalid_spec W H cs hl
  refine Spec.of tok Try.func67 rfl rfl rfl fun n0 cx => vc_ok tok ?_
  cases hv : okC W H cs with
  | false =>
    have r : askE W H cs bs = 30 := by unfold askE; rw [hv]; rfl
    repeat ((conv => whnf); first | refine Exists.intro _ (And.intro rfl ?_) | refine fun (K' : K3) hK' => ?_ | (refine hK' _ _ _ ?_; clear hK' K') | refine CallK.val (R := []) hva (by kernel_rfl) rfl (by simp [V.wf, A.wf, C.wf]) ⟨roE_ints (l := 0) rfl (by omega) rfl (.inl rfl), trivial⟩ rfl rfl trivial ?_ | refine br_bt (congrArg Bool.not hv) ?_ | refine CallK.m ?_)
    intro ρ; rw [r]; rfl
  | true =>
    have har := areBooms_spec W H cs bs (okC_iff.1 hv) hb
    cases hB : okB W H cs bs with
    | false =>
      have r : askE W H cs bs = 2 := by unfold askE; rw [hv, hB]; rfl
      repeat ((conv => whnf); first | refine Exists.intro _ (And.intro rfl ?_) | refine fun (K' : K3) hK' => ?_ | (refine hK' _ _ _ ?_; clear hK' K') | refine CallK.val (R := []) hva (by kernel_rfl) rfl (by simp [V.wf, A.wf, C.wf]) ⟨roE_ints (l := 0) rfl (by omega) rfl (.inl rfl), trivial⟩ rfl rfl trivial ?_ | refine br_bf (congrArg Bool.not hv) ?_ | refine CallK.val (R := []) har (by kernel_rfl) rfl (by simp [V.wf, A.wf, C.wf]) ⟨roE_ints (l := 0) rfl (by omega) rfl (.inl rfl), roE_cells (l := 1) rfl (by omega) rfl (.inl rfl), trivial⟩ rfl rfl trivial ?_ | refine br_bt (congrArg Bool.not hB) ?_ | refine CallK.m ?_)
      intro ρ; rw [r]; rfl
    | true =>
      have r : askE W H cs bs = 0 := by unfold askE; rw [hv, hB]; rfl
      repeat ((conv => whnf); first | refine Exists.intro _ (And.intro rfl ?_) | refine fun (K' : K3) hK' => ?_ | (refine hK' _ _ _ ?_; clear hK' K') | refine CallK.val (R := []) hva (by kernel_rfl) rfl (by simp [V.wf, A.wf, C.wf]) ⟨roE_ints (l := 0) rfl (by omega) rfl (.inl rfl), trivial⟩ rfl rfl trivial ?_ | refine br_bf (congrArg Bool.not hv) ?_ | refine CallK.val (R := []) har (by kernel_rfl) rfl (by simp [V.wf, A.wf, C.wf]) ⟨roE_ints (l := 0) rfl (by omega) rfl (.inl rfl), roE_cells (l := 1) rfl (by omega) rfl (.inl rfl), trivial⟩ rfl rfl trivial ?_ | refine br_bf (congrArg Bool.not hB) ?_ | refine CallK.m ?_)
      intro ρ; rw [r]; rfl
/-- What comes about, cell by cell. -/
def mixL (cs : List Int) (b : Int → Bool) (g : Int → Int) : List Int := (List.range cs.length).map fun i : Nat => if b (i : Int) then g (i : Int) else cs.getD i 0
end Go.Proofs.Ytbhpnhcdjmcaoaa

/- Boom, the reference: the shortest channel that comes first, and whether booms block. -/
namespace Go.Proofs.Ytbhpnhcdjmcaoaa
open Go.RowKit
set_option linter.unusedVariables false
set_option linter.unusedSimpArgs false
/-- The first of some cells that is wanted; -1: none is. -/
def firstF (p : Int → Bool) (l : List Int) : Int := match l.find? p with
  | some k => k
  | none => -1
theorem firstF_hit {p : Int → Bool} {l : List Int} {j : Nat} (hj : j < l.length) (h0 : firstF p (l.take j) < 0) (hpos : ∀ x ∈ l, 0 ≤ x) (h : p (l.getD j 0) = true) : firstF p (l.take (j + 1)) = l.getD j 0 := by
  have hn : (l.take j).find? p = none := by
    cases hf : (l.take j).find? p with
    | none => rfl
    | some k =>
      unfold firstF at h0; rw [hf] at h0
      have := hpos k (List.mem_of_mem_take (List.mem_of_find?_eq_some hf))
      simp only at h0; omega
  unfold firstF
  rw [List.take_add_one, show l[j]?.toList = [l.getD j 0] by rw [List.getElem?_eq_getElem hj, List.getD_eq_getElem?_getD, List.getElem?_eq_getElem hj]; rfl, List.find?_append, hn]
  generalize l.getD j 0 = x at *
  simp [h]
theorem firstF_miss {p : Int → Bool} {l : List Int} {j : Nat} (hj : j < l.length) (h : p (l.getD j 0) = false) : firstF p (l.take (j + 1)) = firstF p (l.take j) := by
  unfold firstF
  rw [List.take_add_one, show l[j]?.toList = [l.getD j 0] by rw [List.getElem?_eq_getElem hj, List.getD_eq_getElem?_getD, List.getElem?_eq_getElem hj]; rfl, List.find?_append]
  generalize l.getD j 0 = x at *
  simp [h]
theorem firstF_keep {p : Int → Bool} {l : List Int} {j : Nat} (h0 : ¬ firstF p (l.take j) < 0) : firstF p (l.take (j + 1)) = firstF p (l.take j) := by
  unfold firstF at *
  rw [List.take_add_one, List.find?_append]
  cases hf : (l.take j).find? p with
  | none => rw [hf] at h0; simp at h0
  | some k => rfl
theorem lef_some {d : Int → Option Int} {i m : Int} (h : d i = some m) : lef d i = m + 1 := by unfold lef; rw [h]
theorem lef_none {d : Int → Option Int} {i : Int} (h : d i = none) : lef d i = 0 := by unfold lef; rw [h]
set_option maxRecDepth 10000 in
set_option maxHeartbeats 8000000 in
theorem rChannel_spec (W H : Int) (cs : List Int) (bs : List Cell) (hl : cs.length ≤ 300) (hb : bs.length ≤ 300) :
    Spec Try.prog 50 [chR W H cs.length, V.c (.sl 1 bs.length)] [⟨0, .ro 0, cs.map C.i⟩, ⟨1, .ro 0, cellC bs⟩] 2 (fun v L' _ => cellsE (chC W H cs bs) (chE W H cs bs) v L') := by
  have hlm : (cs.map C.i).length = cs.length := by simp
  have hli : ∀ g, ((iL cs.length g).map C.i).length = cs.length := fun g => by simp [iL]
  have hak := asked_spec W H cs bs hl hb
  unfold chC chE
  unfold askE at hak
  refine Spec.of tok Try.func50 rfl rfl rfl fun n0 cx => vc_ok tok ?_
  cases hv : okC W H cs with
  | false =>
    rw [hv] at hak
    repeat ((conv => whnf); first | refine Exists.intro _ (And.intro rfl ?_) | refine fun (K' : K3) hK' => ?_ | (refine hK' _ _ _ ?_; clear hK' K') | refine CallK.val (R := []) hak (by kernel_rfl) rfl (by simp [V.wf, A.wf, C.wf]) ⟨roE_ints (l := 0) rfl (by omega) rfl (.inl rfl), roE_cells (l := 1) rfl (by omega) rfl (.inl rfl), trivial⟩ rfl rfl trivial ?_ | refine br_bt (Eq.refl true) ?_ | refine CallK.m ?_)
    exact .inl ⟨rfl, rfl⟩
  | true =>
    cases hB : okB W H cs bs with
    | false =>
      rw [hv, hB] at hak
      repeat ((conv => whnf); first | refine Exists.intro _ (And.intro rfl ?_) | refine fun (K' : K3) hK' => ?_ | (refine hK' _ _ _ ?_; clear hK' K') | refine CallK.val (R := []) hak (by kernel_rfl) rfl (by simp [V.wf, A.wf, C.wf]) ⟨roE_ints (l := 0) rfl (by omega) rfl (.inl rfl), roE_cells (l := 1) rfl (by omega) rfl (.inl rfl), trivial⟩ rfl rfl trivial ?_ | refine br_bt (Eq.refl true) ?_ | refine CallK.m ?_)
      exact .inl ⟨rfl, rfl⟩
    | true =>
      rw [hv, hB] at hak
      have hok := okC_iff.1 hv
      have hle := left_spec W H cs bs hok hB hb
      obtain ⟨hW, hH, hcl, hcost⟩ := hok
      have hok : CO W H cs := ⟨hW, hH, hcl, hcost⟩
      have hn : (cs.length : Int) ≤ 100 := by have := Int.mul_le_mul hW.2 hH.2 (by omega) (by omega : (0:Int) ≤ 10); omega
      have hW0 : 0 < W := by omega
      obtain ⟨wet, hwet⟩ : ∃ wet, wet = wetB cs (boomF W H bs) := ⟨_, rfl⟩
      rw [← hwet] at hle ⊢
      obtain ⟨h0, rfl⟩ : ∃ h0 : Nat, H = h0 := ⟨H.toNat, by omega⟩
      have hcho : chanO W h0 cs.length wet = chanD W h0 (distW W h0 cs.length wet (W - 1)) := rfl
      have hdom : ∀ {i m : Int}, distW W h0 cs.length wet (W - 1) i = some m → 0 ≤ i ∧ i < cs.length := fun h => (distW_dom hW0 hcl h).1
      have hbd : ∀ {i m : Int}, distW W h0 cs.length wet (W - 1) i = some m → 0 ≤ m ∧ m < cs.length := fun h => distW_bd hW0 hcl h
      have hnx : ∀ {i m : Int}, distW W h0 cs.length wet (W - 1) i = some m → 0 < m → ∃ k, nextC W h0 (distW W h0 cs.length wet (W - 1)) i (m - 1) = some k ∧ distW W h0 cs.length wet (W - 1) k = some (m - 1) ∧ k ∈ nearL W h0 false i := fun h h1 => nextC_some h h1
      obtain ⟨d, hd⟩ : ∃ d, d = distW W h0 cs.length wet (W - 1) := ⟨_, rfl⟩
      rw [← hd] at hcho hle
      simp only [← hd] at hdom hbd hnx
      rw [hcho]
      unfold chanD
      rw [Int.toNat_natCast]
      clear hcho hd hwet
      have hil : (iL cs.length (lef d)).length = cs.length := iL_len _ _
      have hget : ∀ {k : Nat}, k < cs.length → ((iL cs.length (lef d)).map C.i)[mulS ((k : Nat) : Int).toNat 1]? = some (C.i (lef d k)) := fun {k} hk => by
        rw [intL (by rw [hil]; exact hk), iL_get hk]
      repeat ((conv => whnf); first | (refine And.intro (by first | omega | exact Nat.le_of_ble_eq_true rfl) ?_) | refine Exists.intro _ (And.intro rfl ?_) | refine fun (K' : K3) hK' => ?_ | (refine hK' _ _ _ ?_; clear hK' K') | refine CallK.val (R := []) hak (by kernel_rfl) rfl (by simp [V.wf, A.wf, C.wf]) ⟨roE_ints (l := 0) rfl (by omega) rfl (.inl rfl), roE_cells (l := 1) rfl (by omega) rfl (.inl rfl), trivial⟩ rfl rfl trivial ?_ | refine CallK.intsR (R := []) hle (by kernel_rfl) rfl (by simp [V.wf, A.wf, C.wf]) ⟨roE_ints (l := 0) rfl (by omega) rfl (.inl rfl), roE_cells (l := 1) rfl (by omega) rfl (.inl rfl), trivial⟩ rfl ?_ | refine br_bf (Eq.refl false) ?_ | refine CallK.m ?_)
      rw [hil]
      refine Tri.loop (γ := Nat) (fun k => k ≤ h0) (fun k => [(2, V.c (.ptr 2 0)), (7, V.c (.sl 3 cs.length)), (8, V.i (bestC W d k)), (25, V.i h0), (26, V.i (k : Nat))])
        (fun k => [⟨3, .vec 3 1, (iL cs.length (lef d)).map C.i⟩, ⟨2, .own 24, [C.i W, C.i h0, .sl 0 cs.length]⟩, ⟨0, .ro 0, cs.map C.i⟩, ⟨1, .ro 0, cellC bs⟩]) 4 (fun k => h0 - k) 0 (R0 := []) ?_ ?_ ?_
      · omega
      · skip
        refine ⟨?_, ?_, rfl, rfl, by exact Nat.le_of_ble_eq_true rfl⟩
        · repeat (first | exact trivial | (refine And.intro (covS_syn (by rfl) rfl (by first | exact trivial | exact Nat.le_of_ble_eq_true rfl)) ?_))
        · repeat (first | exact trivial | (refine And.intro (covE_id (Nat.le_of_ble_eq_true rfl) (by first | exact wf_ints _ _ | first | exact wf_cells _ _ | simp [C.wf]) rfl (by rfl)) ?_))
      · intro k hk
        refine vc_ok tok ?_
        by_cases hlt : k < h0
        · have hkw : 0 ≤ (k : Int) * W ∧ (k : Int) * W + W ≤ cs.length := by
            have h1 : 0 ≤ (k : Int) * W := Int.mul_nonneg (by omega) (by omega)
            have h2 := Int.mul_le_mul_of_nonneg_right (show (k : Int) + 1 ≤ h0 by omega) (show 0 ≤ W by omega)
            rw [Int.add_mul] at h2
            have : (h0 : Int) * W = W * h0 := Int.mul_comm _ _
            omega
          obtain ⟨i, hi⟩ : ∃ i : Nat, (i : Int) = (k : Int) * W := ⟨((k : Int) * W).toNat, by omega⟩
          have hin : i < cs.length := by omega
          have hix := rindex_spec W h0 cs.length 0 (k : Int) (by omega) (by omega) (by omega)
          rw [Int.add_zero, ← hi] at hix
          have hlk := hget hin
          have hbst : bestC W d (k + 1) = match d (i : Int) with
            | none => bestC W d k
            | some n => if bestC W d k < 0 then (i : Int) else match d (bestC W d k) with
              | none => (i : Int)
              | some b => if n < b then (i : Int) else bestC W d k := by rw [hi] <;> rfl
          cases hdk : d (i : Int) with
          | none =>
            rw [hdk] at hbst
            rw [lef_none hdk] at hlk
            repeat ((conv => whnf); first | (refine And.intro (by first | omega | (dsimp only [inK]; omega) | (simp only [setL_length, List.length_map]; omega)) ?_) | with_reducible refine ld (hlk) ?_ | refine Exists.intro _ (And.intro rfl ?_) | refine br_t (by omega) ?_ | refine br_f (by omega) ?_ | refine fun (K' : K3) hK' => ?_ | (refine hK' _ _ _ ?_; clear hK' K') | refine draw_auto tok mixed (by kernel_rfl) ?_ | refine CallK.val (R := []) hix (by kernel_rfl) rfl (by simp [V.wf, A.wf, C.wf, C.i]) trivial rfl rfl trivial ?_ | refine CallK.m ?_)
            refine ⟨k + 1, [], by omega, by omega, ?_⟩
            refine ⟨?_, ?_, rfl, rfl, by exact Nat.le_of_ble_eq_true rfl⟩
            · repeat (first | exact trivial | (refine And.intro (covS_syn (by first | rfl | (refine congrArg some (congrArg V.i ?_); first | omega | exact hbst.symm)) rfl (by first | exact trivial | exact Nat.le_of_ble_eq_true rfl)) ?_))
            · repeat (first | exact trivial | (refine And.intro (covE_id (Nat.le_of_ble_eq_true rfl) (by first | exact wf_ints _ _ | first | exact wf_cells _ _ | simp [C.wf]) rfl (by rfl)) ?_))
          | some n =>
            have hb1 := hbd hdk
            rw [hdk] at hbst
            rw [lef_some hdk] at hlk
            rcases bestC_spec hW0 d k with ⟨h1, h2⟩ | ⟨b, n', h1, h2, h3⟩
            · rw [h1] at hbst
              rw [h1]
              repeat ((conv => whnf); first | (refine And.intro (by first | omega | (dsimp only [inK]; omega) | (simp only [setL_length, List.length_map]; omega)) ?_) | with_reducible refine ld (hlk) ?_ | refine Exists.intro _ (And.intro rfl ?_) | refine br_t (by omega) ?_ | refine bs_t (by omega) ?_ | refine fun (K' : K3) hK' => ?_ | (refine hK' _ _ _ ?_; clear hK' K') | refine draw_auto tok mixed (by kernel_rfl) ?_ | refine CallK.val (R := []) hix (by kernel_rfl) rfl (by simp [V.wf, A.wf, C.wf, C.i]) trivial rfl rfl trivial ?_ | refine CallK.m ?_)
              refine ⟨k + 1, [], by omega, by omega, ?_⟩
              refine ⟨?_, ?_, rfl, rfl, by exact Nat.le_of_ble_eq_true rfl⟩
              · repeat (first | exact trivial | (refine And.intro (covS_syn (by first | rfl | (refine congrArg some (congrArg V.i ?_); first | omega | exact hbst.symm)) rfl (by first | exact trivial | exact Nat.le_of_ble_eq_true rfl)) ?_))
              · repeat (first | exact trivial | (refine And.intro (covE_id (Nat.le_of_ble_eq_true rfl) (by first | exact wf_ints _ _ | first | exact wf_cells _ _ | simp [C.wf]) rfl (by rfl)) ?_))
            · have hb2 := hbd h3
              have hbw := hdom h3
              obtain ⟨c, hc⟩ : ∃ c : Nat, (c : Int) = (b : Int) * W := ⟨((b : Int) * W).toNat, by omega⟩
              rw [h1, ← hc] at hbst ⊢
              rw [← hc] at h3 hbw
              have hlc := hget (show c < cs.length by omega)
              rw [lef_some h3] at hlc
              rw [h3] at hbst
              simp only [if_neg (show ¬ (c : Int) < 0 by omega)] at hbst
              by_cases hl' : n < n'
              · rw [if_pos hl'] at hbst
                repeat ((conv => whnf); first | (refine And.intro (by first | omega | (dsimp only [inK]; omega) | (simp only [setL_length, List.length_map]; omega)) ?_) | with_reducible refine ld (hlk) ?_ | with_reducible refine ld (hlc) ?_ | refine Exists.intro _ (And.intro rfl ?_) | refine br_t (by omega) ?_ | refine bs_f (by omega) ?_ | refine fun (K' : K3) hK' => ?_ | (refine hK' _ _ _ ?_; clear hK' K') | refine draw_auto tok mixed (by kernel_rfl) ?_ | refine CallK.val (R := []) hix (by kernel_rfl) rfl (by simp [V.wf, A.wf, C.wf, C.i]) trivial rfl rfl trivial ?_ | refine CallK.m ?_)
                refine ⟨k + 1, [], by omega, by omega, ?_⟩
                refine ⟨?_, ?_, rfl, rfl, by exact Nat.le_of_ble_eq_true rfl⟩
                · repeat (first | exact trivial | (refine And.intro (covS_syn (by first | rfl | (refine congrArg some (congrArg V.i ?_); first | omega | exact hbst.symm)) rfl (by first | exact trivial | exact Nat.le_of_ble_eq_true rfl)) ?_))
                · repeat (first | exact trivial | (refine And.intro (covE_id (Nat.le_of_ble_eq_true rfl) (by first | exact wf_ints _ _ | first | exact wf_cells _ _ | simp [C.wf]) rfl (by rfl)) ?_))
              · rw [if_neg hl'] at hbst
                repeat ((conv => whnf); first | (refine And.intro (by first | omega | (dsimp only [inK]; omega) | (simp only [setL_length, List.length_map]; omega)) ?_) | with_reducible refine ld (hlk) ?_ | with_reducible refine ld (hlc) ?_ | refine Exists.intro _ (And.intro rfl ?_) | refine br_t (by omega) ?_ | refine br_f (by omega) ?_ | refine bs_f (by omega) ?_ | refine fun (K' : K3) hK' => ?_ | (refine hK' _ _ _ ?_; clear hK' K') | refine draw_auto tok mixed (by kernel_rfl) ?_ | refine CallK.val (R := []) hix (by kernel_rfl) rfl (by simp [V.wf, A.wf, C.wf, C.i]) trivial rfl rfl trivial ?_ | refine CallK.m ?_)
                refine ⟨k + 1, [], by omega, by omega, ?_⟩
                refine ⟨?_, ?_, rfl, rfl, by exact Nat.le_of_ble_eq_true rfl⟩
                · repeat (first | exact trivial | (refine And.intro (covS_syn (by first | rfl | (refine congrArg some (congrArg V.i ?_); first | omega | exact hbst.symm)) rfl (by first | exact trivial | exact Nat.le_of_ble_eq_true rfl)) ?_))
                · repeat (first | exact trivial | (refine And.intro (covE_id (Nat.le_of_ble_eq_true rfl) (by first | exact wf_ints _ _ | first | exact wf_cells _ _ | simp [C.wf]) rfl (by rfl)) ?_))
        · have hkw : k = h0 := by omega
          subst hkw
          rcases bestC_spec hW0 d k with ⟨h1, h2⟩ | ⟨b, nb, h1, h2, h3⟩
          · have hno : d (-1) = none := by
              cases hh : d (-1) with
              | none => rfl
              | some w => have := hdom hh; omega
            rw [h1, hno]
            repeat ((conv => whnf); first | refine Exists.intro _ (And.intro rfl ?_) | refine br_t (by omega) ?_ | refine br_f (by omega) ?_ | refine fun (K' : K3) hK' => ?_ | (refine hK' _ _ _ ?_; clear hK' K'))
            exact .inl ⟨rfl, rfl⟩
          · have hb2 := hbd h3
            have hbw := hdom h3
            rw [h1, h3]
            obtain ⟨c, hc⟩ : ∃ c : Nat, (c : Int) = (b : Int) * W := ⟨((b : Int) * W).toNat, by omega⟩
            rw [← hc] at h3 hbw ⊢
            have hatb := at_spec W k cs.length (c : Int) (by omega) (by omega)
            repeat ((conv => whnf); first | (refine And.intro (by first | omega | (dsimp only [inK]; omega)) ?_) | refine Exists.intro _ (And.intro rfl ?_) | refine br_f (by omega) ?_ | refine fun (K' : K3) hK' => ?_ | (refine hK' _ _ _ ?_; clear hK' K') | refine CallK.val (R := []) hatb (by kernel_rfl) rfl (by simp [V.wf, A.wf, C.wf]) trivial rfl rfl (by simp [V.wf, A.wf, C.wf]) ?_ | refine CallK.m ?_)
            refine Tri.loop (γ := List Int × Int × Nat) (fun g => ∃ n, d g.2.1 = some n ∧ g.1 ++ pathC W k d n.toNat g.2.1 = pathC W k d nb.toNat c ∧ g.1.length = g.2.2 ∧ g.2.2 + n.toNat = nb.toNat) (fun g => [(2, V.c (.ptr 2 0)), (7, V.c (.sl 3 cs.length)), (8, V.i g.2.1), (11, V.c (.sl 4 (g.2.2 + 1)))])
              (fun g => [⟨4, .vec 57 2, cellC (cellsL W (g.1 ++ [g.2.1]))⟩, ⟨3, .vec 3 1, (iL cs.length (lef d)).map C.i⟩, ⟨2, .own 24, [C.i W, C.i k, .sl 0 cs.length]⟩, ⟨0, .ro 0, cs.map C.i⟩, ⟨1, .ro 0, cellC bs⟩]) 5 (fun g => match d g.2.1 with | some n => n.toNat | none => 0) ([], (c : Int), 0) (R0 := []) ?_ ?_ ?_
            · exact ⟨nb, h3, rfl, rfl, by simp⟩
            · skip
              refine ⟨?_, ?_, rfl, rfl, by exact Nat.le_of_ble_eq_true rfl⟩
              · repeat (first | exact trivial | (refine And.intro (covS_syn (by rfl) rfl (by first | exact trivial | exact Nat.le_of_ble_eq_true rfl)) ?_))
              · repeat (first | exact trivial | (refine And.intro (covE_id (Nat.le_of_ble_eq_true rfl) (by first | exact wf_ints _ _ | first | exact wf_cells _ _ | simp [C.wf]) rfl (by rfl)) ?_))
            · rintro ⟨pre, at_, m⟩ ⟨n, hw, hp, hlen, hlen2⟩
              simp only at hw hp hlen hlen2 ⊢
              have hwd := hbd hw
              have hat := hdom hw
              obtain ⟨a, rfl⟩ : ∃ a : Nat, at_ = a := ⟨at_.toNat, by omega⟩
              have han : a < cs.length := by omega
              have hla := hget han
              rw [lef_some hw] at hla
              have hrowl : (cellC (cellsL W (pre ++ [(a : Int)]))).length = 2 * (m + 1) := by rw [cellC_len]; simp [cellsL, hlen]
              refine vc_ok tok ?_
              by_cases h1w : 0 < n
              · obtain ⟨kn, hkn, hdn, _⟩ := hnx hw h1w
                have hbe := beside_spec W k cs.length (a : Int) false (by omega) (by omega) (by omega)
                have hfu : n.toNat = (n - 1).toNat + 1 := by omega
                have hstep : pathC W k d n.toNat a = (a : Int) :: pathC W k d (n - 1).toNat kn := by
                  rw [hfu]; simp only [pathC, hw, hkn]; rw [if_pos (by omega)]
                have hne := fun x (hx : x ∈ nearL W (k : Int) false (a : Int)) => near_in hW0 hx
                have hlen9 := near_len W (k : Int) false (a : Int)
                have hfin : firstF (fun x => decide (d x = some (n - 1))) (nearL W (k : Int) false (a : Int)) = kn := by unfold firstF; rw [show (nearL W (k : Int) false (a : Int)).find? _ = some kn from hkn]
                obtain ⟨nl, hnl⟩ : ∃ nl, nl = nearL W (k : Int) false (a : Int) := ⟨_, rfl⟩
                rw [← hnl] at hbe hne hlen9 hfin
                have hpos : ∀ x ∈ nl, 0 ≤ x := fun x hx => (hne x hx).1
                have hkn2 := hdom hdn
                repeat ((conv => whnf); first | (refine And.intro (by first | omega | (simp only [setL_length, List.length_map]; omega)) ?_) | with_reducible refine ld (hla) ?_ | refine Exists.intro _ (And.intro rfl ?_) | refine br_t (by omega) ?_ | refine fun (K' : K3) hK' => ?_ | (refine hK' _ _ _ ?_; clear hK' K') | refine CallK.den (vs := [V.agg [C.i W, C.i k, C.sl 0 cs.length], V.i (a : Int), V.c (.bool false)]) (fun ρ => rfl) (by simp [V.wf, A.wf, C.wf]) (CallK.intsR (R := []) hbe (by kernel_rfl) rfl (by simp [V.wf, A.wf, C.wf]) trivial rfl ?_) | refine CallK.m ?_)
                refine Tri.loop (γ := Nat) (fun j => j ≤ nl.length) (fun j => [(2, V.c (.ptr 2 0)), (7, V.c (.sl 3 cs.length)), (8, V.i (a : Int)), (11, V.c (.sl 4 (m + 1))), (12, V.i (firstF (fun x => decide (d x = some (n - 1))) (nl.take j))), (68, V.c (.sl 5 nl.length)), (69, V.i nl.length), (70, V.i (j : Nat))])
                  (fun j => [⟨5, .vec 3 1, nl.map C.i⟩, ⟨4, .vec 57 2, cellC (cellsL W (pre ++ [(a : Int)]))⟩, ⟨3, .vec 3 1, (iL cs.length (lef d)).map C.i⟩, ⟨2, .own 24, [C.i W, C.i k, .sl 0 cs.length]⟩, ⟨0, .ro 0, cs.map C.i⟩, ⟨1, .ro 0, cellC bs⟩]) 6 (fun j => nl.length - j) 0 (R0 := []) ?_ ?_ ?_
                · omega
                · skip
                  refine ⟨?_, ?_, rfl, rfl, by exact Nat.le_of_ble_eq_true rfl⟩
                  · repeat (first | exact trivial | (refine And.intro (covS_syn (by rfl) rfl (by first | exact trivial | exact Nat.le_of_ble_eq_true rfl)) ?_))
                  · repeat (first | exact trivial | (refine And.intro (covE_id (Nat.le_of_ble_eq_true rfl) (by first | exact wf_ints _ _ | first | exact wf_cells _ _ | simp [C.wf]) rfl (by rfl)) ?_))
                · intro j hj
                  refine vc_ok tok ?_
                  by_cases hjl : j < nl.length
                  · have hldk := intL hjl
                    have hkk := hne _ (getD_mem hjl)
                    have hit := firstF_hit (p := fun x => decide (d x = some (n - 1))) hjl
                    have hmiss := firstF_miss (p := fun x => decide (d x = some (n - 1))) hjl
                    have hkeep := firstF_keep (p := fun x => decide (d x = some (n - 1))) (l := nl) (j := j)
                    obtain ⟨kk, hkke⟩ : ∃ kk : Nat, (kk : Int) = nl.getD j 0 := ⟨(nl.getD j 0).toNat, by omega⟩
                    rw [← hkke] at hldk hkk hit hmiss
                    have hkl : kk < cs.length := by omega
                    have hlw := hget hkl
                    have hlb : 0 ≤ lef d (kk : Int) ∧ lef d (kk : Int) ≤ 101 := by
                      unfold lef
                      cases hd' : d (kk : Int) with
                      | none => simp
                      | some u => have := hbd hd'; simp only; omega
                    have hiff : lef d (kk : Int) = n ↔ d (kk : Int) = some (n - 1) := by
                      unfold lef
                      cases hd' : d (kk : Int) with
                      | none => simp only; exact ⟨fun h => by omega, fun h => by cases h⟩
                      | some u => simp only [Option.some.injEq]; omega
                    obtain ⟨xk, hxk⟩ : ∃ xk, xk = lef d (kk : Int) := ⟨_, rfl⟩
                    rw [← hxk] at hlw hlb hiff
                    obtain ⟨nf, hnf⟩ : ∃ nf, nf = firstF (fun x => decide (d x = some (n - 1))) (nl.take j) := ⟨_, rfl⟩
                    rw [← hnf] at hit hmiss hkeep
                    rw [← hnf]
                    by_cases g1 : nf < 0
                    · by_cases g2 : xk = n
                      · have hst := hit g1 hpos (dd_t (hiff.1 g2))
                        repeat ((conv => whnf); first | (refine And.intro (by first | omega | (dsimp only [inK]; omega) | (simp only [setL_length, List.length_map]; omega)) ?_) | with_reducible refine ld (hldk) ?_ | with_reducible refine ld (hlw) ?_ | with_reducible refine ld (hla) ?_ | refine br_t (by omega) ?_ | refine fun (K' : K3) hK' => ?_ | (refine hK' _ _ _ ?_; clear hK' K') | refine draw_auto tok mixed (by kernel_rfl) ?_)
                        refine ⟨j + 1, [], by omega, by omega, ?_⟩
                        refine ⟨?_, ?_, rfl, rfl, by exact Nat.le_of_ble_eq_true rfl⟩
                        · repeat (first | exact trivial | (refine And.intro (covS_syn (by first | rfl | (refine congrArg some (congrArg V.i ?_); first | omega | exact hst.symm)) rfl (by first | exact trivial | exact Nat.le_of_ble_eq_true rfl)) ?_))
                        · repeat (first | exact trivial | (refine And.intro (covE_id (Nat.le_of_ble_eq_true rfl) (by first | exact wf_ints _ _ | first | exact wf_cells _ _ | simp [C.wf]) rfl (by rfl)) ?_))
                      · have hst := hmiss (dd_f fun h => g2 (hiff.2 h))
                        repeat ((conv => whnf); first | (refine And.intro (by first | omega | (dsimp only [inK]; omega) | (simp only [setL_length, List.length_map]; omega)) ?_) | with_reducible refine ld (hldk) ?_ | with_reducible refine ld (hlw) ?_ | with_reducible refine ld (hla) ?_ | refine br_t (by omega) ?_ | refine br_f (by omega) ?_ | refine fun (K' : K3) hK' => ?_ | (refine hK' _ _ _ ?_; clear hK' K') | refine draw_auto tok mixed (by kernel_rfl) ?_)
                        refine ⟨j + 1, [], by omega, by omega, ?_⟩
                        refine ⟨?_, ?_, rfl, rfl, by exact Nat.le_of_ble_eq_true rfl⟩
                        · repeat (first | exact trivial | (refine And.intro (covS_syn (by first | rfl | (refine congrArg some (congrArg V.i ?_); first | omega | exact hst.symm)) rfl (by first | exact trivial | exact Nat.le_of_ble_eq_true rfl)) ?_))
                        · repeat (first | exact trivial | (refine And.intro (covE_id (Nat.le_of_ble_eq_true rfl) (by first | exact wf_ints _ _ | first | exact wf_cells _ _ | simp [C.wf]) rfl (by rfl)) ?_))
                    · have hst := hkeep g1
                      repeat ((conv => whnf); first | (refine And.intro (by first | omega | (dsimp only [inK]; omega) | (simp only [setL_length, List.length_map]; omega)) ?_) | with_reducible refine ld (hldk) ?_ | refine br_t (by omega) ?_ | refine br_f (by omega) ?_ | refine fun (K' : K3) hK' => ?_ | (refine hK' _ _ _ ?_; clear hK' K') | refine draw_auto tok mixed (by kernel_rfl) ?_)
                      refine ⟨j + 1, [], by omega, by omega, ?_⟩
                      refine ⟨?_, ?_, rfl, rfl, by exact Nat.le_of_ble_eq_true rfl⟩
                      · repeat (first | exact trivial | (refine And.intro (covS_syn (by first | rfl | (refine congrArg some (congrArg V.i ?_); first | omega | exact hst.symm)) rfl (by first | exact trivial | exact Nat.le_of_ble_eq_true rfl)) ?_))
                      · repeat (first | exact trivial | (refine And.intro (covE_id (Nat.le_of_ble_eq_true rfl) (by first | exact wf_ints _ _ | first | exact wf_cells _ _ | simp [C.wf]) rfl (by rfl)) ?_))
                  · have hje : j = nl.length := by omega
                    subst hje
                    rw [List.take_length, hfin]
                    have hatk := at_spec W k cs.length kn (by omega) (by omega)
                    repeat ((conv => whnf); first | (refine And.intro (by first | omega | (dsimp only [inK]; omega) | (exact ⟨rfl, rfl, rfl, Nat.le_of_ble_eq_true rfl, by dsimp only; omega, by exact Nat.le_of_ble_eq_true rfl, by omega, Nat.le_of_ble_eq_true rfl⟩)) ?_) | refine Exists.intro _ (And.intro rfl ?_) | refine br_f (by omega) ?_ | refine fun (K' : K3) hK' => ?_ | (refine hK' _ _ _ ?_; clear hK' K') | refine CallK.val (R := []) hatk (by kernel_rfl) rfl (by simp [V.wf, A.wf, C.wf]) trivial rfl rfl (by simp [V.wf, A.wf, C.wf]) ?_ | refine CallK.m ?_)
                    refine ⟨(pre ++ [(a : Int)], kn, m + 1), [(4, some 7)], ⟨_, hdn, ?_, by simp [hlen], by simp only; omega⟩, ?_, ?_⟩
                    · rw [← hp, hstep]; simp
                    · simp only [hdn, hw]; omega
                    · skip
                      refine ⟨?_, ?_, rfl, rfl, by exact Nat.le_of_ble_eq_true rfl⟩
                      · repeat (first | exact trivial | (refine And.intro (covS_syn (by rfl) rfl (by first | exact trivial | exact Nat.le_of_ble_eq_true rfl)) ?_))
                      · repeat (first | exact trivial | (refine And.intro (covE_some rfl (Nat.le_of_ble_eq_true rfl) (wf_cells _ _) rfl ((ren_cells _ _).trans (congrArg some (by simp only [cellsL]; rw [List.map_append, cellC_app]; rfl)))) ?_) | refine And.intro (covE_some rfl (Nat.le_of_ble_eq_true rfl) (wf_cells _ _) rfl (ren_cells _ _)) ?_ | (refine And.intro (covE_some rfl (Nat.le_of_ble_eq_true rfl) (by first | exact wf_ints _ _ | simp [C.wf]) rfl (by first | exact ren_ints _ _ | rfl)) ?_))
              · have hone : pathC W k d n.toNat a = [(a : Int)] := by
                  rw [show n.toNat = 0 by omega]; rfl
                rw [hone] at hp
                repeat ((conv => whnf); first | (refine And.intro (by first | omega | (simp only [setL_length, List.length_map]; omega)) ?_) | with_reducible refine ld (hla) ?_ | refine Exists.intro _ (And.intro rfl ?_) | refine br_f (by omega) ?_ | refine fun (K' : K3) hK' => ?_ | (refine hK' _ _ _ ?_; clear hK' K'))
                refine .inr ⟨4, ?_, ?_⟩
                · rw [← hp]; simp [cellsL, hlen]
                · rw [← hp]; rfl
theorem rBlocks_spec (W H : Int) (cs : List Int) (bs : List Cell) (hl : cs.length ≤ 300) (hb : bs.length ≤ 300) :
    Spec Try.prog 51 [chR W H cs.length, V.c (.sl 1 bs.length)] [⟨0, .ro 0, cs.map C.i⟩, ⟨1, .ro 0, cellC bs⟩] 2 (Is (V.tup [A.c (.bool (blB W H cs bs)), A.c (C.i (blE W H cs bs))])) := by
  have hch := rChannel_spec W H cs bs hl hb
  unfold chE at hch
  unfold blB blE
  refine Spec.of tok Try.func51 rfl rfl rfl fun n0 cx => vc_ok tok ?_
  cases hv : okC W H cs with
  | false =>
    rw [hv] at hch
    repeat ((conv => whnf); first | refine Exists.intro _ (And.intro rfl ?_) | refine fun (K' : K3) hK' => ?_ | (refine hK' _ _ _ ?_; clear hK' K') | refine CallK.cellsE (R := []) hch (by kernel_rfl) rfl (by simp [V.wf, A.wf, C.wf]) ⟨roE_ints (l := 0) rfl (by omega) rfl (.inl rfl), roE_cells (l := 1) rfl (by omega) rfl (.inl rfl), trivial⟩ rfl ?_ | refine br_bf (Eq.refl false) ?_ | refine CallK.m ?_)
    intro ρ; rfl
  | true =>
    cases hB : okB W H cs bs with
    | false =>
      rw [hv, hB] at hch
      repeat ((conv => whnf); first | refine Exists.intro _ (And.intro rfl ?_) | refine fun (K' : K3) hK' => ?_ | (refine hK' _ _ _ ?_; clear hK' K') | refine CallK.cellsE (R := []) hch (by kernel_rfl) rfl (by simp [V.wf, A.wf, C.wf]) ⟨roE_ints (l := 0) rfl (by omega) rfl (.inl rfl), roE_cells (l := 1) rfl (by omega) rfl (.inl rfl), trivial⟩ rfl ?_ | refine br_bf (Eq.refl false) ?_ | refine CallK.m ?_)
      intro ρ; rfl
    | true =>
      rw [hv, hB] at hch
      cases ho : chanO W H cs.length (wetB cs (boomF W H bs)) with
      | none =>
        rw [ho] at hch
        repeat ((conv => whnf); first | refine Exists.intro _ (And.intro rfl ?_) | refine fun (K' : K3) hK' => ?_ | (refine hK' _ _ _ ?_; clear hK' K') | refine CallK.cellsE (R := []) hch (by kernel_rfl) rfl (by simp [V.wf, A.wf, C.wf]) ⟨roE_ints (l := 0) rfl (by omega) rfl (.inl rfl), roE_cells (l := 1) rfl (by omega) rfl (.inl rfl), trivial⟩ rfl ?_ | refine br_bt (Eq.refl true) ?_ | refine CallK.m ?_)
        intro ρ; rfl
      | some l =>
        rw [ho] at hch
        repeat ((conv => whnf); first | refine Exists.intro _ (And.intro rfl ?_) | refine fun (K' : K3) hK' => ?_ | (refine hK' _ _ _ ?_; clear hK' K') | refine CallK.cellsE (R := []) hch (by kernel_rfl) rfl (by simp [V.wf, A.wf, C.wf]) ⟨roE_ints (l := 0) rfl (by omega) rfl (.inl rfl), roE_cells (l := 1) rfl (by omega) rfl (.inl rfl), trivial⟩ rfl ?_ | refine br_bf (Eq.refl false) ?_ | refine CallK.m ?_)
        intro ρ; rfl
end Go.Proofs.Ytbhpnhcdjmcaoaa

/- Boom: ref.Flooded. -/
namespace Go.Proofs.Ytbhpnhcdjmcaoaa
open Go.RowKit
set_option linter.unusedVariables false
set_option linter.unusedSimpArgs false
noncomputable def flC (W H : Int) (cs : List Int) (bs : List Cell) : List Cell := if okC W H cs && okB W H cs bs then floK W (floB W H cs.length (wetB cs (boomF W H bs))) cs.length else []
theorem anyT {g : Int → Bool} {l : List Int} {j : Nat} (h : j < l.length) : (l.take (j + 1)).any g = ((l.take j).any g || g (l.getD j 0)) := by
  rw [List.take_add_one, List.getElem?_eq_getElem h, List.getD_eq_getElem?_getD, List.getElem?_eq_getElem h, List.any_append]
  simp only [Option.toList, List.any_cons, List.any_nil, Bool.or_false, Option.getD_some]
set_option maxRecDepth 10000 in
set_option maxHeartbeats 8000000 in
theorem rFlooded_spec (W H : Int) (cs : List Int) (bs : List Cell) (hl : cs.length ≤ 300) (hb : bs.length ≤ 300) :
    Spec Try.prog 53 [chR W H cs.length, V.c (.sl 1 bs.length)] [⟨0, .ro 0, cs.map C.i⟩, ⟨1, .ro 0, cellC bs⟩] 2 (fun v L' _ => cellsE (flC W H cs bs) (blE W H cs bs) v L') := by
  have has := asked_spec W H cs bs hl hb
  unfold flC blE
  unfold askE at has
  refine Spec.of tok Try.func53 rfl rfl rfl fun n0 cx => vc_ok tok ?_
  cases hv : okC W H cs with
  | false =>
    rw [hv] at has
    repeat ((conv => whnf); first | refine Exists.intro _ (And.intro rfl ?_) | refine fun (K' : K3) hK' => ?_ | (refine hK' _ _ _ ?_; clear hK' K') | refine CallK.val (R := []) has (by kernel_rfl) rfl (by simp [V.wf, A.wf, C.wf]) ⟨roE_ints (l := 0) rfl (by omega) rfl (.inl rfl), roE_cells (l := 1) rfl (by omega) rfl (.inl rfl), trivial⟩ rfl rfl trivial ?_ | refine br_bt (Eq.refl true) ?_ | refine CallK.m ?_)
    exact .inl ⟨rfl, rfl⟩
  | true =>
    cases hB : okB W H cs bs with
    | false =>
      rw [hv, hB] at has
      repeat ((conv => whnf); first | refine Exists.intro _ (And.intro rfl ?_) | refine fun (K' : K3) hK' => ?_ | (refine hK' _ _ _ ?_; clear hK' K') | refine CallK.val (R := []) has (by kernel_rfl) rfl (by simp [V.wf, A.wf, C.wf]) ⟨roE_ints (l := 0) rfl (by omega) rfl (.inl rfl), roE_cells (l := 1) rfl (by omega) rfl (.inl rfl), trivial⟩ rfl rfl trivial ?_ | refine br_bt (Eq.refl true) ?_ | refine CallK.m ?_)
      exact .inl ⟨rfl, rfl⟩
    | true =>
      rw [hv, hB] at has
      have hok := okC_iff.1 hv
      have hop := open_spec W H cs bs hok hB hb
      obtain ⟨hW, hH, hcl, hcost⟩ := hok
      have hn : (cs.length : Int) ≤ 100 := by have := Int.mul_le_mul hW.2 hH.2 (by omega) (by omega : (0:Int) ≤ 10); omega
      have hW0 : 0 < W := by omega
      rw [show (if (true && true) = true then floK W (floB W H cs.length (wetB cs (boomF W H bs))) cs.length else []) = floK W (floB W H cs.length (wetB cs (boomF W H bs))) cs.length from rfl]
      obtain ⟨wet, hwet⟩ : ∃ wet, wet = wetB cs (boomF W H bs) := ⟨_, rfl⟩
      rw [← hwet] at hop ⊢
      obtain ⟨N, hN⟩ : ∃ N, N = cs.length := ⟨_, rfl⟩
      rw [← hN] at has hop hcl hn ⊢
      have hlb : ∀ g, ((bL N g).map C.bool).length = N := fun g => by simp [bL]
      have hbl : ∀ g, (bL N g).length = N := fun g => bL_len _ _
      repeat ((conv => whnf); first | refine Exists.intro _ (And.intro rfl ?_) | refine fun (K' : K3) hK' => ?_ | (refine hK' _ _ _ ?_; clear hK' K') | refine CallK.val (R := []) has (by kernel_rfl) rfl (by simp [V.wf, A.wf, C.wf]) ⟨roE_ints (l := 0) rfl (by omega) rfl (.inl rfl), roE_cells (l := 1) rfl (by omega) rfl (.inl rfl), trivial⟩ rfl rfl trivial ?_ | refine CallK.boolsR (R := []) hop (by kernel_rfl) rfl (by simp [V.wf, A.wf, C.wf]) ⟨roE_ints (l := 0) rfl (by omega) rfl (.inl rfl), roE_cells (l := 1) rfl (by omega) rfl (.inl rfl), trivial⟩ rfl ?_ | refine br_bf (Eq.refl false) ?_ | refine CallK.m ?_)
      rw [hbl]
      repeat ((conv => whnf); first | (refine And.intro (by first | omega | (dsimp only [inK]; omega)) ?_) | refine fun (K' : K3) hK' => ?_ | (refine hK' _ _ _ ?_; clear hK' K'))
      refine Tri.loop (γ := (Int → Bool) × Bool) (fun g => (∀ i, g.1 i = true → floB W H N wet i = true) ∧ (g.2 = false → ∀ i : Nat, i < N → g.1 i = floB W H N wet i)) (fun g => [(2, V.c (.ptr 2 0)), (7, V.c (.sl 3 N)), (8, V.c (.sl 4 N)), (9, V.c (.bool g.2))])
        (fun g => [⟨4, .vec 4 1, (bL N g.1).map C.bool⟩, ⟨3, .vec 4 1, (bL N wet).map C.bool⟩, ⟨2, .own 24, [C.i W, C.i H, .sl 0 N]⟩, ⟨0, .ro 0, cs.map C.i⟩, ⟨1, .ro 0, cellC bs⟩]) 5 (fun g => 2 * (N - cntG g.1 N) + (if g.2 = true then 1 else 0)) (fun _ => false, true) (R0 := []) ?_ ?_ ?_
      · exact ⟨fun i h => (by cases h), fun h => (by cases h)⟩
      · skip
        refine ⟨?_, ?_, rfl, rfl, by exact Nat.le_of_ble_eq_true rfl⟩
        · repeat (first | exact trivial | refine And.intro (covS_syn (by rfl) rfl (by exact Nat.le_of_ble_eq_true rfl)) ?_ | refine And.intro (covS_bool rfl rfl (by rfl)) ?_)
        · repeat (first | exact trivial | refine And.intro (covE_bools rfl (Nat.le_of_ble_eq_true rfl) rfl (toB_zero _)) ?_ | (refine And.intro (covE_id (Nat.le_of_ble_eq_true rfl) (by first | exact wf_ints _ _ | exact wf_bools _ _ | first | exact wf_cells _ _ | simp [C.wf]) rfl (by rfl)) ?_))
      · rintro ⟨g0, ag⟩ ⟨hs0, hf0⟩
        simp only at hs0 hf0 ⊢
        refine vc_ok tok ?_
        cases ag with
        | true =>
          repeat ((conv => whnf); first | refine br_t (by omega) ?_ | refine fun (K' : K3) hK' => ?_ | (refine hK' _ _ _ ?_; clear hK' K'))
          refine Tri.loop (γ := Nat × ((Int → Bool) × Bool)) (fun g => g.1 ≤ N ∧ FI W H N wet g0 g.2.1 g.2.2 g.1) (fun g => [(2, V.c (.ptr 2 0)), (7, V.c (.sl 3 N)), (8, V.c (.sl 4 N)), (9, V.c (.bool g.2.2)), (30, V.c (.sl 4 N)), (31, V.i N), (32, V.i (g.1 : Nat))])
            (fun g => [⟨4, .vec 4 1, (bL N g.2.1).map C.bool⟩, ⟨3, .vec 4 1, (bL N wet).map C.bool⟩, ⟨2, .own 24, [C.i W, C.i H, .sl 0 N]⟩, ⟨0, .ro 0, cs.map C.i⟩, ⟨1, .ro 0, cellC bs⟩]) 5 (fun g => N - g.1) (0, (g0, false)) (R0 := []) ?_ ?_ ?_
          · exact ⟨Nat.zero_le _, FI.start hs0⟩
          · skip
            refine ⟨?_, ?_, rfl, rfl, by exact Nat.le_of_ble_eq_true rfl⟩
            · repeat (first | exact trivial | (refine And.intro (covS_syn (by rfl) rfl (by first | exact trivial | exact Nat.le_of_ble_eq_true rfl)) ?_) | refine And.intro (covS_bool rfl rfl (by rfl)) ?_)
            · repeat (first | exact trivial | (refine And.intro (covE_id (Nat.le_of_ble_eq_true rfl) (by first | exact wf_ints _ _ | exact wf_bools _ _ | first | exact wf_cells _ _ | simp [C.wf]) rfl (by rfl)) ?_))
          · rintro ⟨k, g, ch⟩ ⟨hk, hI⟩
            simp only at hk hI ⊢
            refine vc_ok tok ?_
            by_cases hlt : k < N
            · have hldg := boolL (l := bL N g) (k := k) (by rw [hbl]; omega)
              rw [bL_get hlt] at hldg
              have hldw := boolL (l := bL N wet) (k := k) (by rw [hbl]; omega)
              rw [bL_get hlt] at hldw
              cases hgk : g (k : Int) with
              | true =>
                rw [hgk] at hldg
                repeat ((conv => whnf); first | (refine And.intro (by first | omega | (dsimp only [inK]; omega)) ?_) | with_reducible refine ld (hldg) ?_ | refine br_t (by omega) ?_ | refine fun (K' : K3) hK' => ?_ | (refine hK' _ _ _ ?_; clear hK' K') | refine bs_bt rfl ?_ | (refine And.intro (by refine ⟨by omega, by omega, ?_⟩; (try dsimp only); rw [hlb]; omega) ?_))
                refine ⟨(k + 1, g, ch), [], ⟨by simp only; omega, hI.keep fun _ _ => hgk⟩, by simp only; omega, ?_⟩
                refine ⟨?_, ?_, rfl, rfl, by exact Nat.le_of_ble_eq_true rfl⟩
                · repeat (first | exact trivial | (refine And.intro (covS_syn (by rfl) rfl (by first | exact trivial | exact Nat.le_of_ble_eq_true rfl)) ?_))
                · repeat (first | exact trivial | (refine And.intro (covE_id (Nat.le_of_ble_eq_true rfl) (by first | exact wf_ints _ _ | exact wf_bools _ _ | first | exact wf_cells _ _ | simp [C.wf]) rfl (by rfl)) ?_))
              | false =>
                rw [hgk] at hldg
                cases hwk : wet (k : Int) with
                | false =>
                  rw [hwk] at hldw
                  repeat ((conv => whnf); first | (refine And.intro (by first | omega | (dsimp only [inK]; omega)) ?_) | with_reducible refine ld (hldg) ?_ | with_reducible refine ld (hldw) ?_ | refine br_t (by omega) ?_ | refine fun (K' : K3) hK' => ?_ | (refine hK' _ _ _ ?_; clear hK' K') | refine bs_bf rfl ?_ | refine br_bt rfl ?_ | (refine And.intro (by refine ⟨by omega, by omega, ?_⟩; (try dsimp only); rw [hlb]; omega) ?_))
                  refine ⟨(k + 1, g, ch), [], ⟨by simp only; omega, hI.keep fun h _ => by rw [hwk] at h; cases h⟩, by simp only; omega, ?_⟩
                  refine ⟨?_, ?_, rfl, rfl, by exact Nat.le_of_ble_eq_true rfl⟩
                  · repeat (first | exact trivial | (refine And.intro (covS_syn (by rfl) rfl (by first | exact trivial | exact Nat.le_of_ble_eq_true rfl)) ?_))
                  · repeat (first | exact trivial | (refine And.intro (covE_id (Nat.le_of_ble_eq_true rfl) (by first | exact wf_ints _ _ | exact wf_bools _ _ | first | exact wf_cells _ _ | simp [C.wf]) rfl (by rfl)) ?_))
                | true =>
                  rw [hwk] at hldw
                  have hat := at_spec W H N (k : Int) (by omega) (by omega)
                  have hbe := beside_spec W H N (k : Int) false (by omega) (by omega) (by omega)
                  have hne := fun x (hx : x ∈ nearL W H false (k : Int)) => near_in hW0 hx
                  have hlen := near_len W H false (k : Int)
                  have hgr : grwB W H g (k : Int) = (decide ((k : Int) % W = 0) || (nearL W H false (k : Int)).any g) := rfl
                  obtain ⟨nl, hnl⟩ : ∃ nl, nl = nearL W H false (k : Int) := ⟨_, rfl⟩
                  rw [← hnl] at hbe hne hlen hgr
                  obtain ⟨b0, hb0⟩ : ∃ b, b = decide ((k : Int) % W = 0) := ⟨_, rfl⟩
                  repeat ((conv => whnf); first | with_reducible refine ld (hldg) ?_ | with_reducible refine ld (hldw) ?_ | refine Exists.intro _ (And.intro rfl ?_) | refine br_t (by omega) ?_ | refine fun (K' : K3) hK' => ?_ | (refine hK' _ _ _ ?_; clear hK' K') | refine bs_bf rfl ?_ | refine br_bf rfl ?_ | (refine And.intro (by refine ⟨by omega, by omega, ?_⟩; (try dsimp only); rw [hlb]; omega) ?_) | refine CallK.val (R := []) hat (by kernel_rfl) rfl (by simp [V.wf, A.wf, C.wf, V.i]) trivial rfl rfl (by simp [V.wf, A.wf, C.wf]) ?_ | refine CallK.den (vs := [V.agg [C.i W, C.i H, C.sl 0 N], V.i (k : Int), V.c (.bool false)]) (fun ρ => rfl) (by simp [V.wf, A.wf, C.wf]) (CallK.intsR (R := []) hbe (by kernel_rfl) rfl (by simp [V.wf, A.wf, C.wf]) trivial rfl ?_) | refine CallK.m ?_)
                  refine Tri.loop (γ := Nat) (fun j => j ≤ nl.length) (fun j => [(2, V.c (.ptr 2 0)), (7, V.c (.sl 3 N)), (8, V.c (.sl 4 N)), (9, V.c (.bool ch)), (10, V.i (k : Nat)), (11, V.c (.bool (b0 || (nl.take j).any g))), (30, V.c (.sl 4 N)), (31, V.i N), (32, V.i (k : Nat)), (53, V.c (.sl 5 nl.length)), (54, V.i nl.length), (55, V.i (j : Nat))])
                    (fun j => [⟨5, .vec 3 1, nl.map C.i⟩, ⟨4, .vec 4 1, (bL N g).map C.bool⟩, ⟨3, .vec 4 1, (bL N wet).map C.bool⟩, ⟨2, .own 24, [C.i W, C.i H, .sl 0 N]⟩, ⟨0, .ro 0, cs.map C.i⟩, ⟨1, .ro 0, cellC bs⟩]) 6 (fun j => nl.length - j) 0 (R0 := []) ?_ ?_ ?_
                  · omega
                  · skip
                    refine ⟨?_, ?_, rfl, rfl, by exact Nat.le_of_ble_eq_true rfl⟩
                    · repeat (first | exact trivial | (refine And.intro (covS_syn (by rfl) rfl (by first | exact trivial | exact Nat.le_of_ble_eq_true rfl)) ?_) | (refine And.intro (covS_bool rfl rfl (by first | rfl | (rw [hb0]; simp))) ?_))
                    · repeat (first | exact trivial | (refine And.intro (covE_id (Nat.le_of_ble_eq_true rfl) (by first | exact wf_ints _ _ | exact wf_bools _ _ | first | exact wf_cells _ _ | simp [C.wf]) rfl (by rfl)) ?_))
                  · intro j hj
                    refine vc_ok tok ?_
                    by_cases hjl : j < nl.length
                    · have hldk := intL hjl
                      have hkk := hne _ (getD_mem hjl)
                      have hat1 := anyT (g := g) hjl
                      obtain ⟨x, hx⟩ : ∃ x : Nat, (x : Int) = nl.getD j 0 := ⟨(nl.getD j 0).toNat, by omega⟩
                      rw [← hx] at hldk hkk hat1
                      have hxl : x < N := by omega
                      have hldx := boolL (l := bL N g) (k := x) (by rw [hbl]; omega)
                      rw [bL_get hxl] at hldx
                      cases hcu : (b0 || (nl.take j).any g) with
                      | true =>
                        have hnx : (b0 || (nl.take (j + 1)).any g) = true := by rw [hat1, ← Bool.or_assoc, hcu]; rfl
                        repeat ((conv => whnf); first | (refine And.intro (by first | omega | (dsimp only [inK]; omega) | (simp only [setL_length, List.length_map]; omega)) ?_) | with_reducible refine ld (hldk) ?_ | refine br_t (by omega) ?_ | refine fun (K' : K3) hK' => ?_ | (refine hK' _ _ _ ?_; clear hK' K') | refine bs_bt rfl ?_)
                        refine ⟨j + 1, [], by omega, by omega, ?_⟩
                        rw [hnx]
                        refine ⟨?_, ?_, rfl, rfl, by exact Nat.le_of_ble_eq_true rfl⟩
                        · repeat (first | exact trivial | (refine And.intro (covS_syn (by rfl) rfl (by first | exact trivial | exact Nat.le_of_ble_eq_true rfl)) ?_) | refine And.intro (covS_bool rfl rfl (by rfl)) ?_)
                        · repeat (first | exact trivial | (refine And.intro (covE_id (Nat.le_of_ble_eq_true rfl) (by first | exact wf_ints _ _ | exact wf_bools _ _ | first | exact wf_cells _ _ | simp [C.wf]) rfl (by rfl)) ?_))
                      | false =>
                        have hnx : (b0 || (nl.take (j + 1)).any g) = g (x : Int) := by rw [hat1, ← Bool.or_assoc, hcu]; rfl
                        repeat ((conv => whnf); first | (refine And.intro (by first | omega | (dsimp only [inK]; omega) | (simp only [setL_length, List.length_map]; omega)) ?_) | with_reducible refine ld (hldk) ?_ | with_reducible refine ld (hldx) ?_ | refine br_t (by omega) ?_ | refine fun (K' : K3) hK' => ?_ | (refine hK' _ _ _ ?_; clear hK' K') | refine bs_bf rfl ?_ | (refine And.intro (by refine ⟨by omega, by omega, ?_⟩; (try dsimp only); rw [hlb]; omega) ?_))
                        refine ⟨j + 1, [], by omega, by omega, ?_⟩
                        rw [hnx]
                        refine ⟨?_, ?_, rfl, rfl, by exact Nat.le_of_ble_eq_true rfl⟩
                        · repeat (first | exact trivial | (refine And.intro (covS_syn (by rfl) rfl (by first | exact trivial | exact Nat.le_of_ble_eq_true rfl)) ?_))
                        · repeat (first | exact trivial | (refine And.intro (covE_id (Nat.le_of_ble_eq_true rfl) (by first | exact wf_ints _ _ | exact wf_bools _ _ | first | exact wf_cells _ _ | simp [C.wf]) rfl (by rfl)) ?_))
                    · have hje : j = nl.length := by omega
                      subst hje
                      rw [List.take_length, hb0, ← hgr]
                      cases hgg : grwB W H g (k : Int) with
                      | true =>
                        repeat ((conv => whnf); first | (refine And.intro (by first | omega | (dsimp only [inK]; omega)) ?_) | refine br_f (by omega) ?_ | refine fun (K' : K3) hK' => ?_ | (refine hK' _ _ _ ?_; clear hK' K') | refine br_bt rfl ?_ | (refine And.intro (by refine ⟨by omega, by omega, ?_⟩; (try dsimp only); rw [hlb]; omega) ?_) | (refine And.intro (by (try dsimp only); rw [hlb, mulS_eq]; simp only [Int.toNat_natCast]; omega) ?_))
                        refine ⟨(k + 1, updG g k true, true), [], ⟨by simp only; omega, hI.put hW0 hcl hlt hwk hgg hgk⟩, by simp only; omega, ?_⟩
                        refine ⟨?_, ?_, rfl, rfl, by exact Nat.le_of_ble_eq_true rfl⟩
                        · repeat (first | exact trivial | (refine And.intro (covS_syn (by rfl) rfl (by first | exact trivial | exact Nat.le_of_ble_eq_true rfl)) ?_) | refine And.intro (covS_bool rfl rfl (by rfl)) ?_)
                        · repeat (first | exact trivial | refine And.intro (covE_bools rfl (Nat.le_of_ble_eq_true rfl) rfl (toB_set rfl rfl)) ?_ | (refine And.intro (covE_id (Nat.le_of_ble_eq_true rfl) (by first | exact wf_ints _ _ | exact wf_bools _ _ | first | exact wf_cells _ _ | simp [C.wf]) rfl (by rfl)) ?_))
                      | false =>
                        repeat ((conv => whnf); first | (refine And.intro (by first | omega | (dsimp only [inK]; omega)) ?_) | refine br_f (by omega) ?_ | refine fun (K' : K3) hK' => ?_ | (refine hK' _ _ _ ?_; clear hK' K') | refine br_bf rfl ?_)
                        refine ⟨(k + 1, g, ch), [], ⟨by simp only; omega, hI.keep fun _ h => by rw [hgg] at h; cases h⟩, by simp only; omega, ?_⟩
                        refine ⟨?_, ?_, rfl, rfl, by exact Nat.le_of_ble_eq_true rfl⟩
                        · repeat (first | exact trivial | (refine And.intro (covS_syn (by rfl) rfl (by first | exact trivial | exact Nat.le_of_ble_eq_true rfl)) ?_))
                        · repeat (first | exact trivial | (refine And.intro (covE_id (Nat.le_of_ble_eq_true rfl) (by first | exact wf_ints _ _ | exact wf_bools _ _ | first | exact wf_cells _ _ | simp [C.wf]) rfl (by rfl)) ?_))
            · have hke : k = N := by omega
              subst hke
              repeat ((conv => whnf); first | refine br_f (by omega) ?_ | refine fun (K' : K3) hK' => ?_ | (refine hK' _ _ _ ?_; clear hK' K'))
              have hc1 := cntG_n g k
              have hc2 := cntG_n g0 k
              have hc3 := cntG_le hI.sup k
              refine ⟨(g, ch), [], ⟨hI.snd, fun h => ?_⟩, ?_, ?_⟩
              · have h : ch = false := h
                subst h
                exact hI.fin hW0 hcl
              · cases ch with
                | true => have := hI.yes rfl; show 2 * (k - cntG g k) + 1 < 2 * (k - cntG g0 k) + 1; omega
                | false => show 2 * (k - cntG g k) + 0 < 2 * (k - cntG g0 k) + 1; omega
              · skip
                refine ⟨?_, ?_, rfl, rfl, by exact Nat.le_of_ble_eq_true rfl⟩
                · repeat (first | exact trivial | (refine And.intro (covS_syn (by rfl) rfl (by first | exact trivial | exact Nat.le_of_ble_eq_true rfl)) ?_))
                · repeat (first | exact trivial | (refine And.intro (covE_id (Nat.le_of_ble_eq_true rfl) (by first | exact wf_ints _ _ | exact wf_bools _ _ | first | exact wf_cells _ _ | simp [C.wf]) rfl (by rfl)) ?_))
        | false =>
          have hfin := hf0 rfl
          repeat ((conv => whnf); first | refine fun (K' : K3) hK' => ?_ | (refine hK' _ _ _ ?_; clear hK' K') | refine br_bf rfl ?_)
          refine Tri.loop (γ := Nat) (fun k => k ≤ N) (fun k => [(2, V.c (.ptr 2 0)), (14, V.c (.sl 6 (floK W g0 k).length)), (72, V.c (.sl 4 N)), (73, V.i N), (74, V.i (k : Nat))])
            (fun k => [⟨6, .vec 57 2, cellC (floK W g0 k)⟩, ⟨4, .vec 4 1, (bL N g0).map C.bool⟩, ⟨2, .own 24, [C.i W, C.i H, .sl 0 N]⟩, ⟨0, .ro 0, cs.map C.i⟩, ⟨1, .ro 0, cellC bs⟩]) 7 (fun k => N - k) 0 (R0 := [(6, none)]) ?_ ?_ ?_
          · omega
          · skip
            refine ⟨?_, ?_, rfl, rfl, by exact Nat.le_of_ble_eq_true rfl⟩
            · repeat (first | exact trivial | (refine And.intro (covS_syn (by rfl) rfl (by first | exact trivial | exact Nat.le_of_ble_eq_true rfl)) ?_))
            · repeat (first | exact trivial | refine And.intro (covE_bools rfl (Nat.le_of_ble_eq_true rfl) rfl (toB_bools _)) ?_ | refine And.intro (covE_some rfl (Nat.le_of_ble_eq_true rfl) (wf_cells _ _) rfl (ren_cells _ _)) ?_ | refine And.intro (covE_nil rfl (Nat.le_of_ble_eq_true rfl) rfl rfl) ?_ | (refine And.intro (covE_some rfl (Nat.le_of_ble_eq_true rfl) (by first | exact wf_ints _ _ | simp [C.wf]) rfl (by first | exact ren_ints _ _ | rfl)) ?_))
          · intro k hk
            refine vc_ok tok ?_
            by_cases hlt : k < N
            · have hldg := boolL (l := bL N g0) (k := k) (by rw [hbl]; omega)
              rw [bL_get hlt] at hldg
              have hsu := floK_succ W g0 k
              have hfl := floK_len W g0 k
              have hcf := cellC_len (floK W g0 k)
              have hat := at_spec W H N (k : Int) (by omega) (by omega)
              cases hgk : g0 (k : Int) with
              | true =>
                rw [hgk] at hldg
                rw [hgk, if_pos rfl] at hsu
                repeat ((conv => whnf); first | (refine And.intro (by first | omega | (dsimp only [inK]; omega) | (exact ⟨rfl, rfl, rfl, Nat.le_of_ble_eq_true rfl, by dsimp only; omega, by exact Nat.le_of_ble_eq_true rfl, by omega, Nat.le_of_ble_eq_true rfl⟩)) ?_) | with_reducible refine ld (hldg) ?_ | refine Exists.intro _ (And.intro rfl ?_) | refine br_t (by omega) ?_ | refine fun (K' : K3) hK' => ?_ | (refine hK' _ _ _ ?_; clear hK' K') | refine br_bt rfl ?_ | (refine And.intro (by refine ⟨by omega, by omega, ?_⟩; (try dsimp only); rw [hlb]; omega) ?_) | refine CallK.val (R := []) hat (by kernel_rfl) rfl (by simp [V.wf, A.wf, C.wf, V.i]) trivial rfl rfl (by simp [V.wf, A.wf, C.wf]) ?_ | refine CallK.m ?_)
                refine ⟨k + 1, [(6, some 8)], by omega, by omega, ?_⟩
                have hnew : cellC (floK W g0 (k + 1)) = cellC (floK W g0 k) ++ [C.i ((k : Int) % W), C.i ((k : Int) / W)] := by
                  rw [hsu, cellC_app]; rfl
                have hnl : (floK W g0 (k + 1)).length = (floK W g0 k).length + 1 := by rw [hsu, List.length_append]; rfl
                rw [hnl]
                refine ⟨?_, ?_, rfl, rfl, by exact Nat.le_of_ble_eq_true rfl⟩
                · repeat (first | exact trivial | (refine And.intro (covS_syn (by rfl) rfl (by first | exact trivial | exact Nat.le_of_ble_eq_true rfl)) ?_))
                · repeat (first | exact trivial | refine And.intro (covE_bools rfl (Nat.le_of_ble_eq_true rfl) rfl (toB_bools _)) ?_ | (refine And.intro (covE_some rfl (Nat.le_of_ble_eq_true rfl) (wf_cells _ _) rfl ((ren_cells _ _).trans (congrArg some (by rw [hnew]; rfl)))) ?_) | refine And.intro (covE_some rfl (Nat.le_of_ble_eq_true rfl) (wf_cells _ _) rfl (ren_cells _ _)) ?_ | (refine And.intro (covE_some rfl (Nat.le_of_ble_eq_true rfl) (by first | exact wf_ints _ _ | simp [C.wf]) rfl (by first | exact ren_ints _ _ | rfl)) ?_))
              | false =>
                rw [hgk] at hldg
                rw [hgk, if_neg (by simp), List.append_nil] at hsu
                repeat ((conv => whnf); first | (refine And.intro (by first | omega | (dsimp only [inK]; omega)) ?_) | with_reducible refine ld (hldg) ?_ | refine br_t (by omega) ?_ | refine fun (K' : K3) hK' => ?_ | (refine hK' _ _ _ ?_; clear hK' K') | refine br_bf rfl ?_ | (refine And.intro (by refine ⟨by omega, by omega, ?_⟩; (try dsimp only); rw [hlb]; omega) ?_))
                refine ⟨k + 1, [], by omega, by omega, ?_⟩
                rw [hsu]
                refine ⟨?_, ?_, rfl, rfl, by exact Nat.le_of_ble_eq_true rfl⟩
                · repeat (first | exact trivial | (refine And.intro (covS_syn (by rfl) rfl (by first | exact trivial | exact Nat.le_of_ble_eq_true rfl)) ?_))
                · repeat (first | exact trivial | (refine And.intro (covE_id (Nat.le_of_ble_eq_true rfl) (by first | exact wf_ints _ _ | exact wf_bools _ _ | first | exact wf_cells _ _ | simp [C.wf]) rfl (by rfl)) ?_))
            · have hke : k = N := by omega
              subst hke
              have hcg := floK_congr (W := W) hfin
              repeat ((conv => whnf); first | refine Exists.intro _ (And.intro rfl ?_) | refine br_f (by omega) ?_ | refine fun (K' : K3) hK' => ?_ | (refine hK' _ _ _ ?_; clear hK' K'))
              rw [← hcg]
              exact .inr ⟨6, rfl, rfl⟩
end Go.Proofs.Ytbhpnhcdjmcaoaa

/- Boom: Flooded. -/
namespace Go.Proofs.Ytbhpnhcdjmcaoaa
open Go.RowKit
set_option linter.unusedVariables false
set_option linter.unusedSimpArgs false
set_option maxRecDepth 10000 in
set_option maxHeartbeats 8000000 in
theorem pFlooded_spec (W H : Int) (cs : List Int) (bs : List Cell) (hl : cs.length ≤ 300) (hb : bs.length ≤ 300) :
    Spec Try.prog 52 [chR W H cs.length, V.c (.sl 1 bs.length)] [⟨0, .ro 0, cs.map C.i⟩, ⟨1, .ro 0, cellC bs⟩] 2 (fun v L' _ => cellsE (flC W H cs bs) (blE W H cs bs) v L') := by
  unfold flC blE
  refine Spec.of tok Try.func52 rfl rfl rfl fun n0 cx => ?_
  refine Tri.seq (vc_ok tok ?_)
  repeat ((conv => whnf); first | refine fun (K' : K3) hK' => ?_ | (refine hK' _ _ _ ?_; clear hK' K'))
  refine Tri.seq (vc_ok tok ?_)
  cases hv : okC W H cs with
  | false =>
    repeat ((conv => whnf); first | (refine And.intro (by first | omega | exact Nat.le_of_ble_eq_true rfl) ?_) | refine Exists.intro _ (And.intro rfl ?_) | refine fun (K' : K3) hK' => ?_ | (refine hK' _ _ _ ?_; clear hK' K') | refine CallK.newNo (a := 0) (bs := bs) (R := []) 30 hl hb (.inl ⟨hv, rfl⟩) rfl rfl ⟨roE_ints (l := 0) rfl (by omega) rfl (.inl rfl), roE_cells (l := 1) rfl (by omega) rfl (.inl rfl), trivial⟩ ?_ | refine CallK.m ?_)
    refine Tri.seq (vc_ok tok ?_)
    repeat ((conv => whnf); first | refine Exists.intro _ (And.intro rfl ?_) | refine br_t (by omega) ?_ | refine fun (K' : K3) hK' => ?_ | (refine hK' _ _ _ ?_; clear hK' K'))
    exact .inl ⟨rfl, rfl⟩
  | true =>
    cases hB : okB W H cs bs with
    | false =>
      repeat ((conv => whnf); first | (refine And.intro (by first | omega | exact Nat.le_of_ble_eq_true rfl) ?_) | refine Exists.intro _ (And.intro rfl ?_) | refine fun (K' : K3) hK' => ?_ | (refine hK' _ _ _ ?_; clear hK' K') | refine CallK.newNo (a := 0) (bs := bs) (R := []) 2 hl hb (.inr ⟨hv, hB, rfl⟩) rfl rfl ⟨roE_ints (l := 0) rfl (by omega) rfl (.inl rfl), roE_cells (l := 1) rfl (by omega) rfl (.inl rfl), trivial⟩ ?_ | refine CallK.m ?_)
      refine Tri.seq (vc_ok tok ?_)
      repeat ((conv => whnf); first | refine Exists.intro _ (And.intro rfl ?_) | refine br_t (by omega) ?_ | refine fun (K' : K3) hK' => ?_ | (refine hK' _ _ _ ?_; clear hK' K'))
      exact .inl ⟨rfl, rfl⟩
    | true =>
      have hok := okC_iff.1 hv
      have hfr := from_spec W H cs (boomF W H bs) 0 hok (by have := hok.w; omega)
      have hdom : ∀ {i m : Int}, distW W H cs.length (wetB cs (boomF W H bs)) 0 i = some m → (0 ≤ i ∧ i < cs.length) ∧ wetB cs (boomF W H bs) i = true := fun h => distW_dom (by have := hok.w; omega) hok.len h
      rw [show (if (true && true) = true then floK W (floB W H cs.length (wetB cs (boomF W H bs))) cs.length else []) = floK W (floB W H cs.length (wetB cs (boomF W H bs))) cs.length from rfl]
      repeat ((conv => whnf); first | (refine And.intro (by first | omega | exact Nat.le_of_ble_eq_true rfl) ?_) | refine Exists.intro _ (And.intro rfl ?_) | refine fun (K' : K3) hK' => ?_ | (refine hK' _ _ _ ?_; clear hK' K') | refine CallK.newOk (a := 0) (bs := bs) (R := []) hl hb hv hB rfl rfl (by omega) ⟨roE_ints (l := 0) rfl (by omega) rfl (.inl rfl), roE_cells (l := 1) rfl (by omega) rfl (.inl rfl), trivial⟩ ?_ | refine CallK.m ?_)
      refine Tri.seq (vc_ok tok ?_)
      repeat ((conv => whnf); first | refine br_f (by omega) ?_ | refine fun (K' : K3) hK' => ?_ | (refine hK' _ _ _ ?_; clear hK' K'))
      refine Tri.seq (vc_ok tok ?_)
      repeat ((conv => whnf); first | refine fun (K' : K3) hK' => ?_ | (refine hK' _ _ _ ?_; clear hK' K'))
      refine Tri.seq ?_
      refine ⟨fun ρ a w hna hs hp hi => ?_⟩
      obtain ⟨K5, hK5⟩ : ∃ K : K3, K = fun s5 L5 nx5 => look s5 6 = some (V.c (.ptr 4 0)) ∧ look s5 8 = some (V.c .nil) ∧ look s5 20 = some (V.c (.mp 5)) ∧ L5 = [⟨5, .mp true .int (stepF (distW W H cs.length (wetB cs (boomF W H bs)) 0)), []⟩, ⟨4, .own 65, [C.i W, C.i H, .sl 0 cs.length, .mp 3]⟩, ⟨3, .mp true .int (bmF (boomF W H bs)), []⟩, ⟨2, .own 24, [C.i W, C.i H, .sl 0 cs.length]⟩, ⟨0, .ro 0, cs.map C.i⟩, ⟨1, .ro 0, cellC bs⟩] ∧ nx5 = 6 := ⟨_, rfl⟩
      refine seq_last tok (l := [_, _]) (r := [_]) (K := K5) rfl ?_ hna hs hp hi ?_ ?_
      · intro o ho
        simp at ho
        rcases ho with rfl | rfl <;> rfl
      · skip
        repeat ((conv => whnf); first | refine Exists.intro _ (And.intro rfl ?_) | refine CallK.mapR (R := [(1, some 3)]) hfr (by kernel_rfl) rfl (by simp [V.wf, A.wf, C.wf, V.i]) ⟨roE_ints (l := 0) rfl (by omega) rfl (.inl rfl), roE_map (l := 3) rfl (by omega) rfl, trivial⟩ rfl ?_ | refine CallK.m ?_)
        rw [hK5]
        exact ⟨rfl, rfl, rfl, rfl, rfl⟩
      · rintro a5 w5 ⟨ρ5, s5, L5, nx5, h1, h2, h3, h4, h5, h6⟩
        rw [hK5] at h6
        obtain ⟨q6, q8, q20, rfl, rfl⟩ := h6
        have hW0 : 0 < W := by have := hok.w; omega
        have hWH : (cs.length : Int) ≤ 100 := by have := Int.mul_le_mul hok.w.2 hok.h.2 (by have := hok.h; omega) (by omega : (0:Int) ≤ 10); have := hok.len; omega
        have hflo : ∀ i : Nat, floB W H cs.length (wetB cs (boomF W H bs)) i = (distW W H cs.length (wetB cs (boomF W H bs)) 0 i).isSome := fun i => rfl
        obtain ⟨flo, hfl⟩ : ∃ f, f = floB W H cs.length (wetB cs (boomF W H bs)) := ⟨_, rfl⟩
        rw [← hfl]
        rw [← hfl] at hflo
        obtain ⟨dO, hdO⟩ : ∃ d, d = distW W H cs.length (wetB cs (boomF W H bs)) 0 := ⟨_, rfl⟩
        rw [← hdO] at h4
        simp only [← hdO] at hdom hflo
        clear hfl hdO hK5 hfr
        obtain ⟨b, es, clock, hb1, hb2, hb3, hb4, _⟩ := h4.ok ⟨5, .mp true .int (stepF dO), []⟩ (by simp)
        simp only at hb1
        have hblt : b < w5.heap.size := (Array.getElem?_eq_some_iff.1 hb3).1
        have hev : a5.eval (.tmp 20) = .map (some b) := by
          rw [(h3.ev (.tmp 20) _ q20).1]; simp [V.den, A.den, C.den, hb1]
        have hst := hb4.st
        have hkv : ∀ e ∈ es.toList, ∃ k m : Int, e.key = .int .i64 k ∧ e.val = .int .i64 m ∧ dO k = some m := by
          intro e he
          obtain ⟨k, v, e1, e2, e3, e4⟩ := hb4.val e he
          match k, e1.1, e2, e3 with
          | [k], _, e2, e3 =>
            have e3 : stepF dO [k] = some v := e3
            cases hd : dO k with
            | none => rw [stepF_none hd] at e3; cases e3
            | some m => rw [stepF_some hd] at e3; cases e3; exact ⟨k, m, e2, e4, hd⟩
        have hqn : ∀ {E : List MapEntry} {q : List Int}, (∀ e ∈ E, e ∈ es.toList) → (E.map (·.born)).Nodup → E.map (·.key) = q.map (Value.int .i64) → q.Nodup ∧ (∀ x ∈ q, ∃ m, dO x = some m) ∧ q.length ≤ 100 := by
          intro E q m1 m2 m3
          have n1 : (E.map (·.key)).Nodup := by
            rw [List.nodup_iff_pairwise_ne, List.pairwise_map]
            rw [List.nodup_iff_pairwise_ne, List.pairwise_map] at m2
            refine List.Pairwise.imp_of_mem (fun {x y} hx hy hxy hk => hxy ?_) m2
            rw [map_inj_nd hst.2.2 (m1 x hx) (m1 y hy) hk]
          have n2 : q.Nodup := by
            rw [m3, List.nodup_iff_pairwise_ne, List.pairwise_map] at n1
            exact List.nodup_iff_pairwise_ne.2 (List.Pairwise.imp (fun h e => h (by rw [e])) n1)
          have n3 : ∀ x ∈ q, ∃ m, dO x = some m := fun x hx => by
            have : Value.int .i64 x ∈ E.map (·.key) := by rw [m3]; exact List.mem_map.2 ⟨x, hx, rfl⟩
            obtain ⟨e, he, hek⟩ := List.mem_map.1 this
            obtain ⟨k, m, e1, _, e3⟩ := hkv e (m1 e he)
            rw [e1] at hek
            cases hek
            exact ⟨m, e3⟩
          have n4 := nodup_len cs.length q n2 fun x hx => by obtain ⟨m, hm⟩ := n3 x hx; exact (hdom hm).1
          exact ⟨n2, n3, by omega⟩
        have hn0 : n0 ≤ w5.heap.size := h4.base
        refine wpListIn_raw rfl (fun c h => by cases h) (v := .pointer (some ⟨w5.heap.size, 0, none⟩)) (w1 := w5.alloc (.mapIter (some b) clock #[] clock)) ?_ ?_
        · simp [execOp, hev, run_range_map (P := Try.prog) w5 108 3 3 b es clock Try.underlying108 hb3, Result.andThen]
        · show Exit.then _ _ .normal _ _
          have hput := (Env.put_agr ρ5 6 none 0).lt
          have hal : Below w5.heap.size w5 (w5.alloc (.mapIter (some b) clock #[] clock)) := (Below.refl _ _).alloc (Nat.le_refl _) _
          have hP := h3.put hput (Nat.le_succ 6) (dst := some 21) rfl (v := V.c (.v (.pointer (some ⟨w5.heap.size, 0, none⟩)))) rfl
          refine wpIn_mono (MR.loop (P := Try.prog) (cx := cx) (N := Try.f52.ntmps) (n0 := n0) (ρ0 := ρ5) (w0 := w5) (b := b) (r := w5.heap.size) (es := es) (clock := clock) ?_ ?_) ?_
          · intro E q a w hM
            obtain ⟨⟨ρ', hS, hH, hA, hI⟩, hK, hB, hit, hmem, hnd, hkey⟩ := hM
            obtain ⟨hq1, hq2, hq3⟩ := hqn hmem hnd hkey
            have hbw : w.heap[b]? = some (.map es clock) := (hB.block b hblt).trans hb3
            have hev21 : a.eval (.tmp 21) = .pointer (some ⟨w5.heap.size, 0, none⟩) := (hS.ev (.tmp 21) _ rfl).1
            rcases run_next_at (P := Try.prog) w 0 w5.heap.size b clock clock _ es clock hit hbw hst.1 (Nat.le_refl _) with ⟨h0, hrun⟩ | ⟨e, he, w1, hw1, hrun⟩
            · have hemp : ∀ e ∈ es.toList, e.born ∈ E.map (·.born) := by
                intro e he
                by_cases hm : e.born ∈ E.map (·.born)
                · exact hm
                · exfalso
                  have h1 : e ∈ (leftOf es (E.map (·.born)).toArray).toList := by
                    simp only [leftOf, Array.toList_filter, List.mem_filter]
                    exact ⟨he, by simpa using hm⟩
                  have h2 : (leftOf es (E.map (·.born)).toArray).toList = [] := List.eq_nil_of_length_eq_zero (by simpa using h0)
                  rw [h2] at h1; cases h1
              obtain ⟨K6, hK6⟩ : ∃ K : Kt, K = fun e s L nx => e = .exit 0 ∧ look s 6 = some (V.c (.ptr 4 0)) ∧ look s 8 = some (V.c (.sl 6 q.length)) ∧ look s 21 = some (V.c (.v (.pointer (some ⟨w5.heap.size, 0, none⟩)))) ∧ L = [⟨6, .vec 3 1, q.map C.i⟩] ∧ nx = 7 := ⟨_, rfl⟩
              refine wpIn_mono (raw_seq tok (n0 := w5.heap.size + 1) (na := 6) (cx := cx) (K := K6) (l := [_]) (v := .tuple #[.bool false]) (w1 := w) rfl rfl (fun c h => by cases h) ?_ (by omega) (hS.put (AgrLt.refl _ _) (Nat.le_refl _) (dst := some 22) rfl (v := V.tup [A.c .ff]) ?_) hH ?_ ?_) ?_
              · simp [execOp, hev21, hrun, Result.andThen]
              · simp [V.wf, A.wf, C.wf]
              · rw [put_defers]; exact hI
              · skip
                repeat ((conv => whnf); refine And.intro (by omega) ?_)
                rw [hK6]
                exact ⟨rfl, rfl, rfl, rfl, rfl, rfl⟩
              · rintro e a' w' ⟨ρ2, s2, L2, nx2, g1, g2, g3, g4, g5, g6⟩
                rw [hK6] at g6
                obtain ⟨rfl, k6, k8, k21, rfl, rfl⟩ := g6
                refine ⟨⟨⟨ρ2, SlOK.of g3.size fun p hp => ?_, g4, hA.trans g2 (Nat.le_refl _), g5.2⟩, hK.trans ⟨g5.1.bel.mono (by omega), g5.1.stay⟩, hB.trans (g5.1.bel.mono (by omega)), (g5.1.bel.block _ (by omega)).trans hit, hmem, hnd, hkey⟩, hemp⟩
                simp only [List.mem_cons, List.not_mem_nil, or_false] at hp
                rcases hp with rfl | rfl | rfl
                · exact g3.ok 6 _ k6
                · exact g3.ok 8 _ k8
                · exact g3.ok 21 _ k21
            · have hel : e ∈ es.toList ∧ e.born ∉ E.map (·.born) := by
                simp only [leftOf, Array.toList_filter, List.mem_filter] at he
                exact ⟨he.1, by simpa using he.2⟩
              obtain ⟨k, m, hk1, hk2, hk3⟩ := hkv e hel.1
              rw [hk1, hk2] at hrun
              have hkd := (hdom hk3).1
              obtain ⟨w2, hw2⟩ : ∃ w2, w2 = Go.ChangeMaps.setBlock w1 w5.heap.size (.mapIter (some b) clock ((E.map (·.born)).toArray.push e.born) clock) := ⟨_, rfl⟩
              rw [← hw2] at hrun
              have hg : w.grownBy w2 (some w5.heap.size) := by
                rw [hw2]
                rcases hw1 with rfl | rfl
                · exact setBlock_grown _
                · have := setBlock_grown (w := w.drew) (b := w5.heap.size) (.mapIter (some b) clock ((E.map (·.born)).toArray.push e.born) clock)
                  exact ⟨this.os, this.tape, this.output, this.size, this.block⟩
              have hr2 : w2.heap[w5.heap.size]? = some (.mapIter (some b) clock ((E.map (·.born)).toArray.push e.born) clock) := by
                rw [hw2]
                refine setBlock_same (o := .mapIter (some b) clock (E.map (·.born)).toArray clock) ?_
                rcases hw1 with rfl | rfl <;> exact hit
              have hb2 : w2.heap[b]? = some (.map es clock) := (hg.block b (by have := (Array.getElem?_eq_some_iff.1 hbw).1; omega) (fun h => by cases h; omega)).trans hbw
              have hK2 : Keep n0 cx w w2 := Keep.row hg (fun b' hb' => by cases hb'; exact ⟨hn0, fun o ho => by rw [hit] at ho; cases ho; rfl⟩) (Nat.le_trans hn0 (by have := hH.base; omega))
              have hB2 : Below w5.heap.size w w2 := ⟨hg.os, hg.tape, hg.output, hg.size, fun i hi => hg.block i (by have := hH.base; omega) (fun h => by cases h; omega)⟩
              have hH2 : Hp (w5.heap.size + 1) ρ' w2 [⟨6, .vec 3 1, q.map C.i⟩] 7 := ⟨Nat.le_trans hH.base hg.size, fun x hx => (hH.ok x hx).kept hg (fun _ b' hb' heq => by
                cases heq
                rw [List.mem_singleton.1 hx] at hb'
                have := (hH.ok _ (List.mem_singleton.2 rfl)).blk_ge rfl _ hb'
                omega), hH.wf, hH.fn, hH.apart⟩
              obtain ⟨K7, hK7⟩ : ∃ K : K3, K = fun s L nx => look s 6 = some (V.c (.ptr 4 0)) ∧ look s 8 = some (V.c (.sl 6 q.length)) ∧ look s 21 = some (V.c (.v (.pointer (some ⟨w5.heap.size, 0, none⟩)))) ∧ look s 23 = some (V.a (A.c .tt)) ∧ L = [⟨6, .vec 3 1, q.map C.i⟩] ∧ nx = 7 := ⟨_, rfl⟩
              refine raw_seq2 tok (n0 := w5.heap.size + 1) (na := 6) (cx := cx) (K := K7) (l := [_]) (v := .tuple #[.bool true, .int .i64 k, .int .i64 m]) (w1 := w2) rfl rfl (fun c h => by cases h) ?_ (by omega) (hS.put (AgrLt.refl _ _) (Nat.le_refl _) (dst := some 22) rfl (v := V.tup [A.c .tt, A.c (C.i k), A.c (C.i m)]) ?_) hH2 ?_ ?_ ?_
              · simp [execOp, hev21, hrun, Result.andThen]
              · simp [V.wf, A.wf, C.wf]
              · rw [put_defers]; exact hI.keep (AgrLt.refl _ _) hK2
              · skip
                repeat ((conv => whnf); refine And.intro (by omega) ?_)
                rw [hK7]
                exact ⟨rfl, rfl, rfl, rfl, rfl, rfl⟩
              · rintro a3 w3 ⟨ρ3, s3, L3, nx3, g1, g2, g3, g4, g5, g6⟩
                rw [hK7] at g6
                obtain ⟨k6, k8, k21, k23, rfl, rfl⟩ := g6
                have hS3 : SlOK Try.f52.ntmps ρ3 a3 [(6, V.c (.ptr 4 0)), (8, V.c (.sl 6 q.length)), (21, V.c (.v (.pointer (some ⟨w5.heap.size, 0, none⟩))))] 7 := SlOK.of g3.size fun p hp => by
                  simp only [List.mem_cons, List.not_mem_nil, or_false] at hp
                  rcases hp with rfl | rfl | rfl
                  · exact g3.ok 6 _ k6
                  · exact g3.ok 8 _ k8
                  · exact g3.ok 21 _ k21
                have hr3 := (g5.1.bel.block w5.heap.size (by omega)).trans hr2
                have hb3' := (g5.1.bel.block b (by omega)).trans hb2
                have hev3 : a3.eval (.tmp 21) = .pointer (some ⟨w5.heap.size, 0, none⟩) := (hS3.ev (.tmp 21) _ rfl).1
                refine wpIn_seq (wpIn_cond_true ((g3.ev (.tmp 23) _ k23).1) (wpIn_skip ?_))
                show Exit.then _ _ .normal _ _
                obtain ⟨K9, hK9⟩ : ∃ K : Kt, K = fun e s L nx => e = .normal ∧ Enter [(6, some 8)] 6 7 s L [(6, V.c (.ptr 4 0)), (8, V.c (.sl 6 (q.length + 1))), (21, V.c (.v (.pointer (some ⟨w5.heap.size, 0, none⟩))))] [⟨6, .vec 3 1, (q ++ [k]).map C.i⟩] := ⟨_, rfl⟩
                refine wpIn_block (wpIn_mono (raw_seq tok (n0 := w5.heap.size + 1) (na := 6) (cx := cx) (K := K9) (l := [_, _]) (v := .tuple #[.int .i64 k, .int .i64 m]) (w1 := w3) rfl rfl (fun c h => by cases h) ?_ (by omega) (hS3.put (AgrLt.refl _ _) (Nat.le_refl _) (dst := some 24) rfl (v := V.tup [A.c (C.i k), A.c (C.i m)]) ?_) g4 ?_ ?_) ?_)
                · have hen := run_entry_at (P := Try.prog) w3 w5.heap.size b clock _ es clock e hr3 hb3' hel.1 hst.2.1
                  rw [hk1, hk2] at hen
                  simp [execOp, hev3, hen, Result.andThen]
                · simp [V.wf, A.wf, C.wf]
                · rw [put_defers]; exact g5.2
                · skip
                  repeat ((conv => whnf); first | (refine And.intro (by first | omega | (dsimp only [inK]; omega) | (exact ⟨rfl, rfl, rfl, Nat.le_of_ble_eq_true rfl, by simp; done, by exact Nat.le_of_ble_eq_true rfl, by omega, Nat.le_of_ble_eq_true rfl⟩)) ?_) | refine fun (K' : K3) hK' => ?_ | (refine hK' _ _ _ ?_; clear hK' K'))
                  rw [hK9]
                  refine ⟨rfl, ?_⟩
                  have hy : (Value.pointer (some ⟨w5.heap.size, 0, none⟩)).oneCell' = true := rfl
                  refine ⟨?_, ?_, rfl, rfl, by exact Nat.le_of_ble_eq_true rfl⟩
                  · repeat (first | exact trivial | (refine And.intro (covS_syn (by rfl) rfl (by first | exact Nat.le_of_ble_eq_true rfl | exact hy)) ?_))
                  · repeat (first | exact trivial | (refine And.intro (covE_some rfl (Nat.le_of_ble_eq_true rfl) (by exact wf_ints _ _) rfl (by refine (ren_ints _ _).trans (congrArg some ?_); rw [List.map_append]; rfl)) ?_))
                · rintro e' a' w' ⟨ρ4, s4, L4, nx4, f1, f2, f3, f4, f5, f6⟩
                  rw [hK9] at f6
                  obtain ⟨rfl, hent⟩ := f6
                  obtain ⟨r1, r2, r3⟩ := hent.state f3 f4
                  have hb4' : Below (w5.heap.size + 1) w2 w' := g5.1.bel.trans f5.1.bel
                  refine ⟨e, k, hel.2, ⟨renE [(6, some 8)] ρ4, by rw [List.length_append]; exact r1, r2, ((hA.trans g2 (Nat.le_refl _)).trans f2 (Nat.le_refl _)).trans r3 (Nat.le_refl _), f5.2.keep r3 (Keep.refl (n0 := n0) _)⟩, ((hK.trans hK2).trans ⟨g5.1.bel.mono (by omega), g5.1.stay⟩).trans ⟨f5.1.bel.mono (by omega), f5.1.stay⟩, (hB.trans hB2).trans (hb4'.mono (by omega)), ?_, ?_, ?_, ?_⟩
                  · rw [(hb4'.block _ (by omega)).trans hr2]
                    simp
                  · intro x hx
                    rcases List.mem_append.1 hx with hx | hx
                    · exact hmem x hx
                    · rw [List.mem_singleton.1 hx]; exact hel.1
                  · rw [List.map_append, List.nodup_append]
                    refine ⟨hnd, by simp, fun x hx y hy => ?_⟩
                    simp only [List.map_cons, List.map_nil, List.mem_singleton] at hy
                    subst hy
                    intro h; subst h; exact hel.2 hx
                  · rw [List.map_append, List.map_append, hkey]
                    simp [hk1]
          · refine ⟨⟨ρ5.put 6 none 0, ?_, ?_, hput, ?_⟩, Keep.of hal h4.base, hal, heap_alloc_new _ _, fun e he => (by cases he), List.nodup_nil, rfl⟩
            · refine SlOK.of hP.size fun p hp => ?_
              simp only [List.mem_cons, List.not_mem_nil, or_false] at hp
              rcases hp with rfl | rfl | rfl
              · exact hP.ok 6 _ q6
              · refine ⟨(hP.ok 8 _ q8).1.trans ?_, by show 6 < 7; omega⟩
                simp [V.den, A.den, C.den, Env.put_same]
              · exact hP.ok 21 _ rfl
            · refine ⟨by simp, fun e he => ?_, fun e he => ?_, fun e he e' he' _ => ?_, fun e he e' he' _ hne => ?_⟩
              · rw [List.mem_singleton.1 he]
                refine ⟨0, ?_⟩
                simp only [Env.put_same]
                exact rowO_nil _ _ _ _
              · rw [List.mem_singleton.1 he]; exact ⟨by show 6 < 7; omega, fun c hc => by cases hc⟩
              · rw [List.mem_singleton.1 he, List.mem_singleton.1 he']
              · rw [List.mem_singleton.1 he, List.mem_singleton.1 he'] at hne; exact absurd rfl hne
            · rw [put_defers]
              exact (h5.2.na (by omega)).keep hput (Keep.of hal h4.base)
          · rintro e a' w' ⟨rfl, E, q, hM, hall⟩
            obtain ⟨⟨ρ', hS, hH, hA, hI⟩, hK, hB, hit, hmem, hnd, hkey⟩ := hM
            obtain ⟨hq1, hq2, hq3⟩ := hqn hmem hnd hkey
            have hmq : ∀ x, x ∈ q ↔ ∃ m, dO x = some m := fun x => ⟨hq2 x, fun ⟨m, hm⟩ => by
              obtain ⟨_, y, hy, hyk⟩ := hb4.has [x] (.i m) (stepF_some hm)
              obtain ⟨e', he', heb⟩ := List.mem_map.1 (hall y hy)
              have := map_inj_nd hst.2.1 (hmem e' he') hy heb
              subst this
              have h1 : e'.key ∈ E.map (·.key) := List.mem_map.2 ⟨e', he', rfl⟩
              rw [hkey, hyk] at h1
              obtain ⟨z, hz, hzx⟩ := List.mem_map.1 h1
              have : z = x := by
                have h2 : Value.int .i64 z = Value.int .i64 x := hzx
                injection h2
              rw [← this]; exact hz⟩
            have hsrt : (q.mergeSort fun x y => decide (x ≤ y)) = ((List.range cs.length).filter fun i : Nat => flo (i : Int)).map fun i : Nat => (i : Int) := sort_eq hq1 (floI_sorted flo _) fun x => by
              rw [hmq, List.mem_map]
              constructor
              · rintro ⟨m, hm⟩
                have h1 := (hdom hm).1
                refine ⟨x.toNat, List.mem_filter.2 ⟨List.mem_range.2 (by omega), ?_⟩, by omega⟩
                rw [hflo, show ((x.toNat : Nat) : Int) = x by omega, hm]; rfl
              · rintro ⟨i, hi, rfl⟩
                have h1 := (List.mem_filter.1 hi).2
                rw [hflo] at h1
                exact Option.isSome_iff_exists.1 h1
            have hcl : cellsL W (q.mergeSort fun x y => decide (x ≤ y)) = floK W flo cs.length := by
              rw [hsrt]; unfold cellsL floK; rw [List.map_map]; rfl
            have hce := cells_spec W H cs.length (q.mergeSort fun x y => decide (x ≤ y)) hW0 (by rw [List.length_mergeSort]; omega) (fun k hk => by
              have h1 : (q.mergeSort fun x y => decide (x ≤ y)).getD k 0 ∈ (q.mergeSort fun x y => decide (x ≤ y)) := getD_mem hk
              rw [List.mem_mergeSort] at h1
              obtain ⟨m, hm⟩ := hq2 _ h1
              have := (hdom hm).1
              omega)
            rw [List.length_mergeSort] at hce
            have hag7 : AgrLt 7 ρ' (fun l => if l < 7 then ρ' l else ρ5 l) := fun l hl => if_pos hl
            have hag6 : AgrLt 6 ρ' (fun l => if l < 7 then ρ' l else ρ5 l) := hag7.mono (by omega)
            have hS7 := hS.agr hag7 (Nat.le_refl 7)
            have hH7 := hH.env hag7
            have hI7 := hI.keep hag6 (Keep.refl (n0 := n0) (cx := cx) w')
            refine ⟨fun l => if l < 7 then ρ' l else ρ5 l, [(6, V.c (.ptr 4 0)), (8, V.c (.sl 6 q.length))], _, 7, by omega, fun l hl => ?_, SlOK.of hS7.size fun p hp => ?_, h4.news' (new := [⟨6, .vec 3 1, q.map C.i⟩]) ⟨fun e he => ?_, fun e he => ?_, fun e he e' he' _ => ?_, fun e he e' he' _ hne => ?_, fun e he => ?_⟩ hB (fun l hl => ?_) (by omega), ⟨h5.1.trans hK, h5.2.le, hI7.agr, hI7.df, hI7.nd, hI7.lo, hI7.rd, hI7.lt⟩, ?_⟩
            · show (if l < 7 then ρ' l else ρ5 l) = ρ l
              rw [if_pos (by omega), hA l (by omega), h2 l hl]
            · simp only [List.mem_cons, List.not_mem_nil, or_false] at hp
              rcases hp with rfl | rfl
              · exact hS7.ok 6 _ rfl
              · exact hS7.ok 8 _ rfl
            · rw [List.mem_singleton.1 he]
              exact (hH7.ok _ (List.mem_singleton.2 rfl)).base (by omega)
            · rw [List.mem_singleton.1 he]
              exact ⟨⟨Nat.le_refl 6, by show 6 < 7; omega⟩, (hH7.wf _ (List.mem_singleton.2 rfl)).2⟩
            · rw [List.mem_singleton.1 he, List.mem_singleton.1 he']
            · rw [List.mem_singleton.1 he, List.mem_singleton.1 he'] at hne; exact absurd rfl hne
            · rw [List.mem_singleton.1 he]
              exact .inl fun b' hb' => by
                have := (hH7.ok _ (List.mem_singleton.2 rfl)).blk_ge rfl _ hb'
                omega
            · show (if l < 7 then ρ' l else ρ5 l) = ρ5 l
              by_cases hl7 : l < 7
              · rw [if_pos hl7, hA l (by omega)]
              · rw [if_neg hl7]
            · show Tri _ _ _ _ _ _ _ _ _ _
              refine vc_ok tok ?_
              repeat ((conv => whnf); first | refine Exists.intro _ (And.intro rfl ?_) | refine fun (K' : K3) hK' => ?_ | (refine hK' _ _ _ ?_; clear hK' K') | refine CallM.sort (l := 6) (q := q) rfl (by omega) (by omega) ?_ | refine CallK.cellsR (R := [(1, some 3), (2, some 6)]) hce (by kernel_rfl) rfl (by simp [V.wf, A.wf, C.wf]) ⟨roE_ints (l := 6) rfl (by omega) rfl (.inl rfl), trivial⟩ rfl ?_ | refine CallK.m ?_)
              rw [← hcl]
              exact .inr ⟨_, rfl, rfl⟩
end Go.Proofs.Ytbhpnhcdjmcaoaa

/- Boom, plain: water leads from one shore to the other, or what is dry from the first row to the last, never both. -/
namespace Go.Proofs.Ytbhpnhcdjmcaoaa
open Go.RowKit
set_option linter.unusedVariables false
set_option linter.unusedSimpArgs false
/-- Water from which one comes to the last column, and what is dry from which one comes to the last row. -/
inductive RA (W H : Int) (w : Cell → Bool) : Cell → Prop
  | ini {p : Cell} (h : onB W H p.1 p.2 = true) (hw : w p = true) (hx : p.1 = W - 1) : RA W H w p
  | step {p q : Cell} (h : onB W H p.1 p.2 = true) (hw : w p = true) (ha : adj false p q) (hq : RA W H w q) : RA W H w p
inductive RB (W H : Int) (w : Cell → Bool) : Cell → Prop
  | ini {p : Cell} (h : onB W H p.1 p.2 = true) (hw : w p = false) (hx : p.2 = H - 1) : RB W H w p
  | step {p q : Cell} (h : onB W H p.1 p.2 = true) (hw : w p = false) (ha : adj true p q) (hq : RB W H w q) : RB W H w p
theorem RA.on {W H : Int} {w : Cell → Bool} {p : Cell} (h : RA W H w p) : onB W H p.1 p.2 = true ∧ w p = true := by cases h <;> exact ⟨by assumption, by assumption⟩
theorem RB.on {W H : Int} {w : Cell → Bool} {p : Cell} (h : RB W H w p) : onB W H p.1 p.2 = true ∧ w p = false := by cases h <;> exact ⟨by assumption, by assumption⟩
def imB (a b : Bool) : Bool := !a || b
def edB (ap bp aq bq : Bool) : Bool := (ap && bq) ^^ (bp && aq)
def blkB (w1 a1 b1 w2 a2 b2 w3 a3 b3 w4 a4 b4 : Bool) : Bool :=
  imB (imB a1 w1 && imB a2 w2 && imB a3 w3 && imB a4 w4 && imB b1 !w1 && imB b2 !w2 && imB b3 !w3 && imB b4 !w4 &&
    imB (a1 && w2) a2 && imB (a2 && w1) a1 && imB (a1 && w3) a3 && imB (a3 && w1) a1 && imB (a2 && w4) a4 && imB (a4 && w2) a2 && imB (a3 && w4) a4 && imB (a4 && w3) a3 &&
    imB (b1 && !w2) b2 && imB (b2 && !w1) b1 && imB (b1 && !w3) b3 && imB (b3 && !w1) b1 && imB (b1 && !w4) b4 && imB (b4 && !w1) b1 &&
    imB (b2 && !w3) b3 && imB (b3 && !w2) b2 && imB (b2 && !w4) b4 && imB (b4 && !w2) b2 && imB (b3 && !w4) b4 && imB (b4 && !w3) b3)
    (!((edB a1 b1 a2 b2 ^^ edB a3 b3 a4 b4) ^^ (edB a1 b1 a3 b3 ^^ edB a2 b2 a4 b4)))
section
variable {W H : Int} {w : Cell → Bool}
open Classical in
noncomputable def aB (W H : Int) (w : Cell → Bool) (p : Cell) : Bool := decide (p.1 = W ∨ RA W H w p)
open Classical in
noncomputable def bB (W H : Int) (w : Cell → Bool) (p : Cell) : Bool := decide ((p.2 = H ∧ p.1 ≠ W) ∨ RB W H w p)
def wX (W H : Int) (w : Cell → Bool) (p : Cell) : Bool := decide (p.1 = W) || (decide (p.2 ≠ H) && w p)
open Classical in
open Classical in
/-- Within the board and the shore's column and row behind it. -/
def exB (W H : Int) (p : Cell) : Prop := (0 ≤ p.1 ∧ p.1 ≤ W) ∧ 0 ≤ p.2 ∧ p.2 ≤ H
noncomputable def edC (W H : Int) (w : Cell → Bool) (p q : Cell) : Bool := edB (aB W H w p) (bB W H w p) (aB W H w q) (bB W H w q)
noncomputable def rowX (W H : Int) (w : Cell → Bool) (y : Int) : Nat → Bool
  | 0 => false
  | k + 1 => rowX W H w y k ^^ edC W H w (k, y) (k + 1, y)
theorem RA.in {p : Cell} (h : RA W H w p) : p.1 < W ∧ p.2 < H := by have := onB_t h.on.1; omega
theorem RB.in {p : Cell} (h : RB W H w p) : p.1 < W ∧ p.2 < H := by have := onB_t h.on.1; omega
/-- What is dry, as a list from a cell to the last row. -/
def dryL (W H : Int) (w : Cell → Bool) : List Cell → Prop
  | [] => False
  | [p] => onB W H p.1 p.2 = true ∧ w p = false ∧ p.2 = H - 1
  | p :: q :: r => (onB W H p.1 p.2 = true ∧ w p = false ∧ adj true p q) ∧ dryL W H w (q :: r)
theorem RB.list {p : Cell} (h : RB W H w p) : ∃ r, dryL W H w (p :: r) := by
  induction h with
  | ini h hw hx => exact ⟨[], h, hw, hx⟩
  | step h hw ha hq ih => obtain ⟨r, hr⟩ := ih; exact ⟨_ :: r, ⟨h, hw, ha⟩, hr⟩
/-- Over each pair of neighbours, the last cell's lower neighbour among them. -/
def xr (H : Int) (s : Cell → Cell → Bool) : List Cell → Bool
  | [] => false
  | [p] => s p (p.1, H)
  | p :: q :: r => s p q ^^ xr H s (q :: r)
/-- Steps between row y and the next one whose end in row y lies left of x; steps between row y and the one before. -/
def crS (x y : Int) (p q : Cell) : Bool := decide (p.2 = y ∧ q.2 = y + 1 ∧ p.1 < x) || decide (q.2 = y ∧ p.2 = y + 1 ∧ q.1 < x)
def cgS (x y : Int) (p q : Cell) : Bool := decide (p.2 = y ∧ q.2 = y - 1 ∧ p.1 < x) || decide (q.2 = y ∧ p.2 = y - 1 ∧ q.1 < x)
def lfS (x y : Int) (p : Cell) : Bool := decide (p.2 = y ∧ p.1 < x)
/-- How often the wall over a cell is crossed, the step from above the first row among them. -/
def fS (H x y : Int) : List Cell → Bool
  | [] => false
  | p :: r => crS x y (p.1, -1) p ^^ xr H (crS x y) (p :: r)
end
end Go.Proofs.Ytbhpnhcdjmcaoaa

/- Boom: which lists are channels. -/
namespace Go.Proofs.Ytbhpnhcdjmcaoaa
open Go.RowKit
set_option linter.unusedVariables false
set_option linter.unusedSimpArgs false
/-- What a channel by booms is. -/
structure ChanP (W H : Int) (wet : Int → Bool) (l : List Cell) : Prop where
  on : ∀ j, j < l.length → onB W H (l.getD j cz).1 (l.getD j cz).2 = true
  nd : ∀ j i, j < l.length → i < j → ¬ l.getD j cz = l.getD i cz
  len : 1 ≤ l.length ∧ l.length ≤ 100
  adj : ∀ j, j + 1 < l.length → adj false (l.getD (j + 1) cz) (l.getD j cz)
  wet : ∀ j, j < l.length → wet (idxU W (l.getD j cz)) = true
  left : (l.getD 0 cz).1 = 0
  right : (l.getD (l.length - 1) cz).1 = W - 1
def isChP (W H : Int) (wet : Int → Bool) (l : List Cell) : Bool := listOkK W H l l.length && (lenOk l && ((decide ((listI W H l).getD 0 0 % W = 0) && decide ((listI W H l).getD (l.length - 1) 0 % W = W - 1)) && ((!(listI W H l).any fun i => !wet i) && follB W H false (listI W H l) l.length)))
def isChR (W H : Int) (wet : Int → Bool) (l : List Cell) : Bool := isWayB W H l false && ((decide ((l.getD 0 cz).1 = 0) && decide ((l.getD (l.length - 1) cz).1 = W - 1)) && l.all fun p => wet (idxU W p))
def isChB (W H : Int) (cs : List Int) (bs l : List Cell) : Bool := (okC W H cs && okB W H cs bs) && isChR W H (wetB cs (boomF W H bs)) l
end Go.Proofs.Ytbhpnhcdjmcaoaa

/- Boom, plain: barriers of the charts that are upside down, with dead cells, with dry booms. -/
namespace Go.Proofs.Ytbhpnhcdjmcaoaa
open Go.RowKit
set_option linter.unusedVariables false
set_option linter.unusedSimpArgs false
section
variable {W H : Int} {cs : List Int}
theorem CO.chg (hok : CO W H cs) {g : Int → Int} (hg : ∀ i : Int, 0 ≤ i → i < cs.length → -1 ≤ g i ∧ g i ≤ 100) : CO W H (chgL cs g) :=
  ⟨hok.w, hok.h, by rw [chgL_len]; exact hok.len, fun x hx => by
    unfold chgL at hx
    obtain ⟨i, hi, rfl⟩ := List.mem_map.1 hx
    have := List.mem_range.1 hi
    exact hg _ (by omega) (by omega)⟩
theorem CO.get (hok : CO W H cs) {i : Int} (h0 : 0 ≤ i) (h : i < cs.length) : -1 ≤ cs.getD i.toNat 0 ∧ cs.getD i.toNat 0 ≤ 100 := by
  have hk : i.toNat < cs.length := by omega
  rw [List.getD_eq_getElem?_getD, List.getElem?_eq_getElem hk]
  exact hok.cost _ (List.getElem_mem hk)
theorem CO.turn (hok : CO W H cs) : CO W H (chgL cs (turnG W H cs)) := hok.chg fun i h0 h => by
  have hw := hok.w
  have := turnI_bd (W := W) (H := H) (by omega) h0 (by have := hok.len; omega)
  exact hok.get this.1 (by have := hok.len; omega)
theorem CO.str (hok : CO W H cs) (most : Int) : CO W H (chgL cs (strG cs most)) := hok.chg fun i h0 h => by
  have := hok.get h0 h
  unfold strG; split <;> omega
theorem CO.dry (hok : CO W H cs) (bs : List Cell) : CO W H (chgL cs (dryG W H cs bs)) := hok.chg fun i h0 h => by
  have := hok.get h0 h
  unfold dryG; split <;> omega
def tp (H : Int) (p : Cell) : Cell := (p.1, H - 1 - p.2)
theorem BarP.mem {l : List Cell} (hb : BarP W H cs l) {p : Cell} (h : p ∈ l) : onB W H p.1 p.2 = true ∧ ¬ cs.getD (idxU W p).toNat 0 = 0 := by
  obtain ⟨j, hj, rfl⟩ := List.mem_iff_getElem.1 h
  have h1 := hb.on j hj
  have h2 := hb.hold j hj
  have hg : l.getD j cz = l[j] := by rw [List.getD_eq_getElem?_getD, List.getElem?_eq_getElem hj]; rfl
  rw [hg] at h1 h2
  exact ⟨h1, h2⟩
end
end Go.Proofs.Ytbhpnhcdjmcaoaa

/- Boom, plain: the booms of a list, and the chart in which those of a barrier are land. -/
namespace Go.Proofs.Ytbhpnhcdjmcaoaa
open Go.RowKit
set_option linter.unusedVariables false
set_option linter.unusedSimpArgs false
def boomsL (W : Int) (cs : List Int) : List Cell := ((List.range cs.length).filter fun i => decide (cs.getD i 0 > 0)).map fun i : Nat => cellI W (i : Int)
def cellsF (W : Int) (cs : List Int) (l : List Cell) : List Cell := (boomsL W cs).filter fun p => decide (p ∈ l)
/-- In order. -/
def ltC (a b : Cell) : Prop := a.2 < b.2 ∨ (a.2 = b.2 ∧ a.1 < b.1)
section
variable {W H : Int} {cs : List Int}
/-- Booms in order are booms of the chart. -/
theorem okB_of (hok : CO W H cs) {bs : List Cell} (hs : bs.Pairwise ltC) (hm : ∀ p ∈ bs, onB W H p.1 p.2 = true ∧ cs.getD (idxU W p).toNat 0 > 0) : okB W H cs bs = true := by
  unfold okB okBk
  rw [List.all_eq_true]
  intro k hk
  have hk : k < bs.length := by simpa using hk
  have hg : bs.getD k (0, 0) = bs[k] := by rw [List.getD_eq_getElem?_getD, List.getElem?_eq_getElem hk]; rfl
  obtain ⟨h1, h2⟩ := hm _ (List.getElem_mem hk)
  have h3 := idxU_in hok h1
  unfold badK
  rw [hg, (idxC_mod h1).1]
  simp only [Bool.not_eq_true', Bool.or_eq_false_iff, Bool.and_eq_false_iff, decide_eq_false_iff_not]
  refine ⟨by omega, by omega, ?_⟩
  by_cases hk0 : k = 0
  · exact .inl (by omega)
  · right
    have hg1 : bs.getD (k - 1) (0, 0) = bs[k - 1] := by rw [List.getD_eq_getElem?_getD, List.getElem?_eq_getElem (by omega)]; rfl
    rw [hg1, cmp_ge]
    have := (List.pairwise_iff_getElem.1 hs) (k - 1) k (by omega) hk (by omega)
    unfold ltC at this
    omega
end
end Go.Proofs.Ytbhpnhcdjmcaoaa

/- Boom, plain: booms block exactly if there is a barrier of them and of land. -/
namespace Go.Proofs.Ytbhpnhcdjmcaoaa
open Go.RowKit
set_option linter.unusedVariables false
set_option linter.unusedSimpArgs false
section
variable {W H : Int} {cs : List Int}
/-- What is wet, cell by cell. -/
def wetC (W : Int) (wet : Int → Bool) (p : Cell) : Bool := wet (idxU W p)
/-- What holds, cell by cell. -/
def dryC (W : Int) (cs : List Int) (p : Cell) : Bool := !hldI cs (idxU W p)
end
end Go.Proofs.Ytbhpnhcdjmcaoaa

/- Boom, the laws: the chart without other booms, and what booms cost. -/
namespace Go.Proofs.Ytbhpnhcdjmcaoaa
open Go.RowKit
set_option linter.unusedVariables false
set_option linter.unusedSimpArgs false
def kpB (W : Int) (bs : List Cell) (k : Int) (j : Nat) : Bool := (bs.take j).any fun p => decide (idxU W p = k)
def deadG (W : Int) (cs : List Int) (bs : List Cell) (i : Int) : Int := if (decide (cs.getD i.toNat 0 ≤ 0) || kpB W bs i bs.length) = true then cs.getD i.toNat 0 else 0
def totK (W : Int) (cs : List Int) (l : List Cell) (k : Nat) : Int := ((l.take k).map fun p => cs.getD (idxU W p).toNat 0).sum
def totC (W : Int) (cs : List Int) (l : List Cell) : Int := (l.map fun p => cs.getD (idxU W p).toNat 0).sum
end Go.Proofs.Ytbhpnhcdjmcaoaa

/- Boom, plain: sets of booms that block, and what they cost. -/
namespace Go.Proofs.Ytbhpnhcdjmcaoaa
open Go.RowKit
set_option linter.unusedVariables false
set_option linter.unusedSimpArgs false
section
variable {W H : Int} {cs : List Int}
theorem okB_mem (hW : 0 < W) {bs : List Cell} (h : okB W H cs bs = true) {p : Cell} (hp : p ∈ bs) : onB W H p.1 p.2 = true ∧ cs.getD (idxU W p).toNat 0 > 0 := by
  obtain ⟨k, hk, rfl⟩ := List.getElem_of_mem hp
  have hon := okB_on hW h k hk
  have e : bs.getD k (0, 0) = bs[k] := by rw [List.getD_eq_getElem?_getD, List.getElem?_eq_getElem hk]; rfl
  rw [e] at hon
  refine ⟨hon, ?_⟩
  unfold okB okBk at h
  have := List.all_eq_true.1 h k (List.mem_range.2 hk)
  unfold badK at this
  simp only [Bool.not_eq_true', Bool.or_eq_false_iff, decide_eq_false_iff_not] at this
  have h2 := this.2.1
  rw [e, (idxC_mod hon).1] at h2
  omega
theorem CO.dead (hok : CO W H cs) (bs : List Cell) : CO W H (chgL cs (deadG W cs bs)) := hok.chg fun i h0 h => by
  unfold deadG
  have := hok.get h0 h
  split <;> omega
end
end Go.Proofs.Ytbhpnhcdjmcaoaa

/- Boom, plain: booms of which none can be left out. -/
namespace Go.Proofs.Ytbhpnhcdjmcaoaa
open Go.RowKit
set_option linter.unusedVariables false
set_option linter.unusedSimpArgs false
/-- From the last one on: leave it out if the rest still does. -/
def thinL (bl : List Cell → Bool) : Nat → List Cell → List Cell
  | 0, l => l
  | k + 1, l => thinL bl k (if bl (l.eraseIdx k) = true then l.eraseIdx k else l)
theorem thin_sub (bl : List Cell → Bool) : ∀ (k : Nat) (l : List Cell), (thinL bl k l).Sublist l
  | 0, l => List.Sublist.refl l
  | k + 1, l => by
    refine (thin_sub bl k _).trans ?_
    split
    · exact List.eraseIdx_sublist _ _
    · exact List.Sublist.refl l
theorem filter_one {α : Type} [DecidableEq α] : ∀ {l : List α} {k : Nat} (hd : l.Nodup) (hk : k < l.length), l.filter (fun p => decide (p ≠ l[k])) = l.eraseIdx k
  | x :: r, 0, hd, hk => by
    obtain ⟨h1, h2⟩ := List.nodup_cons.1 hd
    simp only [List.getElem_cons_zero, List.eraseIdx_cons_zero]
    rw [List.filter_cons_of_neg (by simp), List.filter_eq_self.2 fun p hp => by
      rw [decide_eq_true_eq]; intro e; exact h1 (e ▸ hp)]
  | x :: r, k + 1, hd, hk => by
    obtain ⟨h1, h2⟩ := List.nodup_cons.1 hd
    have hk' : k < r.length := by simpa using hk
    simp only [List.getElem_cons_succ, List.eraseIdx_cons_succ]
    rw [List.filter_cons_of_pos (by rw [decide_eq_true_eq]; intro e; exact h1 (e ▸ List.getElem_mem hk')), filter_one h2 hk']
section
variable {W H : Int} {cs : List Int}
theorem okB_sorted {bs : List Cell} (h : okB W H cs bs = true) : bs.Pairwise ltC := by
  have step : ∀ i, (hi : i + 1 < bs.length) → ltC bs[i] bs[i + 1] := by
    intro i hi
    unfold okB okBk at h
    have h1 := List.all_eq_true.1 h (i + 1) (List.mem_range.2 hi)
    unfold badK at h1
    simp only [Bool.not_eq_true', Bool.or_eq_false_iff, Bool.and_eq_false_iff, decide_eq_false_iff_not, Nat.add_sub_cancel] at h1
    have h2 := h1.2.2
    have e1 : bs.getD i (0, 0) = bs[i] := by rw [List.getD_eq_getElem?_getD, List.getElem?_eq_getElem (by omega)]; rfl
    have e2 : bs.getD (i + 1) (0, 0) = bs[i + 1] := by rw [List.getD_eq_getElem?_getD, List.getElem?_eq_getElem hi]; rfl
    rw [e1, e2, cmp_ge] at h2
    unfold ltC
    omega
  rw [List.pairwise_iff_getElem]
  have all : ∀ d i, (hi : i + d + 1 < bs.length) → ltC bs[i] bs[i + d + 1] := by
    intro d
    induction d with
    | zero => intro i hi; exact step i hi
    | succ d ih =>
      intro i hi
      have h1 := ih i (by omega)
      have h2 := step (i + d + 1) (by omega)
      unfold ltC at h1 h2 ⊢
      have e : bs[i + (d + 1) + 1] = bs[i + d + 1 + 1] := by congr 1
      rw [e]
      omega
  intro i j hi hj hij
  have := all (j - i - 1) i (by omega)
  have e : bs[i + (j - i - 1) + 1] = bs[j] := by congr 1; omega
  rw [e] at this; exact this
theorem sorted_nodup {bs : List Cell} (h : bs.Pairwise ltC) : bs.Nodup :=
  List.Pairwise.imp (fun {a b} hlt e => by subst e; unfold ltC at hlt; omega) h
theorem okB_sub (hok : CO W H cs) {bs s : List Cell} (h : okB W H cs bs = true) (hs : s.Sublist bs) : okB W H cs s = true :=
  okB_of hok (List.Pairwise.sublist hs (okB_sorted h)) fun p hp => okB_mem (by have := hok.w; omega) h (hs.subset hp)
/-- Booms but one. -/
theorem boomF_erase (hok : CO W H cs) {l : List Cell} (h : okB W H cs l = true) {k : Nat} (hk : k < l.length) : (fun j => boomF W H l j && !decide (j = idxC W H l[k])) = boomF W H (l.eraseIdx k) := by
  have hW : 0 < W := by have := hok.w; omega
  have hd := sorted_nodup (okB_sorted h)
  funext j
  rw [Bool.eq_iff_iff, ← filter_one hd hk]
  simp only [boomF, boomP, List.take_length, List.any_eq_true, Bool.and_eq_true, decide_eq_true_eq, Bool.not_eq_true', decide_eq_false_iff_not, List.mem_filter]
  constructor
  · rintro ⟨⟨p, hp, rfl⟩, hne⟩
    exact ⟨p, ⟨hp, fun e => hne (by rw [e])⟩, rfl⟩
  · rintro ⟨p, ⟨hp, hne⟩, rfl⟩
    exact ⟨⟨p, hp, rfl⟩, fun e => hne (idxC_inj (okB_mem hW h hp).1 (okB_mem hW h (List.getElem_mem hk)).1 e)⟩
theorem boomF_back {l : List Cell} {k : Nat} (hk : k < l.length) : (fun j => (boomF W H l j && !decide (j = idxC W H l[k])) || decide (j = idxC W H l[k])) = boomF W H l := by
  funext j
  have hm : boomF W H l (idxC W H l[k]) = true := by
    simp only [boomF, boomP, List.take_length, List.any_eq_true, decide_eq_true_eq]
    exact ⟨_, List.getElem_mem hk, rfl⟩
  by_cases hj : j = idxC W H l[k]
  · subst hj; rw [hm]; simp
  · simp [hj]
noncomputable def blkL (W H : Int) (cs : List Int) (l : List Cell) : Bool := (chanO W H cs.length (wetB cs (boomF W H l))).isNone
/-- Thin booms. -/
noncomputable def thinO (W H : Int) (cs : List Int) (bs : List Cell) : List Cell := thinL (blkL W H cs) bs.length bs
theorem thinO_sub (bs : List Cell) : (thinO W H cs bs).Sublist bs := thin_sub _ _ _
/-- One step from behind. -/
theorem thin_step {bs l : List Cell} {k : Nat} (ht : l.take (k + 1) = bs.take (k + 1)) (hk : k + 1 ≤ l.length) (hb : k < bs.length) : bs[k] = l[k] ∧ (l.eraseIdx k).take k = bs.take k ∧ l.take k = bs.take k ∧ k ≤ (l.eraseIdx k).length := by
  have h1 : l.take k = bs.take k := by
    have := congrArg (List.take k) ht
    rwa [List.take_take, List.take_take, Nat.min_eq_left (by omega)] at this
  refine ⟨?_, ?_, h1, ?_⟩
  · have := congrArg (fun x => x[k]?) ht
    simp only [List.getElem?_take, if_pos (show k < k + 1 by omega)] at this
    rw [List.getElem?_eq_getElem (by omega), List.getElem?_eq_getElem hb] at this
    exact (Option.some.inj this).symm
  · rw [List.eraseIdx_eq_take_drop_succ, List.take_append_of_le_length (by rw [List.length_take]; omega), List.take_take, Nat.min_self, h1]
  · rw [List.length_eraseIdx_of_lt (by omega)]; omega
end
end Go.Proofs.Ytbhpnhcdjmcaoaa

/- slices.Delete of one cell. -/
namespace Go.Proofs.Ytbhpnhcdjmcaoaa
open Go.RowKit
set_option linter.unusedVariables false
set_option linter.unusedSimpArgs false
section
variable {P : Program}
theorem run_app_in (w : World) (t ty e : TypeId) (i : TypeInfo) (ht : P.underlying t = some (.slice e)) (hi : P.info? e = some i) (hsz : i.size = 2) (g off n cap : Nat) (cur : Array Value) (hg : w.heap[g]? = some (.cells cur e (0, 0)))
    (a : Addr) (m c : Nat) (news : List Value) (hl : news.length = m * 2) (hnews : ∀ j u, news[j]? = some u → w.cell? (a.add j) = some u) (h1 : ∀ u ∈ news, u.oneCell' = true) (hroom : n + m ≤ cap) (hcs : off + cap * 2 ≤ cur.size) :
    (Builtin.append_ #[t, t] ty #[.slice (some ⟨g, off, none⟩) n cap, .slice (some a) m c]).run P w = .ok (.slice (some ⟨g, off, none⟩) (n + m) cap) (w.setRow g (cur.toList.take (off + n * 2) ++ news ++ cur.toList.drop (off + n * 2 + news.length)).toArray) := by
  have hf := run_firstCells_some (P := P) w i.size m a m c news (by rw [hsz]; exact hl) hnews
  have hst := run_storeCells_at P g (off + n * i.size) e news 0 cur w hg (by rw [hsz]; omega) h1
  simp only [Nat.add_zero] at hst
  have hadd : (⟨g, off, none⟩ : Addr).add (n * i.size) = ⟨g, off + n * i.size, none⟩ := by unfold Addr.add; split <;> simp_all
  rw [← hsz]
  simp [Builtin.append_, run_underlying ht, sizeOf, typeInfo, hi, Builtin.lenOf, hroom, hf, hadd, hst]
theorem run_clear_one (w : World) (t e ty : TypeId) (z : Value) (ht : P.underlying t = some (.slice e)) (hv : ∀ w, (zeroValue e).run P w = .ok z w) (x y : Value) (hz : z.cells = #[x, y]) (h1 : x.oneCell' = true) (h2 : y.oneCell' = true) (g o c : Nat) (cur : Array Value) (hg : w.heap[g]? = some (.cells cur e (0, 0))) (hcs : o + 2 ≤ cur.size) :
    (Builtin.clear_ #[t] ty #[.slice (some ⟨g, o, none⟩) 1 c]).run P w = .ok (.tuple #[]) (w.setRow g (cur.toList.take o ++ [x, y] ++ cur.toList.drop (o + 2)).toArray) := by
  have hst := run_storeCells_at P g o e [x, y] 0 cur w hg (by simpa using hcs) (by intro v hv; simp at hv; rcases hv with rfl | rfl; exact h1; exact h2)
  simp only [Nat.add_zero] at hst
  have hzc : (Builtin.zeroCells z.cells 1).toList = [x, y] := by rw [hz]; simp [Builtin.zeroCells, Array.toList_range, List.range_succ]
  simp [Builtin.clear_, run_underlying ht, hv, hzc, hst]
/-- An append in a region that draws its order, by its run. -/
theorem step_append_any {ops : Array Oper} {o : Oper} {a : Act} {w : World} {K : Act → World → Prop} {Q : Exit → Act → World → Prop} {E : Prop}
    (hg : o.guard = none) (s x : Operand) (t : TypeId) (hop : o.op = Op.call { callee := Callee.builtin Builtin.append, args := #[s, x], argTypes := #[t, t] })
    (vs vx v' : Value) (w' : World) (hs : a.eval s = vs) (hx : a.eval x = vx) (hrun : ∀ ty, (Builtin.append_ #[t, t] ty #[vs, vx]).run P w = .ok v' w') (hK : K (a.put o.dst v') w') :
    if Region.wanted o (yielded ops a.tmps) = true then Oper.wp P o a w K Q else E := by
  have hw : Region.wanted o (yielded ops a.tmps) = true := by simp [Region.wanted, hg]
  rw [if_pos hw]
  unfold Oper.wp
  simp [execOp, hop, resolve, invoke, builtin, hs, hx, hrun, Result.andThen]
  exact hK
end
theorem row_del {w : World} {n0 g off n cap i : Nat} {xs : List Value} {cur : Array Value} {x y : Value} (hg : w.heap[g]? = some (.cells cur 57 (0, 0))) (hx : xs.length = n * 2) (hb : n0 ≤ g) (hnc : n ≤ cap) (hcm : cap ≤ maxLen) (hcs : off + cap * 2 ≤ cur.size) (htake : (cur.toList.drop off).take (n * 2) = xs) (hi : i < n) (w1 w2 : World)
    (hw1 : w1 = w.drew.setRow g (cur.toList.take (off + i * 2) ++ xs.drop ((i + 1) * 2) ++ cur.toList.drop (off + i * 2 + (xs.drop ((i + 1) * 2)).length)).toArray)
    (hw2 : ∀ cur1, w1.heap[g]? = some (.cells cur1 57 (0, 0)) → w2 = w1.setRow g (cur1.toList.take (off + (i + (n - (i + 1))) * 2) ++ [x, y] ++ cur1.toList.drop (off + (i + (n - (i + 1))) * 2 + 2)).toArray) :
    w.grownBy w2 (some g) ∧ rowO w2 n0 57 2 (.slice (some ⟨g, off, none⟩) (i + (n - (i + 1))) cap) (i + (n - (i + 1))) (xs.take (i * 2) ++ xs.drop ((i + 1) * 2)) := by
  have hlx : (xs.drop ((i + 1) * 2)).length = (n - (i + 1)) * 2 := by rw [List.length_drop, hx]; omega
  have hg1 : w1.heap[g]? = some (.cells (cur.toList.take (off + i * 2) ++ xs.drop ((i + 1) * 2) ++ cur.toList.drop (off + i * 2 + (xs.drop ((i + 1) * 2)).length)).toArray 57 (0, 0)) := by
    rw [hw1]; exact setRow_heap w.drew g cur _ 57 _ hg
  have h2 := hw2 _ hg1
  have hcl : cur.toList.length = cur.size := Array.length_toList
  have ht1 : (cur.toList.take (off + i * 2)).length = off + i * 2 := by rw [List.length_take]; omega
  have hgg := setRow_heap w1 g _ (List.toArray (List.take (off + (i + (n - (i + 1))) * 2) (cur.toList.take (off + i * 2) ++ xs.drop ((i + 1) * 2) ++ cur.toList.drop (off + i * 2 + (xs.drop ((i + 1) * 2)).length)) ++ [x, y] ++ List.drop (off + (i + (n - (i + 1))) * 2 + 2) (cur.toList.take (off + i * 2) ++ xs.drop ((i + 1) * 2) ++ cur.toList.drop (off + i * 2 + (xs.drop ((i + 1) * 2)).length)))) 57 _ hg1
  simp only [List.toList_toArray] at h2
  rw [← h2] at hgg
  have e1 : (cur.toList.take (off + i * 2) ++ xs.drop ((i + 1) * 2) ++ cur.toList.drop (off + i * 2 + (xs.drop ((i + 1) * 2)).length)).take (off + (i + (n - (i + 1))) * 2) = cur.toList.take (off + i * 2) ++ xs.drop ((i + 1) * 2) := by
    rw [List.take_left' (by rw [List.length_append, ht1, hlx]; omega)]
  rw [e1] at hgg
  refine ⟨?_, ?_, .inr ⟨g, off, cap, _, rfl, hb, hgg, by omega, hcm, ?_, ?_⟩⟩
  · rw [h2, hw1]
    exact ⟨rfl, rfl, rfl, by simp, fun k hk hne => by rw [setRow_other _ g k _ (fun e => hne (by rw [e])), setRow_other _ g k _ (fun e => hne (by rw [e]))]; rfl⟩
  · rw [List.length_append, List.length_take, hlx, hx]; omega
  · simp only [List.size_toArray, List.length_append, List.length_drop, ht1, hlx, List.length_cons, List.length_nil]; omega
  · rw [List.append_assoc, List.append_assoc, List.drop_append_of_le_length (by rw [ht1]; omega), List.drop_take, show off + i * 2 - off = i * 2 by omega]
    have : (cur.toList.drop off).take (i * 2) = xs.take (i * 2) := by rw [← htake, List.take_take]; congr 1; omega
    rw [this, ← List.append_assoc, List.take_left' (by rw [List.length_append, List.length_take, hlx, hx]; omega)]
set_option maxRecDepth 1000000 in
set_option maxHeartbeats 4000000 in
theorem delete_any (g off n cap i j : Nat) (w : World) (n0 : Nat) (xs : List Value) (hown : rowO w n0 57 2 (.slice (some ⟨g, off, none⟩) n cap) n xs) (h1 : ∀ u ∈ xs, u.oneCell' = true) (hij : j = i + 1) (hj : j ≤ n) :
    Calls Try.prog 91 #[.slice (some ⟨g, off, none⟩) n cap, .int .i64 i, .int .i64 j] w fun e w' => e = .returned (.slice (some ⟨g, off, none⟩) (i + (n - j)) cap) ∧ w.grownBy w' (some g) ∧ rowO w' n0 57 2 (.slice (some ⟨g, off, none⟩) (i + (n - j)) cap) (i + (n - j)) (xs.take (i * 2) ++ xs.drop (j * 2)) := by
  obtain ⟨hx, ⟨h', _⟩ | ⟨g', off', cap', cur, h', hb, hg, hnc, hcm, hcs, htake⟩⟩ := hown
  · simp at h'
  simp only [Value.slice.injEq, Option.some.injEq, Addr.mk.injEq, and_true, true_and] at h'
  obtain ⟨⟨rfl, rfl⟩, rfl⟩ := h'
  obtain ⟨i0, hi0, hz0⟩ : ∃ i, Try.prog.info? 57 = some i ∧ i.size = 2 := ⟨(Try.prog.info? 57).getD default, by kernel_rfl, by kernel_rfl⟩
  have hcell : ∀ t u, xs[t]? = some u → w.drew.cell? ⟨g, off + t, none⟩ = some u := by
    intro t u hu
    have ht : t < n * 2 := by rw [← hx]; exact (List.getElem?_eq_some_iff.1 hu).1
    show w.cell? _ = _
    rw [cell_of_row w g (off + t) cur 57 (0, 0) hg, ← hu, ← htake, List.getElem?_take, if_pos ht, List.getElem?_drop]
    simp
  obtain ⟨news, hnews⟩ : ∃ news, news = xs.drop (j * 2) := ⟨_, rfl⟩
  have hlen : news.length = (n - j) * 2 := by rw [hnews, List.length_drop, hx]; omega
  obtain ⟨A, hA, hsrc⟩ : ∃ A : Addr, (if cap = j then some (⟨g, off, none⟩ : Addr) else some ⟨g, off + j * 2, none⟩) = some A ∧ (∀ t u, news[t]? = some u → w.drew.cell? (A.add t) = some u) := by
    by_cases h : cap = j
    · refine ⟨⟨g, off, none⟩, by simp [h], fun t u hu => ?_⟩
      have h0 : news.length = 0 := by rw [hlen]; omega
      rw [List.length_eq_zero_iff.1 h0] at hu
      simp at hu
    · refine ⟨⟨g, off + j * 2, none⟩, by simp [h], fun t u hu => ?_⟩
      rw [hnews, List.getElem?_drop] at hu
      rw [Addr.add_lit, Nat.add_assoc]
      exact hcell _ _ hu
  obtain ⟨W1, hW1⟩ : ∃ W1, W1 = w.drew.setRow g (cur.toList.take (off + i * 2) ++ news ++ cur.toList.drop (off + i * 2 + news.length)).toArray := ⟨_, rfl⟩
  have hrun : ∀ ty, (Builtin.append_ #[30, 30] ty #[.slice (some ⟨g, off, none⟩) i cap, .slice (some A) (n - j) (cap - j)]).run Try.prog w.drew = .ok (.slice (some ⟨g, off, none⟩) (i + (n - j)) cap) W1 := fun ty => by
    rw [hW1]
    exact run_app_in w.drew 30 ty 57 i0 Try.underlying30 hi0 hz0 g off i cap cur hg A (n - j) (cap - j) news hlen hsrc (fun u hu => h1 u (List.mem_of_mem_drop (hnews ▸ hu))) (by omega) hcs
  have hg1 : W1.heap[g]? = some (.cells (cur.toList.take (off + i * 2) ++ news ++ cur.toList.drop (off + i * 2 + news.length)).toArray 57 (0, 0)) := by
    rw [hW1]; exact setRow_heap w.drew g cur _ 57 _ hg
  have hsz1 : off + (i + (n - j)) * 2 + 2 ≤ (cur.toList.take (off + i * 2) ++ news ++ cur.toList.drop (off + i * 2 + news.length)).toArray.size := by
    simp only [List.size_toArray, List.length_append, List.length_take, List.length_drop, Array.length_toList, hlen]; omega
  obtain ⟨cur1, hcur1⟩ : ∃ c, c = (cur.toList.take (off + i * 2) ++ news ++ cur.toList.drop (off + i * 2 + news.length)).toArray := ⟨_, rfl⟩
  rw [← hcur1] at hg1 hsz1
  have hone : n - (i + (n - j)) = 1 := by omega
  obtain ⟨W2, hW2⟩ : ∃ W2, W2 = W1.setRow g (cur1.toList.take (off + (i + (n - j)) * 2) ++ [Value.int .i64 0, Value.int .i64 0] ++ cur1.toList.drop (off + (i + (n - j)) * 2 + 2)).toArray := ⟨_, rfl⟩
  have hcl : ∀ ty, (Builtin.clear_ #[30] ty #[.slice (some ⟨g, off + (i + (n - j)) * 2, none⟩) (n - (i + (n - j))) (cap - (i + (n - j)))]).run Try.prog W1 = .ok (.tuple #[]) W2 := fun ty => by
    rw [hone, hW2]
    exact run_clear_one W1 30 57 ty _ Try.underlying30 (fun w => Try.zeroValue57 w) _ _ rfl rfl rfl g _ _ cur1 hg1 hsz1
  have hfin := row_del (w := w) (n0 := n0) (x := .int .i64 0) (y := .int .i64 0) hg hx hb hnc hcm hcs htake (i := i) (by omega) W1 W2 (by rw [hW1, hnews, hij]) (fun c hc => by rw [hg1] at hc; cases hc; rw [hW2, hij])
  rw [← hij] at hfin
  have hic : i ≤ cap := by omega
  have hjc : j ≤ cap := by omega
  have hij' : i ≠ j := by omega
  have hle : i ≤ j := by omega
  have H1 : Hid (∀ ty, (Builtin.append_ #[30, 30] ty #[.slice (some ⟨g, off, none⟩) i cap, .slice (some A) (n - j) (cap - j)]).run Try.prog w.drew = .ok (.slice (some ⟨g, off, none⟩) (i + (n - j)) cap) W1) := hrun
  clear hij hrun hcell hsrc hW1 hW2 hg1 hsz1 hcur1 hg htake h1 hone hnews hlen
  go_enter Try.func91, Try.ntmps91
  go_wp2_with fail
  go_region_law (refine step_append_any rfl (.tmp 22) (.tmp 25) 30 rfl (.slice (some ⟨g, off, none⟩) i cap) (.slice (some A) (n - j) (cap - j)) (.slice (some ⟨g, off, none⟩) (i + (n - j)) cap) W1 (by simp [Act.eval, Act.put]) (by simp [Act.eval, Act.put, *]) H1.out ?_)
  go_wp2
  go_ret
  exact ⟨rfl, hfin⟩
end Go.Proofs.Ytbhpnhcdjmcaoaa

/- slices.Clone, slices.Delete, slices.Backward at cells: calls of the calculus. -/
namespace Go.Proofs.Ytbhpnhcdjmcaoaa
open Go.RowKit
set_option linter.unusedVariables false
set_option linter.unusedSimpArgs false
theorem own_baseC {w : World} {b b' e sz n : Nat} {v : Value} {xs : List Value} (h : w.ownsRow b e sz v n xs) (hb : b' ≤ b) : w.ownsRow b' e sz v n xs := by
  obtain ⟨h1, h2 | ⟨g, cap, cur, hv, hg, hh, hn, hm, hs, ht⟩⟩ := h
  · exact ⟨h1, .inl h2⟩
  · exact ⟨h1, .inr ⟨g, cap, cur, hv, by omega, hh, hn, hm, hs, ht⟩⟩
theorem own_sliceC {w : World} {base n : Nat} {v : Value} {xs : List Value} (h : w.ownsRow base 57 2 v n xs) : ∃ ao c, v = .slice ao n c ∧ ∀ a, ao = some a → base ≤ a.block := by
  obtain ⟨h1, ⟨rfl, h2⟩ | ⟨g, cap, cur, rfl, hb, hh, hn, hm, hs, ht⟩⟩ := h
  · exact ⟨none, 0, by rw [h2], fun a ha => by cases ha⟩
  · exact ⟨_, _, rfl, fun a ha => by cases ha; exact hb⟩
theorem ro_getC {w : World} {ao : Option Addr} {l : List Value} {k : Nat} (h : RoAt w ao l) (hk : k < l.length) : ∃ b off, ao = some ⟨b, off, none⟩ ∧ b < w.heap.size ∧ w.cell? ⟨b, off + k, none⟩ = some (l.getD k undef) := by
  obtain ⟨b, off, h1, h2, h3⟩ := h (by intro e; rw [e] at hk; simp at hk)
  exact ⟨b, off, h1, h2, h3 k hk⟩
set_option maxRecDepth 100000 in
set_option maxHeartbeats 400000 in
theorem cloneC_any (ao : Option Addr) (c n : Nat) (xs : List Value) (w : World) (hl : RoAt w ao xs) (h2 : xs.length = n * 2) (h1 : ∀ u ∈ xs, u.oneCell' = true) (hn : n ≤ 1000000) :
    Calls Try.prog 88 #[.slice ao n c] w fun e w' => ∃ rv, e = .returned rv ∧ w'.ownsRow w.heap.size 57 2 rv n xs ∧ Below w.heap.size w w' := by
  cases ao with
  | none =>
    have h0 : n = 0 := by
      cases n with
      | zero => rfl
      | succ n => obtain ⟨b, off, h, _⟩ := ro_getC hl (k := 0) (by omega); cases h
    subst h0
    have hx : xs = [] := List.eq_nil_of_length_eq_zero (by simpa using h2)
    subst hx
    have he := fun W => Lib.run_eql_slice_nil (P := Try.prog) W 30 57 none 0 c 0 0 Try.underlying30
    go_enter Try.func88, Try.ntmps88
    go_wp2
    go_ret
    exact ⟨_, rfl, World.ownsRow_nil _ _ _ _, Below.refl _ _⟩
  | some a =>
    have he := fun W => Lib.run_eql_slice_nil (P := Try.prog) W 30 57 (some a) n c 0 0 Try.underlying30
    obtain ⟨i0, hi, hz0, hz1, hz2⟩ : ∃ i, Try.prog.info? 57 = some i ∧ i.size = 2 ∧ i.bytes = 16 ∧ i.zero = some (.agg #[.int .i64 0, .int .i64 0]) := ⟨(Try.prog.info? 57).getD default, by kernel_rfl, by kernel_rfl, by kernel_rfl, by kernel_rfl⟩
    have hown : (w.alloc (.cells #[] 57)).ownsRow w.heap.size 57 2 (.slice (some ⟨w.heap.size, 0, none⟩) 0 0) 0 [] :=
      ⟨rfl, .inr ⟨w.heap.size, 0, #[], rfl, Nat.le_refl _, World.alloc_heap_new _ _, Nat.le_refl _, by simp [maxLen], rfl, rfl⟩⟩
    have hnews : ∀ j u, xs[j]? = some u → (w.alloc (.cells #[] 57)).cell? (a.add j) = some u := by
      intro j u hj
      obtain ⟨hj1, hj2⟩ := List.getElem?_eq_some_iff.1 hj
      obtain ⟨b, off, ha, hb, hc⟩ := ro_getC hl hj1
      obtain rfl : a = ⟨b, off, none⟩ := by simpa using ha
      have : (⟨b, off, none⟩ : Addr).add j = ⟨b, off + j, none⟩ := by
        unfold Addr.add; split
        · rename_i h; subst h; rfl
        · rfl
      rw [this, World.cell?_alloc_lt _ _ _ hb, hc, ← hj2]
      simp [List.getD_eq_getElem?_getD, List.getElem?_eq_getElem hj1]
    have hxl : xs.length = n * 2 := h2
    go_enter Try.func88, Try.ntmps88
    go_wp2_with (first | (at_builtin; go_loud (refine wpList_append_own _ rfl _ _ 30 rfl w.heap.size 57 i0 (.agg #[.int .i64 0, .int .i64 0]) 2 16 Try.underlying30 hi hz2 hz0 hz1 rfl (by decide) _ _ _ rfl hown a n c xs rfl hxl hnews h1 (by simp [maxLen]; omega) (by omega) (by simp) ?_; intro v' w1 hown1 hgrow1 _)))
    go_ret
    exact ⟨_, rfl, by simpa using hown1, ((Below.refl _ _).alloc (Nat.le_refl _) _).grown hgrow1 (by simp) (fun k e => by cases e; exact Nat.le_refl _)⟩
theorem cloneC_k {n0 nx a : Nat} {k : Kd} {l : List Cell} {L : List E} {K : V → List E → Nat → Prop} (hn : l.length ≤ 1000000) (ha : find L a = some ⟨a, k, cellC l⟩) (hK : K (V.c (.sl nx l.length)) [⟨nx, .vec 57 2, cellC l⟩] (nx + 1)) : CallK Try.prog n0 88 [V.c (.sl a l.length)] L nx K := by
  refine ⟨by kernel_rfl, fun ρ w hp _ => ?_⟩
  have hag : ∀ ρ' : Env, (cellC l).map (C.den ρ') = (cellC l).map (C.den ρ) := fun ρ' => List.map_congr_left fun c hc => by obtain ⟨z, rfl⟩ := cellC_mem hc; rfl
  have hc := cloneC_any (ρ a).1 (ρ a).2 l.length ((cellC l).map (C.den ρ)) w (hp.row ha).1 (by rw [List.length_map, cellC_len]; omega) (fun u hu => by
    obtain ⟨c, hc, rfl⟩ := List.mem_map.1 hu
    obtain ⟨z, rfl⟩ := cellC_mem hc; rfl) hn
  refine Calls.mono (show Calls Try.prog 88 ([V.c (.sl a l.length)].map (V.den ρ)).toArray w _ from hc) ?_
  rintro e w' ⟨rv, rfl, hown, hbw⟩
  obtain ⟨ao, c, rfl, hblk⟩ := own_sliceC hown
  refine ⟨V.c (.sl nx l.length), [⟨nx, .vec 57 2, cellC l⟩], nx + 1, ρ.put nx ao c, ?_, Nat.le_succ _, Nat.lt_succ_self nx, Env.put_agr _ _ _ _, hbw, News.one ?_ rfl (wf_cells _ _) ?_, hK⟩
  · simp [V.den, A.den, C.den, Env.put_same]
  · refine ⟨l.length, ?_⟩
    simp only [Env.put_same]
    rw [hag]
    exact rowO.of (own_baseC hown hp.base)
  · intro b hb
    simp only [blk, Env.put_same, Option.map_eq_some_iff] at hb
    obtain ⟨a, ha, rfl⟩ := hb
    exact hblk a ha
/-- One cell of a row of one's own, left out. -/
theorem CallM.del {n0 nx l n k : Nat} {z1 z2 : Int} {cs : List C} {L : List E} {K : V → List E → Nat → Prop} (hf : find L l = some ⟨l, .vec 57 2, cs⟩) (hlen : cs.length = n * 2) (hk : k < n) (hz1 : z1 = k) (hz2 : z2 = k + 1)
    (hK : rmK l L fun L' => K (V.c (.sl nx (n - 1))) (⟨nx, .vec 57 2, cs.take (k * 2) ++ cs.drop ((k + 1) * 2)⟩ :: L') (nx + 1)) : CallM Try.prog n0 91 [V.c (.sl l n), V.i z1, V.i z2] L nx K := by
  subst hz1 hz2
  refine ⟨by kernel_rfl, fun ρ w hp _ => ?_⟩
  rw [rmK_eq] at hK
  obtain ⟨hm, _⟩ := find_mem hf
  have hok := hp.ok _ hm
  have hwf := hp.wf _ hm
  obtain ⟨n', hown⟩ := hok
  simp only at hown
  have hn' : n' = n := by
    have h5 := hown.1
    simp only [List.length_map, hlen] at h5
    omega
  subst hn'
  have hblk := hown
  obtain ⟨_, ⟨_, h0⟩ | ⟨g, off, cap, cur, hv, hb, hg, _⟩⟩ := hown
  · omega
  have hv1 : (ρ l).1 = some ⟨g, off, none⟩ ∧ (ρ l).2 = cap := by
    simp only [Value.slice.injEq, true_and] at hv; exact hv
  rw [hv] at hblk
  have hc := delete_any g off n' cap k (k + 1) w n0 (cs.map (C.den ρ)) hblk (fun u hu => by
    obtain ⟨c, hc, rfl⟩ := List.mem_map.1 hu
    exact C.one (hwf.2 c hc) ρ) rfl (by omega)
  have hargs : ([V.c (.sl l n'), V.i (k : Nat), V.i ((k : Nat) + 1)].map (V.den ρ)).toArray = #[.slice (some ⟨g, off, none⟩) n' cap, .int .i64 (k : Nat), .int .i64 ((k + 1 : Nat) : Int)] := by
    simp [V.den, A.den, C.den, hv1.1, hv1.2]
  rw [hargs]
  refine hc.mono ?_
  rintro e w' ⟨rfl, hgr, hrow⟩
  have hkn : k + (n' - (k + 1)) = n' - 1 := by omega
  rw [hkn] at hrow ⊢
  have hcells : List.take (k * 2) (cs.map (C.den ρ)) ++ List.drop ((k + 1) * 2) (cs.map (C.den ρ)) = (cs.take (k * 2) ++ cs.drop ((k + 1) * 2)).map (C.den ρ) := by
    rw [List.map_append, List.map_take, List.map_drop]
  rw [hcells] at hrow
  have hob : blk ρ l = some g := by simp [blk, hv1.1]
  obtain ⟨g1, g2⟩ := hp.moved (L0 := rmL L l) (v := .slice (some ⟨g, off, none⟩) n' cap) (fun e he => (rmL_mem he).1) (fun y hy hcs b hb' => by
    have := cut_gone hp hm rfl rfl y hy hcs b hb'
    rw [hob] at this; exact this) (fun c hc => by
    rcases List.mem_append.1 hc with hc | hc
    · exact hwf.2 c (List.mem_of_mem_take hc)
    · exact hwf.2 c (List.mem_of_mem_drop hc)) (fun b hb' => by
      simp only [Value.ownBlock, Option.some.injEq] at hb'
      subst hb'
      exact ⟨hb, fun o ho => by rw [hg] at ho; cases ho; rfl⟩) hrow hgr (fun b hb' => .inl (by simpa [Value.ownBlock] using hb'))
  exact ⟨V.c (.sl nx (n' - 1)), _, nx + 1, ρ.put nx (some ⟨g, off, none⟩) cap, by simp [V.den, A.den, C.den, Env.put_same], by omega, Nat.lt_succ_self nx, Env.put_agr _ _ _ _, g2, g1, hK⟩
theorem backC_spec (lc n nx : Nat) (L : List E) : SpecM Try.prog 89 [V.c (.sl lc n)] L nx (fun v L' nx' => v = V.c (.fn 107 [(nx, 0)]) ∧ L' = ⟨nx, .own 30, [.sl lc n]⟩ :: L ∧ nx' = nx + 1) := by
  refine SpecM.of tok Try.func89 rfl rfl rfl fun n0 cx => vc_ok tok ?_
  repeat ((conv => whnf); first | (refine And.intro (by first | omega | exact Nat.le_of_ble_eq_true rfl | (dsimp only [inK]; omega) | (simp only [mulS_eq]; omega) | (simp only [mulS_eq, setL_length]; omega) | (simp only [setL_length]; omega) | (simp only [setL_length, List.length_map]; omega) | (exact ⟨by omega, by omega, by first | exact Nat.le_of_ble_eq_true rfl | (dsimp only; omega) | (simp only [setL_length]; omega) | (simp only [setL_length, List.length_map]; omega)⟩) | (exact ⟨by omega, by first | rfl | omega, by omega, Nat.le_of_ble_eq_true rfl, Nat.le_of_ble_eq_true rfl⟩) | (exact ⟨rfl, rfl, rfl, Nat.le_of_ble_eq_true rfl, by first | rfl | omega | exact Nat.le_of_ble_eq_true rfl | (dsimp only; omega) | (simp; done) | (simp; omega), by first | rfl | omega | exact Nat.le_of_ble_eq_true rfl | (dsimp only; omega) | (simp; done) | (simp; omega), by omega, Nat.le_of_ble_eq_true rfl⟩) | exact Eq.refl true) ?_) | refine Exists.intro _ (And.intro rfl ?_) | refine And.intro (And.intro rfl (chk_rowI _ _ _ _)) ?_ | refine br_t (by omega) ?_ | refine br_f (by omega) ?_ | refine bs_t (by omega) ?_ | refine bs_f (by omega) ?_ | refine fun (K' : K3) hK' => ?_ | (refine hK' _ _ _ ?_; clear hK' K') | refine draw_auto tok mixed (by kernel_rfl) ?_ | refine bs_bt (Eq.refl true) ?_ | refine bs_bf (Eq.refl false) ?_ | refine br_bt (Eq.refl true) ?_ | refine br_bf (Eq.refl false) ?_ | refine CallK.m ?_ | refine Two.l ?_ | refine And.intro (And.intro rfl rfl) ?_)
  exact ⟨rfl, rfl, rfl⟩
theorem bmF_del (f : Int → Bool) (i : Int) : delF (bmF f) [i] = bmF (fun j => f j && !decide (j = i)) := by
  funext k
  unfold delF
  match k with
  | [] => rfl
  | [j] =>
    by_cases h : j = i
    · subst h; simp [bmF]
    · have : ¬ ([j] : List Int) = [i] := by simpa using h
      simp only [this, if_false, bmF, h, decide_false, Bool.not_false, Bool.and_true]
  | _ :: _ :: _ => simp [bmF]
/-- The cells of a list but one. -/
theorem cellC_erase : ∀ (l : List Cell) (k : Nat), (cellC l).take (k * 2) ++ (cellC l).drop ((k + 1) * 2) = cellC (l.eraseIdx k)
  | [], k => by simp [cellC]
  | x :: r, 0 => by simp [cellC_cons]
  | x :: r, k + 1 => by
    have := cellC_erase r k
    rw [List.eraseIdx_cons_succ, cellC_cons, cellC_cons, ← this, show (k + 1 + 1) * 2 = ((k + 1) * 2 + 1) + 1 by omega, show (cellC r).take (k * 2) = (cellC r).take (k * 2) from rfl]
    simp only [show (k + 1) * 2 = (k * 2 + 1) + 1 by omega, List.take_succ_cons, List.drop_succ_cons, List.cons_append]
end Go.Proofs.Ytbhpnhcdjmcaoaa

/- Boom: Thin. -/
namespace Go.Proofs.Ytbhpnhcdjmcaoaa
open Go.RowKit
set_option linter.unusedVariables false
set_option linter.unusedSimpArgs false
noncomputable def thC (W H : Int) (cs : List Int) (bs : List Cell) : List Cell := if okC W H cs && okB W H cs bs && blkL W H cs bs then thinO W H cs bs else []
noncomputable def thE (W H : Int) (cs : List Int) (bs : List Cell) : Int := if okC W H cs then (if okB W H cs bs then (if blkL W H cs bs then 0 else 5) else 2) else 30
set_option maxRecDepth 10000 in
set_option maxHeartbeats 8000000 in
theorem Thin_spec (W H : Int) (cs : List Int) (bs : List Cell) (hl : cs.length ≤ 300) (hb : bs.length ≤ 300) :
    Spec Try.prog 48 [chR W H cs.length, V.c (.sl 1 bs.length)] [⟨0, .ro 0, cs.map C.i⟩, ⟨1, .ro 0, cellC bs⟩] 2 (fun v L' _ => cellsE (thC W H cs bs) (thE W H cs bs) v L') := by
  unfold thC thE
  have hcl := cellC_len bs
  refine Spec.of tok Try.func48 rfl rfl rfl fun n0 cx => vc_ok tok ?_
  cases hv : okC W H cs with
  | false =>
    repeat ((conv => whnf); first | (refine And.intro (by first | omega | exact Nat.le_of_ble_eq_true rfl) ?_) | refine Exists.intro _ (And.intro rfl ?_) | refine br_t (by omega) ?_ | refine fun (K' : K3) hK' => ?_ | (refine hK' _ _ _ ?_; clear hK' K') | refine CallK.newNo (a := 0) (bs := bs) (R := []) 30 hl hb (.inl ⟨hv, rfl⟩) rfl rfl ⟨roE_ints (l := 0) rfl (by omega) rfl (.inl rfl), roE_cells (l := 1) rfl (by omega) rfl (.inl rfl), trivial⟩ ?_ | refine CallK.m ?_)
    exact .inl ⟨rfl, rfl⟩
  | true =>
    cases hB : okB W H cs bs with
    | false =>
      repeat ((conv => whnf); first | (refine And.intro (by first | omega | exact Nat.le_of_ble_eq_true rfl) ?_) | refine Exists.intro _ (And.intro rfl ?_) | refine br_t (by omega) ?_ | refine fun (K' : K3) hK' => ?_ | (refine hK' _ _ _ ?_; clear hK' K') | refine CallK.newNo (a := 0) (bs := bs) (R := []) 2 hl hb (.inr ⟨hv, hB, rfl⟩) rfl rfl ⟨roE_ints (l := 0) rfl (by omega) rfl (.inl rfl), roE_cells (l := 1) rfl (by omega) rfl (.inl rfl), trivial⟩ ?_ | refine CallK.m ?_)
      exact .inl ⟨rfl, rfl⟩
    | true =>
      have hok := okC_iff.1 hv
      have hbl := fun f => blocks_spec W H cs f hok
      have hbl0 := hbl (boomF W H bs)
      rw [show (chanO W H cs.length (wetB cs (boomF W H bs))).isNone = blkL W H cs bs from rfl] at hbl0
      cases hk : blkL W H cs bs with
      | false =>
        rw [hk] at hbl0
        repeat ((conv => whnf); first | (refine And.intro (by first | omega | exact Nat.le_of_ble_eq_true rfl) ?_) | refine Exists.intro _ (And.intro rfl ?_) | refine br_f (by omega) ?_ | refine fun (K' : K3) hK' => ?_ | (refine hK' _ _ _ ?_; clear hK' K') | refine CallK.newOk (a := 0) (bs := bs) (R := []) hl hb hv hB rfl rfl (by omega) ⟨roE_ints (l := 0) rfl (by omega) rfl (.inl rfl), roE_cells (l := 1) rfl (by omega) rfl (.inl rfl), trivial⟩ ?_ | refine CallK.val (R := [(1, some 3)]) hbl0 (by kernel_rfl) rfl (by simp [V.wf, A.wf, C.wf]) ⟨roE_ints (l := 0) rfl (by omega) rfl (.inl rfl), roE_map (l := 3) rfl (by omega) rfl, trivial⟩ rfl rfl trivial ?_ | refine br_bt (Eq.refl true) ?_ | refine CallK.m ?_)
        exact .inl ⟨rfl, rfl⟩
      | true =>
        rw [hk] at hbl0
        have hW : 0 < W := by have := hok.w; omega
        repeat ((conv => whnf); first | (refine And.intro (by first | omega | exact Nat.le_of_ble_eq_true rfl) ?_) | refine Exists.intro _ (And.intro rfl ?_) | refine br_f (by omega) ?_ | refine fun (K' : K3) hK' => ?_ | (refine hK' _ _ _ ?_; clear hK' K') | refine CallK.newOk (a := 0) (bs := bs) (R := []) hl hb hv hB rfl rfl (by omega) ⟨roE_ints (l := 0) rfl (by omega) rfl (.inl rfl), roE_cells (l := 1) rfl (by omega) rfl (.inl rfl), trivial⟩ ?_ | refine CallK.val (R := [(1, some 3)]) hbl0 (by kernel_rfl) rfl (by simp [V.wf, A.wf, C.wf]) ⟨roE_ints (l := 0) rfl (by omega) rfl (.inl rfl), roE_map (l := 3) rfl (by omega) rfl, trivial⟩ rfl rfl trivial ?_ | refine cloneC_k (l := bs) (by omega) rfl ?_ | refine CallK.fresh (by kernel_rfl) (backC_spec _ _ _ _) rfl ?_ | refine br_bf (Eq.refl false) ?_ | refine CallK.m ?_)
        refine Tri.opq fun K' hK' => ?_
        refine Tri.rangeFunc tok (by exact rfl) (by kernel_rfl) (by exact rfl) (by exact rfl) (by exact rfl) (by exact rfl) (by exact rfl) (by exact rfl) ?_
        intro y cxi oo ob od hy hY
        refine vc_ok tok ?_
        repeat ((conv => whnf); first | (refine And.intro (by first | omega | (dsimp only [inK]; omega)) ?_) | refine Exists.intro _ (And.intro rfl ?_) | refine fun (K' : K3) hK' => ?_ | (refine hK' _ _ _ ?_; clear hK' K'))
        refine Tri.loop (γ := Nat × List Cell) (fun g => thinL (blkL W H cs) g.1 g.2 = thinO W H cs bs ∧ g.2.Sublist bs ∧ g.2.take g.1 = bs.take g.1 ∧ g.1 ≤ g.2.length) (fun g => [(0, V.c (.v y)), (1, V.c (.ptr 7 0)), (3, V.i ((g.1 : Int) - 1))])
          (fun g => [⟨8, .obj oo, []⟩, ⟨7, .own 30, [.sl 1 bs.length]⟩, ⟨6, .own 30, [.sl 20 g.2.length]⟩, ⟨20, .vec 57 2, cellC g.2⟩, ⟨4, .own 65, [C.i W, C.i H, .sl 0 cs.length, .mp 3]⟩, ⟨3, .mp true .int (bmF (boomF W H g.2)), []⟩, ⟨2, .own 24, [C.i W, C.i H, .sl 0 cs.length]⟩, ⟨0, .ro 0, cs.map C.i⟩, ⟨1, .ro 0, cellC bs⟩]) 21 (fun g => g.1) (bs.length, bs) (R0 := [(20, some 5)]) ?_ ?_ ?_
        · exact ⟨rfl, List.Sublist.refl _, rfl, Nat.le_refl _⟩
        · skip
          refine ⟨?_, ?_, rfl, rfl, by exact Nat.le_of_ble_eq_true rfl⟩
          · repeat (first | exact trivial | (refine And.intro (covS_syn (by rfl) rfl (by first | exact trivial | exact Nat.le_of_ble_eq_true rfl | exact hy)) ?_))
          · repeat (first | exact trivial | refine And.intro (covE_mp rfl (Nat.le_of_ble_eq_true rfl) rfl rfl) ?_ | refine And.intro (covE_some rfl (Nat.le_of_ble_eq_true rfl) (wf_cells _ _) rfl (ren_cells _ _)) ?_ | (refine And.intro (covE_some rfl (Nat.le_of_ble_eq_true rfl) (by first | exact wf_ints _ _ | simp [C.wf]) rfl (by first | exact ren_ints _ _ | rfl)) ?_))
        · rintro ⟨m, out⟩ ⟨hT, hs, ht, hm⟩
          simp only at hT hs ht hm ⊢
          have hol := hs.length_le
          refine vc_ok tok ?_
          cases m with
          | zero =>
            have hT : out = thinO W H cs bs := hT
            repeat ((conv => whnf); first | refine br_f (by omega) ?_ | refine fun (K' : K3) hK' => ?_ | (refine hK' _ _ _ ?_; clear hK' K') | refine Or.inl ?_ | refine And.intro (Eq.refl oo) ?_)
            refine hK' _ _ _ _ ?_
            repeat ((conv => whnf); first | refine Exists.intro _ (And.intro rfl ?_) | refine fun (K' : K3) hK' => ?_ | (refine hK' _ _ _ ?_; clear hK' K'))
            subst hT
            exact .inr ⟨20, rfl, rfl⟩
          | succ k =>
            have hkb : k < bs.length := by omega
            have hko : k < out.length := by omega
            obtain ⟨t1, t2, t3, t4⟩ := thin_step ht hm hkb
            have hoo := okB_sub hok hB hs
            have hld := cellT (l := bs) (k := k) (z := ((k + 1 : Nat) : Int) - 1) (by omega) hkb
            have e : bs.getD k (0, 0) = out[k] := by rw [List.getD_eq_getElem?_getD, List.getElem?_eq_getElem hkb]; exact t1
            rw [e] at hld
            have hon := (okB_mem hW hoo (List.getElem_mem hko)).1
            have hix := index_spec W H cs.length out[k].1 out[k].2 (by have := hok.w; omega) (by have := hok.h; omega)
            rw [show idxI W H out[k].1 out[k].2 = idxC W H out[k] from rfl] at hix
            have hbe := boomF_erase hok hoo hko
            have hbb := boomF_back (W := W) (H := H) hko
            have hbi := idxI_bd (x := out[k].1) (y := out[k].2) hok.w hok.h
            rw [show idxI W H out[k].1 out[k].2 = idxC W H out[k] from rfl] at hbi
            have hbl1 := hbl (boomF W H (out.eraseIdx k))
            rw [show (chanO W H cs.length (wetB cs (boomF W H (out.eraseIdx k)))).isNone = blkL W H cs (out.eraseIdx k) from rfl] at hbl1
            have hTT : thinL (blkL W H cs) k (if blkL W H cs (out.eraseIdx k) = true then out.eraseIdx k else out) = thinO W H cs bs := hT
            have hce := cellC_erase out k
            have hlo := cellC_len out
            have hle : (out.eraseIdx k).length = out.length - 1 := List.length_eraseIdx_of_lt hko
            obtain ⟨p, hp⟩ : ∃ p, p = out[k] := ⟨_, rfl⟩
            rw [← hp] at hld hix hbe hbb hbi
            obtain ⟨i, hi⟩ : ∃ i, i = idxC W H p := ⟨_, rfl⟩
            rw [← hi] at hix hbe hbb hbi
            have hdl : delF (bmF (boomF W H out)) [i] = bmF (boomF W H (out.eraseIdx k)) := by rw [bmF_del, hbe]
            repeat ((conv => whnf); first | (refine And.intro (by first | omega | (dsimp only [inK]; omega)) ?_) | with_reducible refine ld (hld) ?_ | refine Exists.intro _ (And.intro rfl ?_) | refine br_t (by omega) ?_ | refine fun (K' : K3) hK' => ?_ | (refine hK' _ _ _ ?_; clear hK' K'))
            refine hY _ _ _ _ (Nat.le_of_ble_eq_true rfl) rfl ⟨rfl, trivial⟩ ?_
            intro cxb hcx
            refine vc_ok tok ?_
            repeat ((conv => whnf); first | (refine And.intro (by first | omega | exact Nat.le_of_ble_eq_true rfl) ?_) | refine fun (K' : K3) hK' => ?_ | (refine hK' _ _ _ ?_; clear hK' K') | refine And.intro (Eq.refl oo) ?_)
            refine vc_ok tok ?_
            cases hkk : blkL W H cs (out.eraseIdx k) with
            | true =>
              rw [hkk] at hbl1
              rw [hkk, if_pos rfl] at hTT
              repeat ((conv => whnf); first | (refine And.intro (by first | omega | exact Nat.le_of_ble_eq_true rfl | (dsimp only [inK]; omega)) ?_) | refine Exists.intro _ (And.intro rfl ?_) | refine fun (K' : K3) hK' => ?_ | (refine hK' _ _ _ ?_; clear hK' K') | refine CallM.del (k := k) rfl (by omega) (by omega) (by omega) (by omega) ?_ | refine CallK.val (R := [(1, some 3)]) hix (by kernel_rfl) rfl (by simp [V.wf, A.wf, C.wf]) trivial rfl rfl trivial ?_ | (refine CallK.val (R := [(1, some 3)]) hbl1 (by kernel_rfl) rfl (by simp [V.wf, A.wf, C.wf]) ⟨roE_ints (l := 0) rfl (by omega) rfl (.inl rfl), roE_map (l := 3) rfl (by omega) (by rw [← hdl]; rfl), trivial⟩ rfl rfl trivial ?_) | refine And.intro (Eq.refl ob) ?_ | refine br_bt (Eq.refl true) ?_ | refine CallK.m ?_)
              refine ⟨(k, out.eraseIdx k), [(20, some 22)], ⟨hTT, (List.eraseIdx_sublist _ _).trans hs, t2, t4⟩, Nat.lt_succ_self k, ?_⟩
              simp only [hle]
              refine ⟨?_, ?_, rfl, rfl, by exact Nat.le_of_ble_eq_true rfl⟩
              · repeat (first | exact trivial | (refine And.intro (covS_syn (by first | rfl | (refine congrArg some (congrArg V.i ?_); omega)) rfl (by first | exact trivial | exact Nat.le_of_ble_eq_true rfl | exact hy)) ?_))
              · repeat (first | exact trivial | refine And.intro (covE_mp rfl (Nat.le_of_ble_eq_true rfl) rfl hdl) ?_ | refine And.intro (covE_some rfl (Nat.le_of_ble_eq_true rfl) (wf_cells _ _) rfl ((ren_cells _ _).trans (congrArg some hce.symm))) ?_ | refine And.intro (covE_some rfl (Nat.le_of_ble_eq_true rfl) (wf_cells _ _) rfl (ren_cells _ _)) ?_ | (refine And.intro (covE_some rfl (Nat.le_of_ble_eq_true rfl) (by first | exact wf_ints _ _ | simp [C.wf]) rfl (by first | exact ren_ints _ _ | rfl)) ?_))
            | false =>
              rw [hkk] at hbl1
              rw [hkk, if_neg (by simp)] at hTT
              repeat ((conv => whnf); first | (refine And.intro (by first | omega | exact Nat.le_of_ble_eq_true rfl | (dsimp only [inK]; omega)) ?_) | refine Exists.intro _ (And.intro rfl ?_) | refine fun (K' : K3) hK' => ?_ | (refine hK' _ _ _ ?_; clear hK' K') | refine CallK.val (R := [(1, some 3)]) hix (by kernel_rfl) rfl (by simp [V.wf, A.wf, C.wf]) trivial rfl rfl trivial ?_ | (refine CallK.val (R := [(1, some 3)]) hbl1 (by kernel_rfl) rfl (by simp [V.wf, A.wf, C.wf]) ⟨roE_ints (l := 0) rfl (by omega) rfl (.inl rfl), roE_map (l := 3) rfl (by omega) (by rw [← hdl]; rfl), trivial⟩ rfl rfl trivial ?_) | refine And.intro (Eq.refl ob) ?_ | refine br_bf (Eq.refl false) ?_ | refine CallK.m ?_)
              refine ⟨(k, out), [], ⟨hTT, hs, t3, by simp only; omega⟩, Nat.lt_succ_self k, ?_⟩
              refine ⟨?_, ?_, rfl, rfl, by exact Nat.le_of_ble_eq_true rfl⟩
              · repeat (first | exact trivial | (refine And.intro (covS_syn (by first | rfl | (refine congrArg some (congrArg V.i ?_); omega)) rfl (by first | exact trivial | exact Nat.le_of_ble_eq_true rfl | exact hy)) ?_))
              · repeat (first | exact trivial | (refine And.intro (covE_mp rfl (Nat.le_of_ble_eq_true rfl) rfl (by rw [bmF_del, bmF_upd]; exact congrArg bmF hbb)) ?_) | (refine And.intro (covE_id (Nat.le_of_ble_eq_true rfl) (by first | exact wf_ints _ _ | first | exact wf_cells _ _ | exact wf_zc _ | simp [C.wf]) rfl (by rfl)) ?_))
end Go.Proofs.Ytbhpnhcdjmcaoaa

/- Boom: ref.Thin. -/
namespace Go.Proofs.Ytbhpnhcdjmcaoaa
open Go.RowKit
set_option linter.unusedVariables false
set_option linter.unusedSimpArgs false
def butK (q : Cell) (l : List Cell) (j : Nat) : List Cell := (l.take j).filter fun p => decide (p ≠ q)
theorem butK_succ {q : Cell} {l : List Cell} {j : Nat} (h : j < l.length) : butK q l (j + 1) = butK q l j ++ (if decide (l.getD j cz ≠ q) then [l.getD j cz] else []) := by
  unfold butK
  rw [List.take_add_one, show l[j]?.toList = [l.getD j cz] by rw [List.getElem?_eq_getElem h, List.getD_eq_getElem?_getD, List.getElem?_eq_getElem h]; rfl, List.filter_append]
  congr 1
  cases hd : decide (l.getD j cz ≠ q) <;> simp only [List.filter_cons, hd, List.filter_nil] <;> rfl
theorem butK_len (q : Cell) (l : List Cell) (j : Nat) : (butK q l j).length ≤ j := by
  unfold butK
  exact Nat.le_trans (List.length_filter_le _ _) (by simp; omega)
theorem ne_sym (p q : Cell) : (!(decide (p.1 = q.1) && (decide (p.2 = q.2) && true))) = decide (p ≠ q) := by
  rw [Bool.and_true, ← Bool.decide_and, Bool.eq_iff_iff]
  simp only [Bool.not_eq_true', decide_eq_false_iff_not, decide_eq_true_eq, ne_eq]
  exact not_congr Prod.ext_iff.symm
set_option maxRecDepth 10000 in
set_option maxHeartbeats 8000000 in
theorem rThin_spec (W H : Int) (cs : List Int) (bs : List Cell) (hl : cs.length ≤ 300) (hb : bs.length ≤ 300) :
    Spec Try.prog 54 [chR W H cs.length, V.c (.sl 1 bs.length)] [⟨0, .ro 0, cs.map C.i⟩, ⟨1, .ro 0, cellC bs⟩] 2 (fun v L' _ => cellsE (thC W H cs bs) (thE W H cs bs) v L') := by
  have hbl := fun x hx => rBlocks_spec W H cs x hl hx
  have hbl0 := hbl bs hb
  unfold thC thE
  unfold blB blE at hbl0
  have hcl := cellC_len bs
  refine Spec.of tok Try.func54 rfl rfl rfl fun n0 cx => vc_ok tok ?_
  cases hv : okC W H cs with
  | false =>
    rw [hv] at hbl0
    repeat ((conv => whnf); first | refine Exists.intro _ (And.intro rfl ?_) | refine fun (K' : K3) hK' => ?_ | (refine hK' _ _ _ ?_; clear hK' K') | refine CallK.val (R := []) hbl0 (by kernel_rfl) rfl (by simp [V.wf, A.wf, C.wf]) ⟨roE_ints (l := 0) rfl (by omega) rfl (.inl rfl), roE_cells (l := 1) rfl (by omega) rfl (.inl rfl), trivial⟩ rfl rfl (by simp [V.wf, A.wf, C.wf]) ?_ | refine br_bt (Eq.refl true) ?_ | refine CallK.m ?_)
    exact .inl ⟨rfl, rfl⟩
  | true =>
    cases hB : okB W H cs bs with
    | false =>
      rw [hv, hB] at hbl0
      repeat ((conv => whnf); first | refine Exists.intro _ (And.intro rfl ?_) | refine fun (K' : K3) hK' => ?_ | (refine hK' _ _ _ ?_; clear hK' K') | refine CallK.val (R := []) hbl0 (by kernel_rfl) rfl (by simp [V.wf, A.wf, C.wf]) ⟨roE_ints (l := 0) rfl (by omega) rfl (.inl rfl), roE_cells (l := 1) rfl (by omega) rfl (.inl rfl), trivial⟩ rfl rfl (by simp [V.wf, A.wf, C.wf]) ?_ | refine br_bt (Eq.refl true) ?_ | refine CallK.m ?_)
      exact .inl ⟨rfl, rfl⟩
    | true =>
      have hok := okC_iff.1 hv
      rw [hv, hB, show (chanO W H cs.length (wetB cs (boomF W H bs))).isNone = blkL W H cs bs from rfl] at hbl0
      cases hk : blkL W H cs bs with
      | false =>
        rw [hk] at hbl0
        repeat ((conv => whnf); first | refine Exists.intro _ (And.intro rfl ?_) | refine fun (K' : K3) hK' => ?_ | (refine hK' _ _ _ ?_; clear hK' K') | refine CallK.val (R := []) hbl0 (by kernel_rfl) rfl (by simp [V.wf, A.wf, C.wf]) ⟨roE_ints (l := 0) rfl (by omega) rfl (.inl rfl), roE_cells (l := 1) rfl (by omega) rfl (.inl rfl), trivial⟩ rfl rfl (by simp [V.wf, A.wf, C.wf]) ?_ | refine br_bt (Eq.refl true) ?_ | refine br_bf (Eq.refl false) ?_ | refine CallK.m ?_)
        exact .inl ⟨rfl, rfl⟩
      | true =>
        rw [hk] at hbl0
        have hW : 0 < W := by have := hok.w; omega
        repeat ((conv => whnf); first | (refine And.intro (by first | omega | (dsimp only [inK]; omega) | (exact ⟨rfl, rfl, rfl, Nat.le_of_ble_eq_true rfl, by rfl, by dsimp only; omega, by omega, Nat.le_of_ble_eq_true rfl⟩)) ?_) | refine Exists.intro _ (And.intro rfl ?_) | refine fun (K' : K3) hK' => ?_ | (refine hK' _ _ _ ?_; clear hK' K') | refine CallK.val (R := []) hbl0 (by kernel_rfl) rfl (by simp [V.wf, A.wf, C.wf]) ⟨roE_ints (l := 0) rfl (by omega) rfl (.inl rfl), roE_cells (l := 1) rfl (by omega) rfl (.inl rfl), trivial⟩ rfl rfl (by simp [V.wf, A.wf, C.wf]) ?_ | refine br_bf (Eq.refl false) ?_ | refine CallK.m ?_)
        refine Tri.loop (γ := Nat × List Cell) (fun g => thinL (blkL W H cs) g.1 g.2 = thinO W H cs bs ∧ g.2.Sublist bs ∧ g.2.take g.1 = bs.take g.1 ∧ g.1 ≤ g.2.length) (fun g => [(1, V.c (.sl 1 bs.length)), (2, V.c (.ptr 2 0)), (8, V.c (.sl 20 g.2.length)), (9, V.i ((g.1 : Int) - 1))])
          (fun g => [⟨20, .vec 57 2, cellC g.2⟩, ⟨2, .own 24, [C.i W, C.i H, .sl 0 cs.length]⟩, ⟨0, .ro 0, cs.map C.i⟩, ⟨1, .ro 0, cellC bs⟩]) 21 (fun g => g.1) (bs.length, bs) (R0 := [(20, some 4)]) ?_ ?_ ?_
        · exact ⟨rfl, List.Sublist.refl _, rfl, Nat.le_refl _⟩
        · skip
          simp only [Nat.zero_add]
          refine ⟨?_, ?_, rfl, rfl, by exact Nat.le_of_ble_eq_true rfl⟩
          · repeat (first | exact trivial | (refine And.intro (covS_syn (by rfl) rfl (by first | exact trivial | exact Nat.le_of_ble_eq_true rfl)) ?_))
          · repeat (first | exact trivial | (refine And.intro (covE_some rfl (Nat.le_of_ble_eq_true rfl) (wf_cells _ _) rfl ((ren_cells _ _).trans (congrArg some (by rw [List.take_of_length_le (by omega)]; rfl)))) ?_) | refine And.intro (covE_some rfl (Nat.le_of_ble_eq_true rfl) (wf_cells _ _) rfl (ren_cells _ _)) ?_ | (refine And.intro (covE_some rfl (Nat.le_of_ble_eq_true rfl) (by first | exact wf_ints _ _ | simp [C.wf]) rfl (by first | exact ren_ints _ _ | rfl)) ?_))
        · rintro ⟨m, out⟩ ⟨hT, hs, ht, hm⟩
          simp only at hT hs ht hm ⊢
          have hol := hs.length_le
          refine vc_ok tok ?_
          cases m with
          | zero =>
            have hT : out = thinO W H cs bs := hT
            repeat ((conv => whnf); first | refine Exists.intro _ (And.intro rfl ?_) | refine br_f (by omega) ?_ | refine fun (K' : K3) hK' => ?_ | (refine hK' _ _ _ ?_; clear hK' K'))
            subst hT
            exact .inr ⟨20, rfl, rfl⟩
          | succ k =>
            have hkb : k < bs.length := by omega
            have hko : k < out.length := by omega
            obtain ⟨t1, t2, t3, t4⟩ := thin_step ht hm hkb
            have hoo := okB_sub hok hB hs
            have hoe := okB_sub hok hoo (List.eraseIdx_sublist out k)
            have hld := cellT (l := bs) (k := k) (z := ((k + 1 : Nat) : Int) - 1) (by omega) hkb
            have e : bs.getD k (0, 0) = out[k] := by rw [List.getD_eq_getElem?_getD, List.getElem?_eq_getElem hkb]; exact t1
            rw [e] at hld
            have hend : butK out[k] out out.length = out.eraseIdx k := by
              unfold butK; rw [List.take_length]; exact filter_one (sorted_nodup (okB_sorted hoo)) hko
            have hTT : thinL (blkL W H cs) k (if blkL W H cs (out.eraseIdx k) = true then out.eraseIdx k else out) = thinO W H cs bs := hT
            have hlo := cellC_len out
            have hle : (out.eraseIdx k).length = out.length - 1 := List.length_eraseIdx_of_lt hko
            have hbl1 := hbl (out.eraseIdx k) (by omega)
            unfold blB blE at hbl1
            rw [hv, hoe, show (chanO W H cs.length (wetB cs (boomF W H (out.eraseIdx k)))).isNone = blkL W H cs (out.eraseIdx k) from rfl] at hbl1
            obtain ⟨q, hq⟩ : ∃ q, q = out[k] := ⟨_, rfl⟩
            rw [← hq] at hld hend
            repeat ((conv => whnf); first | refine br_t (by omega) ?_ | refine fun (K' : K3) hK' => ?_ | (refine hK' _ _ _ ?_; clear hK' K'))
            refine Tri.loop (γ := Nat) (fun j => j ≤ out.length) (fun j => [(1, V.c (.sl 1 bs.length)), (2, V.c (.ptr 2 0)), (8, V.c (.sl 20 out.length)), (9, V.i (((k + 1 : Nat) : Int) - 1)), (10, V.c (.sl 30 (butK q out j).length)), (36, V.c (.sl 20 out.length)), (37, V.i out.length), (38, V.i (j : Nat))])
              (fun j => [⟨30, .vec 57 2, cellC (butK q out j)⟩, ⟨20, .vec 57 2, cellC out⟩, ⟨2, .own 24, [C.i W, C.i H, .sl 0 cs.length]⟩, ⟨0, .ro 0, cs.map C.i⟩, ⟨1, .ro 0, cellC bs⟩]) 31 (fun j => out.length - j) 0 (R0 := [(30, none)]) ?_ ?_ ?_
            · omega
            · skip
              refine ⟨?_, ?_, rfl, rfl, by exact Nat.le_of_ble_eq_true rfl⟩
              · repeat (first | exact trivial | (refine And.intro (covS_syn (by rfl) rfl (by first | exact trivial | exact Nat.le_of_ble_eq_true rfl)) ?_))
              · repeat (first | exact trivial | refine And.intro (covE_some rfl (Nat.le_of_ble_eq_true rfl) (wf_cells _ _) rfl (ren_cells _ _)) ?_ | refine And.intro (covE_nil rfl (Nat.le_of_ble_eq_true rfl) rfl rfl) ?_ | (refine And.intro (covE_some rfl (Nat.le_of_ble_eq_true rfl) (by first | exact wf_ints _ _ | simp [C.wf]) rfl (by first | exact ren_ints _ _ | rfl)) ?_))
            · intro j hj
              refine vc_ok tok ?_
              by_cases hjl : j < out.length
              · have hld2 := cellT (l := out) (k := j) rfl hjl
                have hbs := butK_succ (q := q) hjl
                have hbn := butK_len q out j
                have hcb := cellC_len (butK q out j)
                obtain ⟨p, hp⟩ : ∃ p, p = out.getD j cz := ⟨_, rfl⟩
                rw [← hp] at hld2 hbs
                have hne := ne_sym p q
                cases hpq : decide (p ≠ q) with
                | true =>
                  rw [hpq] at hbs hne
                  repeat ((conv => whnf); first | (refine And.intro (by first | omega | exact Nat.le_of_ble_eq_true rfl | (dsimp only [inK]; omega) | (exact ⟨rfl, rfl, rfl, Nat.le_of_ble_eq_true rfl, by dsimp only; omega, by exact Nat.le_of_ble_eq_true rfl, by omega, Nat.le_of_ble_eq_true rfl⟩)) ?_) | with_reducible refine ld (hld) ?_ | with_reducible refine ld (hld2) ?_ | refine Exists.intro _ (And.intro rfl ?_) | refine br_t (by omega) ?_ | refine fun (K' : K3) hK' => ?_ | (refine hK' _ _ _ ?_; clear hK' K') | refine draw_auto tok mixed (by kernel_rfl) ?_ | refine br_bt hne ?_)
                  refine ⟨j + 1, [(30, some 33)], by omega, by omega, ?_⟩
                  have hnew : cellC (butK q out (j + 1)) = cellC (butK q out j) ++ [C.i p.1, C.i p.2] := by
                    rw [hbs, cellC_app]; rfl
                  have hnl : (butK q out (j + 1)).length = (butK q out j).length + 1 := by rw [hbs, List.length_append]; rfl
                  rw [hnl]
                  refine ⟨?_, ?_, rfl, rfl, by exact Nat.le_of_ble_eq_true rfl⟩
                  · repeat (first | exact trivial | (refine And.intro (covS_syn (by rfl) rfl (by first | exact trivial | exact Nat.le_of_ble_eq_true rfl)) ?_))
                  · repeat (first | exact trivial | (refine And.intro (covE_some rfl (Nat.le_of_ble_eq_true rfl) (wf_cells _ _) rfl ((ren_cells _ _).trans (congrArg some (by rw [hnew]; rfl)))) ?_) | refine And.intro (covE_some rfl (Nat.le_of_ble_eq_true rfl) (wf_cells _ _) rfl (ren_cells _ _)) ?_ | (refine And.intro (covE_some rfl (Nat.le_of_ble_eq_true rfl) (by first | exact wf_ints _ _ | simp [C.wf]) rfl (by first | exact ren_ints _ _ | rfl)) ?_))
                | false =>
                  rw [hpq] at hbs hne
                  have hnew : butK q out (j + 1) = butK q out j := by rw [hbs]; simp
                  repeat ((conv => whnf); first | (refine And.intro (by first | omega | exact Nat.le_of_ble_eq_true rfl | (dsimp only [inK]; omega)) ?_) | with_reducible refine ld (hld) ?_ | with_reducible refine ld (hld2) ?_ | refine Exists.intro _ (And.intro rfl ?_) | refine br_t (by omega) ?_ | refine fun (K' : K3) hK' => ?_ | (refine hK' _ _ _ ?_; clear hK' K') | refine draw_auto tok mixed (by kernel_rfl) ?_ | refine br_bf hne ?_)
                  refine ⟨j + 1, [], by omega, by omega, ?_⟩
                  rw [hnew]
                  refine ⟨?_, ?_, rfl, rfl, by exact Nat.le_of_ble_eq_true rfl⟩
                  · repeat (first | exact trivial | (refine And.intro (covS_syn (by rfl) rfl (by first | exact trivial | exact Nat.le_of_ble_eq_true rfl)) ?_))
                  · repeat (first | exact trivial | (refine And.intro (covE_id (Nat.le_of_ble_eq_true rfl) (by first | exact wf_ints _ _ | first | exact wf_cells _ _ | simp [C.wf]) rfl (by rfl)) ?_))
              · have hje : j = out.length := by omega
                subst hje
                rw [hend]
                cases hkk : blkL W H cs (out.eraseIdx k) with
                | true =>
                  rw [hkk] at hbl1
                  rw [hkk, if_pos rfl] at hTT
                  repeat ((conv => whnf); first | (refine And.intro (by first | omega | (dsimp only [inK]; omega)) ?_) | refine Exists.intro _ (And.intro rfl ?_) | refine br_f (by omega) ?_ | refine fun (K' : K3) hK' => ?_ | (refine hK' _ _ _ ?_; clear hK' K') | refine CallK.val (R := [(1, some 30)]) hbl1 (by kernel_rfl) rfl (by simp [V.wf, A.wf, C.wf]) ⟨roE_ints (l := 0) rfl (by omega) rfl (.inl rfl), roE_cells (l := 30) rfl (by omega) rfl (.inl rfl), trivial⟩ rfl rfl (by simp [V.wf, A.wf, C.wf]) ?_ | refine br_bt (Eq.refl true) ?_ | refine CallK.m ?_)
                  refine ⟨(k, out.eraseIdx k), [(20, some 30)], ⟨hTT, (List.eraseIdx_sublist _ _).trans hs, t2, t4⟩, Nat.lt_succ_self k, ?_⟩
                  refine ⟨?_, ?_, rfl, rfl, by exact Nat.le_of_ble_eq_true rfl⟩
                  · repeat (first | exact trivial | (refine And.intro (covS_syn (by first | rfl | (refine congrArg some (congrArg V.i ?_); omega)) rfl (by first | exact trivial | exact Nat.le_of_ble_eq_true rfl)) ?_))
                  · repeat (first | exact trivial | refine And.intro (covE_some rfl (Nat.le_of_ble_eq_true rfl) (wf_cells _ _) rfl (ren_cells _ _)) ?_ | (refine And.intro (covE_some rfl (Nat.le_of_ble_eq_true rfl) (by first | exact wf_ints _ _ | simp [C.wf]) rfl (by first | exact ren_ints _ _ | rfl)) ?_))
                | false =>
                  rw [hkk] at hbl1
                  rw [hkk, if_neg (by simp)] at hTT
                  repeat ((conv => whnf); first | (refine And.intro (by first | omega | (dsimp only [inK]; omega)) ?_) | refine Exists.intro _ (And.intro rfl ?_) | refine br_f (by omega) ?_ | refine fun (K' : K3) hK' => ?_ | (refine hK' _ _ _ ?_; clear hK' K') | refine CallK.val (R := [(1, some 30)]) hbl1 (by kernel_rfl) rfl (by simp [V.wf, A.wf, C.wf]) ⟨roE_ints (l := 0) rfl (by omega) rfl (.inl rfl), roE_cells (l := 30) rfl (by omega) rfl (.inl rfl), trivial⟩ rfl rfl (by simp [V.wf, A.wf, C.wf]) ?_ | refine br_bf (Eq.refl false) ?_ | refine CallK.m ?_)
                  refine ⟨(k, out), [], ⟨hTT, hs, t3, by simp only; omega⟩, Nat.lt_succ_self k, ?_⟩
                  refine ⟨?_, ?_, rfl, rfl, by exact Nat.le_of_ble_eq_true rfl⟩
                  · repeat (first | exact trivial | (refine And.intro (covS_syn (by first | rfl | (refine congrArg some (congrArg V.i ?_); omega)) rfl (by first | exact trivial | exact Nat.le_of_ble_eq_true rfl)) ?_))
                  · repeat (first | exact trivial | (refine And.intro (covE_id (Nat.le_of_ble_eq_true rfl) (by first | exact wf_ints _ _ | first | exact wf_cells _ _ | simp [C.wf]) rfl (by rfl)) ?_))
end Go.Proofs.Ytbhpnhcdjmcaoaa

