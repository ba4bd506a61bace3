/- Texts of the proof, part 5: C2, Z2, U1, W5, W6, U2, W7, W8, U3, U4, U5. -/
import Derived.Test.YtijnimgmpocmaaaDoorI4
import Derived.WalkKit
import Derived.Below
import Derived.Lib.TrailingZeros
import Derived.Laws.OwnMore
import Derived.Maps.AppendAt
import Derived.Laws.IdiomCopy
import Derived.Laws.CopyRow
import Derived.IntWalk
import Derived.StillTail
import Derived.Scope
import Derived.ChangeKeysEq
import Derived.Laws.Small
import Derived.OrdersIn
import Derived.TacticsIn
import Derived.OwnWalkIn
import Derived.RangeFuncNested
import Derived.RangeFuncLeaves
import Derived.RangeFuncRecord
import Derived.Maps.Keyed
import Derived.Maps.RangeRun
import Derived.DeepKeys4
import Derived.Test.YtijnimgmpocmaaaDoorRows
import Derived.KernelRfl
import Derived.Shelf.Spec.TrailingZeros
/- Waste: callees that give rows of numbers. -/
namespace Go.Proofs.YtijnimgmpocmaaaDoor
open Go.RowKit
set_option linter.unusedVariables false
set_option linter.unusedSimpArgs false
def FlatC (cs : List C) : Prop := ∀ c ∈ cs, ∃ k z, c = C.int k z
theorem flat_i (l : List Int) : FlatC (l.map C.i) := fun c hc => by obtain ⟨x, _, rfl⟩ := List.mem_map.1 hc; exact ⟨_, _, rfl⟩
theorem flat_u (l : List Nat) : FlatC (l.map C.u) := fun c hc => by obtain ⟨x, _, rfl⟩ := List.mem_map.1 hc; exact ⟨_, _, rfl⟩
theorem flat_c (l : List Cell) : FlatC (cellC l) := fun c hc => by obtain ⟨x, rfl⟩ := cellC_mem hc; exact ⟨_, _, rfl⟩
theorem FlatC.wf {cs : List C} (h : FlatC cs) (n : Nat) : ∀ c ∈ cs, c.wf n := fun c hc => by obtain ⟨k, z, rfl⟩ := h c hc; trivial
theorem FlatC.chk {cs : List C} (h : FlatC cs) (p : Nat → Bool) : cs.all (C.chk p) = true := List.all_eq_true.2 fun c hc => by obtain ⟨k, z, rfl⟩ := h c hc; rfl
theorem FlatC.ren {cs : List C} (h : FlatC cs) (R : Rn) : seqO (cs.map (C.ren R)) = some cs := seqO_fix fun c hc => by obtain ⟨k, z, rfl⟩ := h c hc; rfl
theorem roE_f {R : Rn} {nx lab l z : Nat} {k : Kd} {L : List E} {cs : List C} (hfl : FlatC cs) (hr : renL R lab = some l) (h1 : lab < nx) (h3 : find L l = some ⟨l, k, cs⟩) (hz : z = 0 ∨ k.z = some z) : roE R nx L ⟨lab, .ro z, cs⟩ := by
  refine ⟨h1, hfl.wf _, ?_⟩
  show match renL R lab with | some l => _ | none => _
  rw [hr]
  exact ⟨k, _, h3, hz, hfl.ren _⟩
section
variable {P : Program} {n0 nx nac : Nat} {f : FuncId} {vs vs' : List V} {Lc L : List E} {R : Rn} {K : V → List E → Nat → Prop}
theorem CallK.rowF {t z m : Nat} {cs : List C} (hfl : FlatC cs) (spec : Spec P f vs Lc nac (fun v L' _ => ∃ lab, v = V.c (.sl lab m) ∧ find L' lab = some ⟨lab, .vec t z, cs⟩)) (hok : callB P f = true)
    (hv : renVs R vs = some vs') (hvw : ∀ v ∈ vs, v.wf nac) (hL : roL R nac L Lc) (hLc : injB [] Lc = true)
    (hK : K (V.c (.sl nx m)) [⟨nx, .vec t z, cs⟩] (nx + 1)) : CallK P n0 f vs' L nx K := by
  refine CallK.mk' hok spec hv hvw hL hLc ?_
  rintro v L' nx' hw ⟨lab, rfl, hf⟩
  refine ⟨V.c (.sl nx m), [⟨nx, .vec t z, cs⟩], nx + 1, [(nx, some lab)], ⟨Nat.le_succ _, ?_, ?_, ⟨covE_some (renL_one _ _) (Nat.lt_succ_self nx) (hfl.wf _) hf (hfl.ren _), trivial⟩, rfl, ?_⟩, hK⟩
  · simp only [V.ren, A.ren, C.ren, renL_one]
  · simp only [V.chk, A.chk, C.chk]; exact inLab_one nx
  · simp only [List.all_cons, List.all_nil, Bool.and_true, inLab_one, Kd.isRo, Bool.not_false, Bool.true_and]
    exact hfl.chk _
/-- A row and an error. -/
theorem CallK.rowE {t z m : Nat} {Er : Int} {cs : List C} (hfl : FlatC cs) (spec : Spec P f vs Lc nac (fun v L' _ => ∃ lab, v = V.tup [A.c (.sl lab m), A.c (C.i Er)] ∧ find L' lab = some ⟨lab, .vec t z, cs⟩)) (hok : callB P f = true)
    (hv : renVs R vs = some vs') (hvw : ∀ v ∈ vs, v.wf nac) (hL : roL R nac L Lc) (hLc : injB [] Lc = true)
    (hK : K (V.tup [A.c (.sl nx m), A.c (C.i Er)]) [⟨nx, .vec t z, cs⟩] (nx + 1)) : CallK P n0 f vs' L nx K := by
  refine CallK.mk' hok spec hv hvw hL hLc ?_
  rintro v L' nx' hw ⟨lab, rfl, hf⟩
  refine ⟨V.tup [A.c (.sl nx m), A.c (C.i Er)], [⟨nx, .vec t z, cs⟩], nx + 1, [(nx, some lab)], ⟨Nat.le_succ _, ?_, ?_, ⟨covE_some (renL_one _ _) (Nat.lt_succ_self nx) (hfl.wf _) hf (hfl.ren _), trivial⟩, rfl, ?_⟩, hK⟩
  · simp [V.ren, A.ren, C.ren, renL_one, C.i, seqO]
  · simp [V.chk, A.chk, C.chk, inLab_one, C.i]
  · simp only [List.all_cons, List.all_nil, Bool.and_true, inLab_one, Kd.isRo, Bool.not_false, Bool.true_and]
    exact hfl.chk _
end
end Go.Proofs.YtijnimgmpocmaaaDoor

/- Waste: the kinds of a set, one by one; apart. -/
namespace Go.Proofs.YtijnimgmpocmaaaDoor
open Go.RowKit
set_option linter.unusedVariables false
set_option linter.unusedSimpArgs false
/-- The kinds of a set. -/
def bitsL (s : Nat) : List Nat := (List.range 8).filter fun b => s.testBit b
def rs (s : Nat) : Nat → Nat
  | 0 => s
  | k + 1 => rs s k &&& (rs s k - 1)
theorem all_fact : ∀ s, s < 256 → ∀ k, k < 9 → rs s k < 256 ∧ (k < (bitsL s).length → rs s k ≠ 0 ∧ Lib.ctz 64 (rs s k) = (bitsL s).getD k 0) ∧ ((bitsL s).length ≤ k → rs s k = 0) := by decide +kernel
theorem bitsL_len (s : Nat) : (bitsL s).length ≤ 8 := by
  have := List.length_filter_le (fun b => s.testBit b) (List.range 8)
  rw [List.length_range] at this; exact this
theorem mem_bitsL {s b : Nat} : b ∈ bitsL s ↔ b < 8 ∧ s.testBit b = true := by simp [bitsL]
theorem bitsL_get {s k : Nat} (h : k < (bitsL s).length) : (bitsL s).getD k 0 ∈ bitsL s := by
  rw [List.getD_eq_getElem?_getD, List.getElem?_eq_getElem h]; exact List.getElem_mem h
theorem bit_lt {s n b : Nat} (hs : s < 2 ^ n) (h : s.testBit b = true) : b < n := by
  rcases Nat.lt_or_ge b n with h1 | h1
  · exact h1
  · have := Nat.testBit_lt_two_pow (Nat.lt_of_lt_of_le hs (Nat.pow_le_pow_right (by omega) h1)); rw [this] at h; cases h
theorem all_spec (s nx : Nat) (L : List E) : SpecM Tryd.prog 74 [V.u s] L nx (fun v L' nx' => v = V.c (.fn 100 [(nx, 0)]) ∧ L' = ⟨nx, .own 75, [C.u s]⟩ :: L ∧ nx' = nx + 1) := by
  refine SpecM.of tok Tryd.func74 rfl rfl rfl fun n0 cx => vc_ok tok ?_
  repeat ((conv => whnf); first | (refine And.intro (by first | omega | exact Nat.le_of_ble_eq_true rfl | (dsimp only [inK]; omega) | (simp only [mulS_eq]; omega) | (simp only [mulS_eq, setL_length]; omega) | (simp only [setL_length]; omega) | (simp only [setL_length, List.length_map]; omega) | (exact ⟨by omega, by omega, by first | exact Nat.le_of_ble_eq_true rfl | (dsimp only; omega) | (simp only [setL_length]; omega) | (simp only [setL_length, List.length_map]; omega)⟩) | (exact ⟨by omega, by first | rfl | omega, by omega, Nat.le_of_ble_eq_true rfl, Nat.le_of_ble_eq_true rfl⟩) | (exact ⟨rfl, rfl, rfl, Nat.le_of_ble_eq_true rfl, by first | rfl | omega | exact Nat.le_of_ble_eq_true rfl | (dsimp only; omega) | (simp; done) | (simp; omega), by first | rfl | omega | exact Nat.le_of_ble_eq_true rfl | (dsimp only; omega) | (simp; done) | (simp; omega), by omega, Nat.le_of_ble_eq_true rfl⟩) | exact Eq.refl true) ?_) | refine Exists.intro _ (And.intro rfl ?_) | refine And.intro (And.intro rfl (chk_rowI _ _ _ _)) ?_ | refine br_t (by omega) ?_ | refine br_f (by omega) ?_ | refine bs_t (by omega) ?_ | refine bs_f (by omega) ?_ | refine fun (K' : K3) hK' => ?_ | (refine hK' _ _ _ ?_; clear hK' K') | refine draw_auto tok mixed (by kernel_rfl) ?_ | refine bs_bt (Eq.refl true) ?_ | refine bs_bf (Eq.refl false) ?_ | refine br_bt (Eq.refl true) ?_ | refine br_bf (Eq.refl false) ?_ | refine CallK.m ?_ | refine Two.l ?_ | refine And.intro (And.intro rfl rfl) ?_)
  exact ⟨rfl, rfl, rfl⟩
theorem and_dec {r : Nat} (h : r < 256) (h0 : r ≠ 0) : bitI .and .u64 (r : Int) ((r : Int) - 1) = ((r &&& (r - 1) : Nat) : Int) := by
  rw [show ((r : Int) - 1) = ((r - 1 : Nat) : Int) by omega]; exact bit_and (by omega) (by omega)
/-- No two kinds of a set clash. -/
def aptS (t : List Nat) (s : Nat) : Bool := (bitsL s).all fun a => decide (t.getD a 0 &&& s = 0)
def aptK (t : List Nat) (s k : Nat) : Bool := ((bitsL s).take k).all fun a => decide (t.getD a 0 &&& s = 0)
theorem aptK_succ {t : List Nat} {s k : Nat} (h : k < (bitsL s).length) : aptK t s (k + 1) = (aptK t s k && decide (t.getD ((bitsL s).getD k 0) 0 &&& s = 0)) := by
  unfold aptK
  rw [List.take_add_one, show (bitsL s)[k]?.toList = [(bitsL s).getD k 0] by rw [List.getElem?_eq_getElem h, List.getD_eq_getElem?_getD, List.getElem?_eq_getElem h]; rfl, List.all_append]
  simp
set_option maxRecDepth 10000 in
set_option maxHeartbeats 4000000 in
theorem apart_spec (t : List Nat) (n s : Nat) (htl : t.length = n) (hn : n ≤ 8) (ht : ∀ x ∈ t, x < 256) (hs : s < 2 ^ n) : Spec Tryd.prog 95 [V.c (.sl 0 n), V.u s] [⟨0, .ro 0, t.map C.u⟩] 1 (Is (V.c (.bool (aptS t s)))) := by
  have hs8 : s < 256 := Nat.lt_of_lt_of_le hs (pow_8 hn)
  have htm : (t.map C.u).length = n := by rw [List.length_map, htl]
  have hbl := bitsL_len s
  refine Spec.of tok Tryd.func95 rfl rfl rfl fun n0 cx => vc_ok tok ?_
  repeat ((conv => whnf); first | (refine And.intro (by first | omega | exact Nat.le_of_ble_eq_true rfl | (dsimp only [inK]; omega) | (simp only [mulS_eq]; omega) | (simp only [mulS_eq, setL_length]; omega) | (simp only [setL_length]; omega) | (simp only [setL_length, List.length_map]; omega) | (exact ⟨by omega, by omega, by first | exact Nat.le_of_ble_eq_true rfl | (dsimp only; omega) | (simp only [setL_length]; omega) | (simp only [setL_length, List.length_map]; omega)⟩) | (exact ⟨by omega, by first | rfl | omega, by omega, Nat.le_of_ble_eq_true rfl, Nat.le_of_ble_eq_true rfl⟩) | (exact ⟨rfl, rfl, rfl, Nat.le_of_ble_eq_true rfl, by first | rfl | omega | exact Nat.le_of_ble_eq_true rfl | (dsimp only; omega) | (simp; done) | (simp; omega), by first | rfl | omega | exact Nat.le_of_ble_eq_true rfl | (dsimp only; omega) | (simp; done) | (simp; omega), by omega, Nat.le_of_ble_eq_true rfl⟩) | exact Eq.refl true) ?_) | refine Exists.intro _ (And.intro rfl ?_) | refine And.intro (And.intro rfl (chk_rowI _ _ _ _)) ?_ | refine br_t (by omega) ?_ | refine br_f (by omega) ?_ | refine bs_t (by omega) ?_ | refine bs_f (by omega) ?_ | refine fun (K' : K3) hK' => ?_ | (refine hK' _ _ _ ?_; clear hK' K') | refine draw_auto tok mixed (by kernel_rfl) ?_ | refine CallK.fresh (by kernel_rfl) (all_spec _ _ _) rfl ?_ | refine bs_bt (Eq.refl true) ?_ | refine bs_bf (Eq.refl false) ?_ | refine br_bt (Eq.refl true) ?_ | refine br_bf (Eq.refl false) ?_ | refine CallK.m ?_ | refine Two.l ?_ | refine And.intro (And.intro rfl rfl) ?_)
  refine Tri.opq fun K' hK' => ?_
  refine Tri.rangeFunc tok (by exact rfl) (by kernel_rfl) (by exact rfl) (by exact rfl) (by exact rfl) (by exact rfl) (by exact rfl) (by exact rfl) ?_
  intro y cxi oo ob od hy hY
  refine vc_ok tok ?_
  repeat ((conv => whnf); first | (refine And.intro (by first | omega | exact Nat.le_of_ble_eq_true rfl | (dsimp only [inK]; omega) | (simp only [mulS_eq]; omega) | (simp only [mulS_eq, setL_length]; omega) | (simp only [setL_length]; omega) | (simp only [setL_length, List.length_map]; omega) | (exact ⟨by omega, by omega, by first | exact Nat.le_of_ble_eq_true rfl | (dsimp only; omega) | (simp only [setL_length]; omega) | (simp only [setL_length, List.length_map]; omega)⟩) | (exact ⟨by omega, by first | rfl | omega, by omega, Nat.le_of_ble_eq_true rfl, Nat.le_of_ble_eq_true rfl⟩) | (exact ⟨rfl, rfl, rfl, Nat.le_of_ble_eq_true rfl, by first | rfl | omega | exact Nat.le_of_ble_eq_true rfl | (dsimp only; omega) | (simp; done) | (simp; omega), by first | rfl | omega | exact Nat.le_of_ble_eq_true rfl | (dsimp only; omega) | (simp; done) | (simp; omega), by omega, Nat.le_of_ble_eq_true rfl⟩) | exact Eq.refl true) ?_) | refine Exists.intro _ (And.intro rfl ?_) | refine And.intro (And.intro rfl (chk_rowI _ _ _ _)) ?_ | refine br_t (by omega) ?_ | refine br_f (by omega) ?_ | refine bs_t (by omega) ?_ | refine bs_f (by omega) ?_ | refine fun (K' : K3) hK' => ?_ | (refine hK' _ _ _ ?_; clear hK' K') | refine draw_auto tok mixed (by kernel_rfl) ?_ | refine bs_bt (Eq.refl true) ?_ | refine bs_bf (Eq.refl false) ?_ | refine br_bt (Eq.refl true) ?_ | refine br_bf (Eq.refl false) ?_ | refine CallK.m ?_ | refine Two.l ?_ | refine And.intro (And.intro rfl rfl) ?_)
  refine Tri.loop (γ := Nat) (fun k => k ≤ (bitsL s).length ∧ aptK t s k = true) (fun k => [(0, V.c (.v y)), (1, V.c (.ptr 4 0)), (3, V.u (rs s k))])
    (fun k => [⟨5, .obj oo, []⟩, ⟨4, .own 75, [C.u s]⟩, ⟨3, .own 4, [.ff]⟩, ⟨2, .own 75, [C.u s]⟩, ⟨1, .own 61, [.sl 0 n]⟩, ⟨0, .ro 0, t.map C.u⟩]) 6 (fun k => (bitsL s).length - k) 0 (R0 := []) ?_ ?_ ?_
  · exact ⟨by omega, rfl⟩
  · skip
    refine ⟨?_, ?_, rfl, rfl, by first | exact Nat.le_of_ble_eq_true rfl | exact Nat.le_refl _ | omega⟩
    · repeat (first | exact trivial | (refine And.intro (covS_syn (by rfl) rfl (by first | exact trivial | exact Nat.le_of_ble_eq_true rfl | exact hy | (first | ((show ∀ p ∈ (_ : List (Nat × Nat)), p.1 < _); decide) | exact (fun p hp => nomatch hp)) | (show (_ : Nat) < _; omega))) ?_) | refine And.intro (covS_bool rfl rfl (by rfl)) ?_)
    · repeat (first | exact trivial | (refine And.intro (covE_id (Nat.le_of_ble_eq_true rfl) (by first | exact wf_ints _ _ | exact wf_bools _ _ | first | exact wf_us _ _ | (simp [C.wf]; done) | simp [C.wf]) rfl (by rfl)) ?_))
  · rintro k ⟨hk, hok⟩
    refine vc_ok tok ?_
    obtain ⟨f1, f2, f3⟩ := all_fact s hs8 k (by omega)
    by_cases hlt : k < (bitsL s).length
    · obtain ⟨f4, f5⟩ := f2 hlt
      have hmem := mem_bitsL.1 (bitsL_get hlt)
      have han := bit_lt hs hmem.2
      have hrs : rs s (k + 1) = rs s k &&& (rs s k - 1) := rfl
      have hsucc := aptK_succ (t := t) hlt
      obtain ⟨a, ha⟩ : ∃ a, a = (bitsL s).getD k 0 := ⟨_, rfl⟩
      obtain ⟨r, hr⟩ : ∃ r, r = rs s k := ⟨_, rfl⟩
      rw [← ha] at f5 han hsucc
      rw [← hr] at f1 f4 f5 hrs ⊢
      have hne : (r : Int) ≠ 0 := by omega
      have hde := and_dec f1 f4
      rw [← hrs] at hde
      have htz := fun {n0 nx : Nat} {L : List E} {K : V → List E → Nat → Prop} => tz_k (n0 := n0) (nx := nx) (L := L) (K := K) f4 f1
      rw [f5] at htz
      have hta := getD_lt (by omega) ht a
      have hld : (t.map C.u)[mulS ((a : Nat) : Int).toNat 1]? = some (C.u (t.getD a 0)) := uLz rfl (by omega)
      have hba := bit_and (x := t.getD a 0) (y := s) (by omega) (by omega)
      by_cases hc : bitI .and .u64 ((t.getD a 0 : Nat) : Int) (s : Int) ≠ 0
      · have hres : aptS t s = false := by
          unfold aptS
          rw [List.all_eq_false]
          exact ⟨a, by rw [ha]; exact bitsL_get hlt, by rw [hba] at hc; rw [decide_eq_false (by omega)]; simp⟩
        repeat ((conv => whnf); first | (refine And.intro (by first | omega | exact Nat.le_of_ble_eq_true rfl | (dsimp only [inK]; omega) | (simp only [mulS_eq]; omega) | (simp only [mulS_eq, setL_length]; omega) | (simp only [setL_length]; omega) | (simp only [setL_length, List.length_map]; omega) | (exact ⟨by omega, by omega, by first | exact Nat.le_of_ble_eq_true rfl | (dsimp only; omega) | (simp only [setL_length]; omega) | (simp only [setL_length, List.length_map]; omega)⟩) | (exact ⟨by omega, by first | rfl | omega, by omega, Nat.le_of_ble_eq_true rfl, Nat.le_of_ble_eq_true rfl⟩) | (exact ⟨rfl, rfl, rfl, Nat.le_of_ble_eq_true rfl, by first | rfl | omega | exact Nat.le_of_ble_eq_true rfl | (dsimp only; omega) | (simp; done) | (simp; omega), by first | rfl | omega | exact Nat.le_of_ble_eq_true rfl | (dsimp only; omega) | (simp; done) | (simp; omega), by omega, Nat.le_of_ble_eq_true rfl⟩) | exact Eq.refl true) ?_) | refine Exists.intro _ (And.intro rfl ?_) | refine And.intro (And.intro rfl (chk_rowI _ _ _ _)) ?_ | refine br_t (by omega) ?_ | refine br_f (by omega) ?_ | refine bs_t (by omega) ?_ | refine bs_f (by omega) ?_ | refine fun (K' : K3) hK' => ?_ | (refine hK' _ _ _ ?_; clear hK' K') | refine draw_auto tok mixed (by kernel_rfl) ?_ | refine bs_t hne ?_ | refine br_t hne ?_ | refine htz ?_ | refine bs_bt (Eq.refl true) ?_ | refine bs_bf (Eq.refl false) ?_ | refine br_bt (Eq.refl true) ?_ | refine br_bf (Eq.refl false) ?_ | refine CallK.m ?_ | refine Two.l ?_ | refine And.intro (And.intro rfl rfl) ?_)
        refine hY _ _ _ _ (Nat.le_of_ble_eq_true rfl) rfl ⟨rfl, trivial⟩ ?_
        intro cxb hcx
        refine vc_ok tok ?_
        repeat ((conv => whnf); first | (refine And.intro (by first | omega | exact Nat.le_of_ble_eq_true rfl | (dsimp only [inK]; omega) | (simp only [mulS_eq]; omega) | (simp only [mulS_eq, setL_length]; omega) | (simp only [setL_length]; omega) | (simp only [setL_length, List.length_map]; omega) | (exact ⟨by omega, by omega, by first | exact Nat.le_of_ble_eq_true rfl | (dsimp only; omega) | (simp only [setL_length]; omega) | (simp only [setL_length, List.length_map]; omega)⟩) | (exact ⟨by omega, by first | rfl | omega, by omega, Nat.le_of_ble_eq_true rfl, Nat.le_of_ble_eq_true rfl⟩) | (exact ⟨rfl, rfl, rfl, Nat.le_of_ble_eq_true rfl, by first | rfl | omega | exact Nat.le_of_ble_eq_true rfl | (dsimp only; omega) | (simp; done) | (simp; omega), by first | rfl | omega | exact Nat.le_of_ble_eq_true rfl | (dsimp only; omega) | (simp; done) | (simp; omega), by omega, Nat.le_of_ble_eq_true rfl⟩) | exact Eq.refl true) ?_) | refine Exists.intro _ (And.intro rfl ?_) | refine And.intro (And.intro rfl (chk_rowI _ _ _ _)) ?_ | refine br_t (by omega) ?_ | refine br_f (by omega) ?_ | refine bs_t (by omega) ?_ | refine bs_f (by omega) ?_ | refine fun (K' : K3) hK' => ?_ | (refine hK' _ _ _ ?_; clear hK' K') | refine draw_auto tok mixed (by kernel_rfl) ?_ | refine And.intro (Eq.refl oo) ?_ | refine bs_bt (Eq.refl true) ?_ | refine bs_bf (Eq.refl false) ?_ | refine br_bt (Eq.refl true) ?_ | refine br_bf (Eq.refl false) ?_ | refine CallK.m ?_ | refine Two.l ?_ | refine And.intro (And.intro rfl rfl) ?_)
        refine vc_ok tok ?_
        repeat ((conv => whnf); first | (refine And.intro (by first | omega | exact Nat.le_of_ble_eq_true rfl | (dsimp only [inK]; omega) | (simp only [mulS_eq]; omega) | (simp only [mulS_eq, setL_length]; omega) | (simp only [setL_length]; omega) | (simp only [setL_length, List.length_map]; omega) | (exact ⟨by omega, by omega, by first | exact Nat.le_of_ble_eq_true rfl | (dsimp only; omega) | (simp only [setL_length]; omega) | (simp only [setL_length, List.length_map]; omega)⟩) | (exact ⟨by omega, by first | rfl | omega, by omega, Nat.le_of_ble_eq_true rfl, Nat.le_of_ble_eq_true rfl⟩) | (exact ⟨rfl, rfl, rfl, Nat.le_of_ble_eq_true rfl, by first | rfl | omega | exact Nat.le_of_ble_eq_true rfl | (dsimp only; omega) | (simp; done) | (simp; omega), by first | rfl | omega | exact Nat.le_of_ble_eq_true rfl | (dsimp only; omega) | (simp; done) | (simp; omega), by omega, Nat.le_of_ble_eq_true rfl⟩) | exact Eq.refl true) ?_) | with_reducible refine ld (hld) ?_ | refine Exists.intro _ (And.intro rfl ?_) | refine And.intro (And.intro rfl (chk_rowI _ _ _ _)) ?_ | refine br_t (by omega) ?_ | refine br_f (by omega) ?_ | refine bs_t (by omega) ?_ | refine bs_f (by omega) ?_ | refine fun (K' : K3) hK' => ?_ | (refine hK' _ _ _ ?_; clear hK' K') | refine draw_auto tok mixed (by kernel_rfl) ?_ | refine bs_t hc ?_ | refine br_t hc ?_ | refine And.intro (Eq.refl ob) ?_ | refine bs_bt (Eq.refl true) ?_ | refine bs_bf (Eq.refl false) ?_ | refine br_bt (Eq.refl true) ?_ | refine br_bf (Eq.refl false) ?_ | refine CallK.m ?_ | refine Two.l ?_ | refine And.intro (And.intro rfl rfl) ?_)
        refine Or.inr (Or.inl ?_)
        repeat ((conv => whnf); first | (refine And.intro (by first | omega | exact Nat.le_of_ble_eq_true rfl | (dsimp only [inK]; omega) | (simp only [mulS_eq]; omega) | (simp only [mulS_eq, setL_length]; omega) | (simp only [setL_length]; omega) | (simp only [setL_length, List.length_map]; omega) | (exact ⟨by omega, by omega, by first | exact Nat.le_of_ble_eq_true rfl | (dsimp only; omega) | (simp only [setL_length]; omega) | (simp only [setL_length, List.length_map]; omega)⟩) | (exact ⟨by omega, by first | rfl | omega, by omega, Nat.le_of_ble_eq_true rfl, Nat.le_of_ble_eq_true rfl⟩) | (exact ⟨rfl, rfl, rfl, Nat.le_of_ble_eq_true rfl, by first | rfl | omega | exact Nat.le_of_ble_eq_true rfl | (dsimp only; omega) | (simp; done) | (simp; omega), by first | rfl | omega | exact Nat.le_of_ble_eq_true rfl | (dsimp only; omega) | (simp; done) | (simp; omega), by omega, Nat.le_of_ble_eq_true rfl⟩) | exact Eq.refl true) ?_) | refine Exists.intro _ (And.intro rfl ?_) | refine And.intro (And.intro rfl (chk_rowI _ _ _ _)) ?_ | refine br_t (by omega) ?_ | refine br_f (by omega) ?_ | refine bs_t (by omega) ?_ | refine bs_f (by omega) ?_ | refine fun (K' : K3) hK' => ?_ | (refine hK' _ _ _ ?_; clear hK' K') | refine draw_auto tok mixed (by kernel_rfl) ?_ | refine And.intro (Eq.refl (od Code.ret)) ?_ | refine bs_bt (Eq.refl true) ?_ | refine bs_bf (Eq.refl false) ?_ | refine br_bt (Eq.refl true) ?_ | refine br_bf (Eq.refl false) ?_ | refine CallK.m ?_ | refine Two.l ?_ | refine And.intro (And.intro rfl rfl) ?_)
        refine hK' _ _ _ _ ?_
        repeat ((conv => whnf); first | (refine And.intro (by first | omega | exact Nat.le_of_ble_eq_true rfl | (dsimp only [inK]; omega) | (simp only [mulS_eq]; omega) | (simp only [mulS_eq, setL_length]; omega) | (simp only [setL_length]; omega) | (simp only [setL_length, List.length_map]; omega) | (exact ⟨by omega, by omega, by first | exact Nat.le_of_ble_eq_true rfl | (dsimp only; omega) | (simp only [setL_length]; omega) | (simp only [setL_length, List.length_map]; omega)⟩) | (exact ⟨by omega, by first | rfl | omega, by omega, Nat.le_of_ble_eq_true rfl, Nat.le_of_ble_eq_true rfl⟩) | (exact ⟨rfl, rfl, rfl, Nat.le_of_ble_eq_true rfl, by first | rfl | omega | exact Nat.le_of_ble_eq_true rfl | (dsimp only; omega) | (simp; done) | (simp; omega), by first | rfl | omega | exact Nat.le_of_ble_eq_true rfl | (dsimp only; omega) | (simp; done) | (simp; omega), by omega, Nat.le_of_ble_eq_true rfl⟩) | exact Eq.refl true) ?_) | refine Exists.intro _ (And.intro rfl ?_) | refine And.intro (And.intro rfl (chk_rowI _ _ _ _)) ?_ | refine br_t (by omega) ?_ | refine br_f (by omega) ?_ | refine bs_t (by omega) ?_ | refine bs_f (by omega) ?_ | refine fun (K' : K3) hK' => ?_ | (refine hK' _ _ _ ?_; clear hK' K') | refine draw_auto tok mixed (by kernel_rfl) ?_ | refine bs_bt (Eq.refl true) ?_ | refine bs_bf (Eq.refl false) ?_ | refine br_bt (Eq.refl true) ?_ | refine br_bf (Eq.refl false) ?_ | refine CallK.m ?_ | refine Two.l ?_ | refine And.intro (And.intro rfl rfl) ?_)
        intro ρ; rw [hres]; rfl
      · repeat ((conv => whnf); first | (refine And.intro (by first | omega | exact Nat.le_of_ble_eq_true rfl | (dsimp only [inK]; omega) | (simp only [mulS_eq]; omega) | (simp only [mulS_eq, setL_length]; omega) | (simp only [setL_length]; omega) | (simp only [setL_length, List.length_map]; omega) | (exact ⟨by omega, by omega, by first | exact Nat.le_of_ble_eq_true rfl | (dsimp only; omega) | (simp only [setL_length]; omega) | (simp only [setL_length, List.length_map]; omega)⟩) | (exact ⟨by omega, by first | rfl | omega, by omega, Nat.le_of_ble_eq_true rfl, Nat.le_of_ble_eq_true rfl⟩) | (exact ⟨rfl, rfl, rfl, Nat.le_of_ble_eq_true rfl, by first | rfl | omega | exact Nat.le_of_ble_eq_true rfl | (dsimp only; omega) | (simp; done) | (simp; omega), by first | rfl | omega | exact Nat.le_of_ble_eq_true rfl | (dsimp only; omega) | (simp; done) | (simp; omega), by omega, Nat.le_of_ble_eq_true rfl⟩) | exact Eq.refl true) ?_) | refine Exists.intro _ (And.intro rfl ?_) | refine And.intro (And.intro rfl (chk_rowI _ _ _ _)) ?_ | refine br_t (by omega) ?_ | refine br_f (by omega) ?_ | refine bs_t (by omega) ?_ | refine bs_f (by omega) ?_ | refine fun (K' : K3) hK' => ?_ | (refine hK' _ _ _ ?_; clear hK' K') | refine draw_auto tok mixed (by kernel_rfl) ?_ | refine bs_t hne ?_ | refine br_t hne ?_ | refine htz ?_ | refine bs_bt (Eq.refl true) ?_ | refine bs_bf (Eq.refl false) ?_ | refine br_bt (Eq.refl true) ?_ | refine br_bf (Eq.refl false) ?_ | refine CallK.m ?_ | refine Two.l ?_ | refine And.intro (And.intro rfl rfl) ?_)
        refine hY _ _ _ _ (Nat.le_of_ble_eq_true rfl) rfl ⟨rfl, trivial⟩ ?_
        intro cxb hcx
        refine vc_ok tok ?_
        repeat ((conv => whnf); first | (refine And.intro (by first | omega | exact Nat.le_of_ble_eq_true rfl | (dsimp only [inK]; omega) | (simp only [mulS_eq]; omega) | (simp only [mulS_eq, setL_length]; omega) | (simp only [setL_length]; omega) | (simp only [setL_length, List.length_map]; omega) | (exact ⟨by omega, by omega, by first | exact Nat.le_of_ble_eq_true rfl | (dsimp only; omega) | (simp only [setL_length]; omega) | (simp only [setL_length, List.length_map]; omega)⟩) | (exact ⟨by omega, by first | rfl | omega, by omega, Nat.le_of_ble_eq_true rfl, Nat.le_of_ble_eq_true rfl⟩) | (exact ⟨rfl, rfl, rfl, Nat.le_of_ble_eq_true rfl, by first | rfl | omega | exact Nat.le_of_ble_eq_true rfl | (dsimp only; omega) | (simp; done) | (simp; omega), by first | rfl | omega | exact Nat.le_of_ble_eq_true rfl | (dsimp only; omega) | (simp; done) | (simp; omega), by omega, Nat.le_of_ble_eq_true rfl⟩) | exact Eq.refl true) ?_) | refine Exists.intro _ (And.intro rfl ?_) | refine And.intro (And.intro rfl (chk_rowI _ _ _ _)) ?_ | refine br_t (by omega) ?_ | refine br_f (by omega) ?_ | refine bs_t (by omega) ?_ | refine bs_f (by omega) ?_ | refine fun (K' : K3) hK' => ?_ | (refine hK' _ _ _ ?_; clear hK' K') | refine draw_auto tok mixed (by kernel_rfl) ?_ | refine And.intro (Eq.refl oo) ?_ | refine bs_bt (Eq.refl true) ?_ | refine bs_bf (Eq.refl false) ?_ | refine br_bt (Eq.refl true) ?_ | refine br_bf (Eq.refl false) ?_ | refine CallK.m ?_ | refine Two.l ?_ | refine And.intro (And.intro rfl rfl) ?_)
        refine vc_ok tok ?_
        repeat ((conv => whnf); first | (refine And.intro (by first | omega | exact Nat.le_of_ble_eq_true rfl | (dsimp only [inK]; omega) | (simp only [mulS_eq]; omega) | (simp only [mulS_eq, setL_length]; omega) | (simp only [setL_length]; omega) | (simp only [setL_length, List.length_map]; omega) | (exact ⟨by omega, by omega, by first | exact Nat.le_of_ble_eq_true rfl | (dsimp only; omega) | (simp only [setL_length]; omega) | (simp only [setL_length, List.length_map]; omega)⟩) | (exact ⟨by omega, by first | rfl | omega, by omega, Nat.le_of_ble_eq_true rfl, Nat.le_of_ble_eq_true rfl⟩) | (exact ⟨rfl, rfl, rfl, Nat.le_of_ble_eq_true rfl, by first | rfl | omega | exact Nat.le_of_ble_eq_true rfl | (dsimp only; omega) | (simp; done) | (simp; omega), by first | rfl | omega | exact Nat.le_of_ble_eq_true rfl | (dsimp only; omega) | (simp; done) | (simp; omega), by omega, Nat.le_of_ble_eq_true rfl⟩) | exact Eq.refl true) ?_) | with_reducible refine ld (hld) ?_ | refine Exists.intro _ (And.intro rfl ?_) | refine And.intro (And.intro rfl (chk_rowI _ _ _ _)) ?_ | refine br_t (by omega) ?_ | refine br_f (by omega) ?_ | refine bs_t (by omega) ?_ | refine bs_f (by omega) ?_ | refine fun (K' : K3) hK' => ?_ | (refine hK' _ _ _ ?_; clear hK' K') | refine draw_auto tok mixed (by kernel_rfl) ?_ | refine bs_f hc ?_ | refine br_f hc ?_ | refine And.intro (Eq.refl ob) ?_ | refine bs_bt (Eq.refl true) ?_ | refine bs_bf (Eq.refl false) ?_ | refine br_bt (Eq.refl true) ?_ | refine br_bf (Eq.refl false) ?_ | refine CallK.m ?_ | refine Two.l ?_ | refine And.intro (And.intro rfl rfl) ?_)
        refine ⟨k + 1, [], ⟨by omega, by rw [hba] at hc; rw [hsucc, hok, decide_eq_true (by omega)]; rfl⟩, by omega, ?_⟩
        refine ⟨?_, ?_, rfl, rfl, by first | exact Nat.le_of_ble_eq_true rfl | exact Nat.le_refl _ | omega⟩
        · repeat (first | exact trivial | (refine And.intro (covS_syn (by first | rfl | exact congrArg (fun z => some (V.c (C.int .u64 z))) hde) rfl (by first | exact trivial | exact Nat.le_of_ble_eq_true rfl | exact hy | (first | ((show ∀ p ∈ (_ : List (Nat × Nat)), p.1 < _); decide) | exact (fun p hp => nomatch hp)) | (show (_ : Nat) < _; omega))) ?_) | refine And.intro (covS_bool rfl rfl (by rfl)) ?_)
        · repeat (first | exact trivial | (refine And.intro (covE_id (Nat.le_of_ble_eq_true rfl) (by first | exact wf_ints _ _ | exact wf_bools _ _ | first | exact wf_us _ _ | (simp [C.wf]; done) | simp [C.wf]) rfl (by rfl)) ?_))
    · have f6 := f3 (by omega)
      rw [f6]
      have hres : aptS t s = true := by
        have : aptK t s k = aptS t s := by unfold aptK aptS; rw [List.take_of_length_le (by omega)]
        rw [← this]; exact hok
      repeat ((conv => whnf); first | (refine And.intro (by first | omega | exact Nat.le_of_ble_eq_true rfl | (dsimp only [inK]; omega) | (simp only [mulS_eq]; omega) | (simp only [mulS_eq, setL_length]; omega) | (simp only [setL_length]; omega) | (simp only [setL_length, List.length_map]; omega) | (exact ⟨by omega, by omega, by first | exact Nat.le_of_ble_eq_true rfl | (dsimp only; omega) | (simp only [setL_length]; omega) | (simp only [setL_length, List.length_map]; omega)⟩) | (exact ⟨by omega, by first | rfl | omega, by omega, Nat.le_of_ble_eq_true rfl, Nat.le_of_ble_eq_true rfl⟩) | (exact ⟨rfl, rfl, rfl, Nat.le_of_ble_eq_true rfl, by first | rfl | omega | exact Nat.le_of_ble_eq_true rfl | (dsimp only; omega) | (simp; done) | (simp; omega), by first | rfl | omega | exact Nat.le_of_ble_eq_true rfl | (dsimp only; omega) | (simp; done) | (simp; omega), by omega, Nat.le_of_ble_eq_true rfl⟩) | exact Eq.refl true) ?_) | refine Exists.intro _ (And.intro rfl ?_) | refine And.intro (And.intro rfl (chk_rowI _ _ _ _)) ?_ | refine br_t (by omega) ?_ | refine br_f (by omega) ?_ | refine bs_t (by omega) ?_ | refine bs_f (by omega) ?_ | refine fun (K' : K3) hK' => ?_ | (refine hK' _ _ _ ?_; clear hK' K') | refine draw_auto tok mixed (by kernel_rfl) ?_ | refine Or.inl ?_ | refine And.intro (Eq.refl oo) ?_ | refine bs_bt (Eq.refl true) ?_ | refine bs_bf (Eq.refl false) ?_ | refine br_bt (Eq.refl true) ?_ | refine br_bf (Eq.refl false) ?_ | refine CallK.m ?_ | refine Two.l ?_ | refine And.intro (And.intro rfl rfl) ?_)
      refine hK' _ _ _ _ ?_
      repeat ((conv => whnf); first | (refine And.intro (by first | omega | exact Nat.le_of_ble_eq_true rfl | (dsimp only [inK]; omega) | (simp only [mulS_eq]; omega) | (simp only [mulS_eq, setL_length]; omega) | (simp only [setL_length]; omega) | (simp only [setL_length, List.length_map]; omega) | (exact ⟨by omega, by omega, by first | exact Nat.le_of_ble_eq_true rfl | (dsimp only; omega) | (simp only [setL_length]; omega) | (simp only [setL_length, List.length_map]; omega)⟩) | (exact ⟨by omega, by first | rfl | omega, by omega, Nat.le_of_ble_eq_true rfl, Nat.le_of_ble_eq_true rfl⟩) | (exact ⟨rfl, rfl, rfl, Nat.le_of_ble_eq_true rfl, by first | rfl | omega | exact Nat.le_of_ble_eq_true rfl | (dsimp only; omega) | (simp; done) | (simp; omega), by first | rfl | omega | exact Nat.le_of_ble_eq_true rfl | (dsimp only; omega) | (simp; done) | (simp; omega), by omega, Nat.le_of_ble_eq_true rfl⟩) | exact Eq.refl true) ?_) | refine Exists.intro _ (And.intro rfl ?_) | refine And.intro (And.intro rfl (chk_rowI _ _ _ _)) ?_ | refine br_t (by omega) ?_ | refine br_f (by omega) ?_ | refine bs_t (by omega) ?_ | refine bs_f (by omega) ?_ | refine fun (K' : K3) hK' => ?_ | (refine hK' _ _ _ ?_; clear hK' K') | refine draw_auto tok mixed (by kernel_rfl) ?_ | refine bs_bt (Eq.refl true) ?_ | refine bs_bf (Eq.refl false) ?_ | refine br_bt (Eq.refl true) ?_ | refine br_bf (Eq.refl false) ?_ | refine CallK.m ?_ | refine Two.l ?_ | refine And.intro (And.intro rfl rfl) ?_)
      intro ρ; rw [hres]; rfl
end Go.Proofs.YtijnimgmpocmaaaDoor

/- Waste: orders of loading of a set, as the program counts them. -/
namespace Go.Proofs.YtijnimgmpocmaaaDoor
open Go.RowKit
set_option linter.unusedVariables false
set_option linter.unusedSimpArgs false
def dif (s f : Nat) : Nat := s ^^^ (s &&& f)
theorem dif_bit (s f b : Nat) : (dif s f).testBit b = (s.testBit b && !f.testBit b) := by
  unfold dif
  rw [Nat.testBit_xor, Nat.testBit_and]
  cases s.testBit b <;> cases f.testBit b <;> rfl
theorem bit_andNot {x y : Nat} (hx : x < 18446744073709551616) (hy : y < 18446744073709551616) : bitI .andNot .u64 (x : Int) (y : Int) = ((dif x y : Nat) : Int) := by
  show IntKind.u64.wrap ((BitVec.ofInt 64 (x : Int) &&& ~~~BitVec.ofInt 64 (y : Int)).toNat : Int) = _
  have h : (BitVec.ofInt 64 (x : Int) &&& ~~~BitVec.ofInt 64 (y : Int)).toNat = dif x y := by
    apply Nat.eq_of_testBit_eq
    intro i
    rw [dif_bit, BitVec.testBit_toNat, BitVec.getLsbD_and, BitVec.getLsbD_not, ← BitVec.testBit_toNat, ← BitVec.testBit_toNat, bv_nat hx, bv_nat hy]
    rcases Nat.lt_or_ge i 64 with h | h
    · simp [h]
    · have : x.testBit i = false := Nat.testBit_lt_two_pow (Nat.lt_of_lt_of_le (show x < 2 ^ 64 by omega) (Nat.pow_le_pow_right (by omega) h))
      simp [this]
  rw [h]
  have h2 : dif x y < 2 ^ 64 := Nat.xor_lt_two_pow (by omega) (Nat.and_lt_two_pow _ (by omega))
  exact u64_nat (by omega)
/-- The sets below f within s, from f on. -/
def chn (s : Nat) : Nat → Nat → List Nat
  | 0, _ => []
  | n + 1, f => if f = 0 then [] else f :: chn s n ((f - 1) &&& s)
theorem chn_fuel (s : Nat) : ∀ (n f : Nat), f ≤ n → ∀ m, f ≤ m → chn s n f = chn s m f
  | 0, f, h, m, _ => by
    obtain rfl : f = 0 := by omega
    cases m <;> simp [chn]
  | n + 1, f, h, m, hm => by
    cases m with
    | zero =>
      obtain rfl : f = 0 := by omega
      simp [chn]
    | succ m =>
      simp only [chn]
      by_cases h0 : f = 0
      · rw [if_pos h0, if_pos h0]
      · rw [if_neg h0, if_neg h0]
        have : (f - 1) &&& s ≤ f - 1 := Nat.and_le_left
        rw [chn_fuel s n _ (by omega) m (by omega)]
theorem chn_mem (s : Nat) : ∀ (n f : Nat), f &&& s = f → ∀ g ∈ chn s n f, g ≠ 0 ∧ g &&& s = g
  | 0, _, _, g, h => by simp [chn] at h
  | n + 1, f, hf, g, h => by
    simp only [chn] at h
    split at h
    · cases h
    · rename_i h0
      rcases List.mem_cons.1 h with rfl | h
      · exact ⟨h0, hf⟩
      · exact chn_mem s n _ (by rw [Nat.and_assoc, Nat.and_self]) g h
def chS (s : Nat) : List Nat := chn s s s
theorem chS_mem {s g : Nat} (h : g ∈ chS s) : g ≠ 0 ∧ g &&& s = g := chn_mem s s s (Nat.and_self s) g h
theorem dif_lt {s f : Nat} (h0 : f ≠ 0) (hf : f &&& s = f) : dif s f < s := by
  have h1 : dif s f &&& s = dif s f := by
    apply Nat.eq_of_testBit_eq; intro b
    rw [Nat.testBit_and, dif_bit]
    cases s.testBit b <;> cases f.testBit b <;> rfl
  have h2 : dif s f ≤ s := by rw [← h1]; exact Nat.and_le_right
  rcases Nat.lt_or_ge (dif s f) s with h | h
  · exact h
  · exfalso
    have he : dif s f = s := by omega
    apply h0
    apply Nat.eq_of_testBit_eq; intro b
    rw [Nat.zero_testBit]
    have h3 : (dif s f).testBit b = s.testBit b := by rw [he]
    rw [dif_bit] at h3
    have h4 : f.testBit b = (f.testBit b && s.testBit b) := by rw [← Nat.testBit_and, hf]
    cases hs : s.testBit b <;> cases hff : f.testBit b <;> simp [hs, hff] at h3 h4 ⊢
def sgT (t : List Nat) (f : Nat) (x : Int) : Int := if aptS t f = true then (if (bitsL f).length % 2 = 1 then x else -x) else 0
def LDf (t : List Nat) : Nat → Nat → Int
  | 0, _ => 0
  | n + 1, s => if s = 0 then 1 else sumL (chS s) fun f => sgT t f (LDf t n (dif s f))
theorem LDf_fuel (t : List Nat) : ∀ (n s : Nat), s < n → ∀ m, s < m → LDf t n s = LDf t m s
  | 0, s, h, _, _ => by omega
  | n + 1, s, h, m, hm => by
    cases m with
    | zero => omega
    | succ m =>
      simp only [LDf]
      by_cases h0 : s = 0
      · rw [if_pos h0, if_pos h0]
      · rw [if_neg h0, if_neg h0]
        refine sumL_congr fun f hf => ?_
        obtain ⟨h1, h2⟩ := chS_mem hf
        have := dif_lt h1 h2
        rw [LDf_fuel t n _ (by omega) m (by omega)]
def LD (t : List Nat) (s : Nat) : Int := LDf t (s + 1) s
theorem LD_zero (t : List Nat) : LD t 0 = 1 := by simp [LD, LDf]
theorem LD_rec (t : List Nat) {s : Nat} (h : s ≠ 0) : LD t s = sumL (chS s) fun f => sgT t f (LD t (dif s f)) := by
  show LDf t (s + 1) s = _
  rw [LDf, if_neg h]
  refine sumL_congr fun f hf => ?_
  obtain ⟨h1, h2⟩ := chS_mem hf
  have := dif_lt h1 h2
  unfold LD
  rw [LDf_fuel t s _ this _ (Nat.lt_succ_self _)]
/-- The most. -/
def fub (k : Nat) : Int := [1, 1, 3, 13, 75, 541, 4683, 47293, 545835].getD k 0
def fubS (s : Nat) : Int := fub (bitsL s).length
theorem fub_fact : ∀ s, s < 256 → s ≠ 0 → sumL (chS s) (fun f => fubS (dif s f)) ≤ fubS s := by decide +kernel
theorem fubS_pos : ∀ s, s < 256 → 1 ≤ fubS s ∧ fubS s ≤ 545835 := by decide +kernel
theorem sgT_abs (t : List Nat) (f : Nat) {x B : Int} (h : -B ≤ x ∧ x ≤ B) : -B ≤ sgT t f x ∧ sgT t f x ≤ B := by
  unfold sgT
  split
  · split <;> omega
  · omega
theorem sumL_abs {α : Type} {l : List α} {f g : α → Int} (h : ∀ a ∈ l, -(g a) ≤ f a ∧ f a ≤ g a) : -(sumL l g) ≤ sumL l f ∧ sumL l f ≤ sumL l g := by
  induction l with
  | nil => simp [sumL]
  | cons a r ih =>
    have h1 := h a (by simp)
    have h2 := ih fun b hb => h b (by simp [hb])
    simp only [sumL, List.map_cons, List.sum_cons] at h2 ⊢
    omega
theorem LD_bd (t : List Nat) : ∀ (n s : Nat), s < n → s < 256 → -(fubS s) ≤ LD t s ∧ LD t s ≤ fubS s
  | 0, s, h, _ => by omega
  | n + 1, s, h, hs => by
    by_cases h0 : s = 0
    · subst h0; rw [LD_zero]; have := fubS_pos 0 (by omega); omega
    · rw [LD_rec t h0]
      have h1 := sumL_abs (l := chS s) (f := fun f => sgT t f (LD t (dif s f))) (g := fun f => fubS (dif s f)) fun f hf => by
        obtain ⟨h2, h3⟩ := chS_mem hf
        have h4 := dif_lt h2 h3
        exact sgT_abs t f (LD_bd t n _ (by omega) (by omega))
      have h2 := fub_fact s hs h0
      omega
theorem sumL_cons {α : Type} (a : α) (l : List α) (f : α → Int) : sumL (a :: l) f = f a + sumL l f := by simp [sumL]
end Go.Proofs.YtijnimgmpocmaaaDoor

/- Waste: the polynomial of a table. -/
namespace Go.Proofs.YtijnimgmpocmaaaDoor
open Go.RowKit
set_option linter.unusedVariables false
set_option linter.unusedSimpArgs false
theorem fallC_bd : ∀ j, j ≤ 8 → ∀ d, d ≤ 9 → -20000 ≤ fallC j d ∧ fallC j d ≤ 20000 ∧ -200000 ≤ (j : Int) * fallC j d ∧ (j : Int) * fallC j d ≤ 200000 := by decide +kernel
/-- What times has, before number i. -/
def tmF (j i d : Nat) : Int := (if 1 ≤ d ∧ d ≤ i then fallC j (d - 1) else 0) - (if d < i then (j : Int) * fallC j d else 0)
theorem tmF_zero (j d : Nat) : tmF j 0 d = 0 := by unfold tmF; rw [if_neg (by omega), if_neg (by omega)]; rfl
theorem tmF_end (j d : Nat) : tmF j (j + 1) d = fallC (j + 1) d := by
  unfold tmF
  simp only [fallC]
  congr 1
  · by_cases h : d = 0
    · rw [if_neg (by omega), if_pos h]
    · rw [if_neg h]
      by_cases h2 : d ≤ j + 1
      · rw [if_pos ⟨by omega, h2⟩]
      · rw [if_neg (by omega), fallC_high (by omega)]
  · by_cases h : d < j + 1
    · rw [if_pos h]
    · rw [if_neg h, fallC_high (by omega)]; simp
set_option maxRecDepth 10000 in
set_option maxHeartbeats 4000000 in
theorem times_spec (j : Nat) (hj : j ≤ 8) : Spec Tryd.prog 92 [V.c (.sl 0 (j + 1)), V.i j] [⟨0, .ro 0, (fnL (fallC j) (j + 1)).map C.i⟩] 1
    (fun v L' _ => ∃ l, v = V.c (.sl l (j + 2)) ∧ find L' l = some ⟨l, .vec 3 1, (fnL (fallC (j + 1)) (j + 2)).map C.i⟩) := by
  have hl : ((fnL (fallC j) (j + 1)).map C.i).length = j + 1 := by rw [List.length_map, fnL_len]
  have hz : repC (j + 2) [C.int .i64 0] = (fnL (tmF j 0) (j + 2)).map C.i := by
    rw [repI, fnL_zero]; exact congrArg _ (fnL_congr fun d _ => (tmF_zero j d).symm)
  refine Spec.of tok Tryd.func92 rfl rfl rfl fun n0 cx => vc_ok tok ?_
  repeat ((conv => whnf); first | (refine And.intro (by first | omega | exact Nat.le_of_ble_eq_true rfl | (dsimp only [inK]; omega) | (simp only [mulS_eq]; omega) | (simp only [mulS_eq, setL_length]; omega) | (simp only [setL_length]; omega) | (simp only [setL_length, List.length_map]; omega) | (exact ⟨by omega, by omega, by first | exact Nat.le_of_ble_eq_true rfl | (dsimp only; omega) | (simp only [setL_length]; omega) | (simp only [setL_length, List.length_map]; omega)⟩) | (exact ⟨by omega, by first | rfl | omega, by omega, Nat.le_of_ble_eq_true rfl, Nat.le_of_ble_eq_true rfl⟩) | (exact ⟨rfl, rfl, rfl, Nat.le_of_ble_eq_true rfl, by first | rfl | omega | exact Nat.le_of_ble_eq_true rfl | (dsimp only; omega) | (simp; done) | (simp; omega), by first | rfl | omega | exact Nat.le_of_ble_eq_true rfl | (dsimp only; omega) | (simp; done) | (simp; omega), by omega, Nat.le_of_ble_eq_true rfl⟩) | exact Eq.refl true) ?_) | refine Exists.intro _ (And.intro rfl ?_) | refine And.intro (And.intro rfl (chk_rowI _ _ _ _)) ?_ | refine br_t (by omega) ?_ | refine br_f (by omega) ?_ | refine bs_t (by omega) ?_ | refine bs_f (by omega) ?_ | refine fun (K' : K3) hK' => ?_ | (refine hK' _ _ _ ?_; clear hK' K') | refine draw_auto tok mixed (by kernel_rfl) ?_ | refine bs_bt (Eq.refl true) ?_ | refine bs_bf (Eq.refl false) ?_ | refine br_bt (Eq.refl true) ?_ | refine br_bf (Eq.refl false) ?_ | refine CallK.m ?_ | refine Two.l ?_ | refine And.intro (And.intro rfl rfl) ?_)
  refine Tri.loop (γ := Nat) (fun i => i ≤ j + 1) (fun i => [(1, V.i j), (4, V.c .nil), (5, V.c (.sl 1 (j + 2))), (12, V.c (.sl 0 (j + 1))), (13, V.i ((j + 1 : Nat) : Int)), (14, V.i (i : Nat))])
    (fun i => [⟨1, .vec 3 1, (fnL (tmF j i) (j + 2)).map C.i⟩, ⟨0, .ro 0, (fnL (fallC j) (j + 1)).map C.i⟩]) 2 (fun i => j + 1 - i) 0 (R0 := []) ?_ ?_ ?_
  · omega
  · skip
    refine ⟨?_, ?_, rfl, rfl, by first | exact Nat.le_of_ble_eq_true rfl | exact Nat.le_refl _ | omega⟩
    · repeat (first | exact trivial | (refine And.intro (covS_syn (by rfl) rfl (by first | exact trivial | exact Nat.le_of_ble_eq_true rfl | exact hy | (first | ((show ∀ p ∈ (_ : List (Nat × Nat)), p.1 < _); decide) | exact (fun p hp => nomatch hp)) | (show (_ : Nat) < _; omega))) ?_) | refine And.intro (covS_bool rfl rfl (by rfl)) ?_)
    · repeat (first | exact trivial | (refine And.intro (covE_id (Nat.le_of_ble_eq_true rfl) (by first | exact wf_ints _ _ | exact wf_bools _ _ | first | exact wf_us _ _ | (simp [C.wf]; done) | simp [C.wf]) rfl (by first | rfl | exact hz)) ?_))
  · intro i hi
    refine vc_ok tok ?_
    by_cases hlt : i < j + 1
    · obtain ⟨b1, b2, b3, b4⟩ := fallC_bd j hj i (by omega)
      have hld : ((fnL (fallC j) (j + 1)).map C.i)[mulS ((i : Nat) : Int).toNat 1]? = some (C.i (fallC j i)) := by
        rw [intLz rfl (by rw [fnL_len]; omega), fnL_get (by omega)]
      have hl1 : ((fnL (tmF j i) (j + 2)).map C.i).length = j + 2 := by rw [List.length_map, fnL_len]
      have e1 : tmF j i (i + 1) = 0 := by unfold tmF; rw [if_neg (by omega), if_neg (by omega)]; rfl
      have hr1 : ((fnL (tmF j i) (j + 2)).map C.i)[mulS ((i : Nat) + 1 : Int).toNat 1]? = some (C.i 0) := by
        rw [intLz (k := i + 1) (by omega) (by rw [fnL_len]; omega), fnL_get (by omega), e1]
      have e2 : tmF j i i = if i = 0 then 0 else fallC j (i - 1) := by
        unfold tmF
        rw [if_neg (show ¬ i < i by omega)]
        by_cases h : i = 0
        · rw [if_neg (by omega), if_pos h]; rfl
        · rw [if_pos ⟨by omega, by omega⟩, if_neg h]; exact Int.sub_zero _
      have hs1 : setL ((fnL (tmF j i) (j + 2)).map C.i) (mulS ((i : Nat) + 1 : Int).toNat 1) [C.i (0 + fallC j i)] = (fnL (fun d => if d = i + 1 then 0 + fallC j i else tmF j i d) (j + 2)).map C.i := by
        rw [setI (k := i + 1) (by omega), fnL_set]
      have hr2 : (setL ((fnL (tmF j i) (j + 2)).map C.i) (mulS ((i : Nat) + 1 : Int).toNat 1) [C.i (0 + fallC j i)])[mulS ((i : Nat) : Int).toNat 1]? = some (C.i (tmF j i i)) := by
        rw [hs1, intLz rfl (by rw [fnL_len]; omega), fnL_get (by omega), if_neg (by omega)]
      have hb2 : -20000 ≤ tmF j i i ∧ tmF j i i ≤ 20000 := by
        rw [e2]
        split
        · omega
        · have := fallC_bd j hj (i - 1) (by omega); omega
      obtain ⟨c, hc⟩ : ∃ c, c = fallC j i := ⟨_, rfl⟩
      obtain ⟨y, hy⟩ : ∃ y, y = tmF j i i := ⟨_, rfl⟩
      obtain ⟨x, hx⟩ : ∃ x, x = (j : Int) * c := ⟨_, rfl⟩
      have hfin : setL (setL ((fnL (tmF j i) (j + 2)).map C.i) (mulS ((i : Nat) + 1 : Int).toNat 1) [C.i (0 + fallC j i)]) (mulS ((i : Nat) : Int).toNat 1) [C.i (tmF j i i - (j : Int) * fallC j i)] = (fnL (tmF j (i + 1)) (j + 2)).map C.i := by
        rw [hs1, setI rfl, fnL_set]
        refine congrArg _ (fnL_congr fun d _ => ?_)
        by_cases h1 : d = i
        · subst h1
          rw [if_pos rfl, e2]
          unfold tmF
          rw [if_pos (show d < d + 1 by omega)]
          congr 1
          by_cases h : d = 0
          · rw [if_pos h, if_neg (by omega)]
          · rw [if_neg h, if_pos ⟨by omega, by omega⟩]
        · rw [if_neg h1]
          by_cases h2 : d = i + 1
          · subst h2
            rw [if_pos rfl]
            unfold tmF
            rw [if_pos ⟨by omega, Nat.le_refl _⟩, if_neg (by omega), Nat.add_sub_cancel]
            omega
          · rw [if_neg h2]
            unfold tmF
            congr 1
            · by_cases h3 : 1 ≤ d ∧ d ≤ i
              · rw [if_pos h3, if_pos ⟨h3.1, by omega⟩]
              · rw [if_neg h3, if_neg (by omega)]
            · by_cases h3 : d < i
              · rw [if_pos h3, if_pos (by omega)]
              · rw [if_neg h3, if_neg (by omega)]
      have hsl : (setL ((fnL (tmF j i) (j + 2)).map C.i) (mulS ((i : Nat) + 1 : Int).toNat 1) [C.i (0 + fallC j i)]).length = j + 2 := by rw [setL_length, hl1]
      rw [← hc] at b1 b2 b3 b4 hld hr2 hfin hsl
      rw [← hy] at hr2 hb2 hfin
      have hb3 : -200000 ≤ (j : Int) * c ∧ (j : Int) * c ≤ 200000 := ⟨b3, b4⟩
      repeat ((conv => whnf); first | (refine And.intro (by first | omega | exact Nat.le_of_ble_eq_true rfl | (dsimp only [inK]; omega) | (simp only [mulS_eq]; omega) | (simp only [mulS_eq, setL_length]; omega) | (simp only [setL_length]; omega) | (simp only [setL_length, List.length_map]; omega) | (exact ⟨by omega, by omega, by first | exact Nat.le_of_ble_eq_true rfl | (dsimp only; omega) | (simp only [setL_length]; omega) | (simp only [setL_length, List.length_map]; omega)⟩) | (exact ⟨by omega, by first | rfl | omega, by omega, Nat.le_of_ble_eq_true rfl, Nat.le_of_ble_eq_true rfl⟩) | (exact ⟨rfl, rfl, rfl, Nat.le_of_ble_eq_true rfl, by first | rfl | omega | exact Nat.le_of_ble_eq_true rfl | (dsimp only; omega) | (simp; done) | (simp; omega), by first | rfl | omega | exact Nat.le_of_ble_eq_true rfl | (dsimp only; omega) | (simp; done) | (simp; omega), by omega, Nat.le_of_ble_eq_true rfl⟩) | exact Eq.refl true) ?_) | with_reducible refine ld (hld) ?_ | with_reducible refine ld (hr1) ?_ | refine Exists.intro _ (And.intro rfl ?_) | refine And.intro (And.intro rfl (chk_rowI _ _ _ _)) ?_ | refine br_t (by omega) ?_ | refine br_f (by omega) ?_ | refine bs_t (by omega) ?_ | refine bs_f (by omega) ?_ | refine fun (K' : K3) hK' => ?_ | (refine hK' _ _ _ ?_; clear hK' K') | refine draw_auto tok mixed (by kernel_rfl) ?_ | refine (ld (hr2) ?_) | refine And.intro ⟨by omega, by omega⟩ ?_ | refine bs_bt (Eq.refl true) ?_ | refine bs_bf (Eq.refl false) ?_ | refine br_bt (Eq.refl true) ?_ | refine br_bf (Eq.refl false) ?_ | refine CallK.m ?_ | refine Two.l ?_ | refine And.intro (And.intro rfl rfl) ?_)
      refine ⟨i + 1, [], by omega, by omega, ?_⟩
      refine ⟨?_, ?_, rfl, rfl, by first | exact Nat.le_of_ble_eq_true rfl | exact Nat.le_refl _ | omega⟩
      · repeat (first | exact trivial | (refine And.intro (covS_syn (by first | rfl | (refine congrArg some (congrArg V.i ?_); omega)) rfl (by first | exact trivial | exact Nat.le_of_ble_eq_true rfl | exact hy | (first | ((show ∀ p ∈ (_ : List (Nat × Nat)), p.1 < _); decide) | exact (fun p hp => nomatch hp)) | (show (_ : Nat) < _; omega))) ?_) | refine And.intro (covS_bool rfl rfl (by rfl)) ?_)
      · repeat (first | exact trivial | (refine And.intro (covE_id (Nat.le_of_ble_eq_true rfl) (by first | exact wf_ints _ _ | exact wf_bools _ _ | first | exact wf_us _ _ | (simp [C.wf]; done) | simp [C.wf]) rfl (by first | rfl | exact hfin)) ?_))
    · obtain rfl : i = j + 1 := by omega
      have hfin : fnL (tmF j (j + 1)) (j + 2) = fnL (fallC (j + 1)) (j + 2) := fnL_congr fun d _ => tmF_end j d
      rw [hfin]
      repeat ((conv => whnf); first | (refine And.intro (by first | omega | exact Nat.le_of_ble_eq_true rfl | (dsimp only [inK]; omega) | (simp only [mulS_eq]; omega) | (simp only [mulS_eq, setL_length]; omega) | (simp only [setL_length]; omega) | (simp only [setL_length, List.length_map]; omega) | (exact ⟨by omega, by omega, by first | exact Nat.le_of_ble_eq_true rfl | (dsimp only; omega) | (simp only [setL_length]; omega) | (simp only [setL_length, List.length_map]; omega)⟩) | (exact ⟨by omega, by first | rfl | omega, by omega, Nat.le_of_ble_eq_true rfl, Nat.le_of_ble_eq_true rfl⟩) | (exact ⟨rfl, rfl, rfl, Nat.le_of_ble_eq_true rfl, by first | rfl | omega | exact Nat.le_of_ble_eq_true rfl | (dsimp only; omega) | (simp; done) | (simp; omega), by first | rfl | omega | exact Nat.le_of_ble_eq_true rfl | (dsimp only; omega) | (simp; done) | (simp; omega), by omega, Nat.le_of_ble_eq_true rfl⟩) | exact Eq.refl true) ?_) | refine Exists.intro _ (And.intro rfl ?_) | refine And.intro (And.intro rfl (chk_rowI _ _ _ _)) ?_ | refine br_t (by omega) ?_ | refine br_f (by omega) ?_ | refine bs_t (by omega) ?_ | refine bs_f (by omega) ?_ | refine fun (K' : K3) hK' => ?_ | (refine hK' _ _ _ ?_; clear hK' K') | refine draw_auto tok mixed (by kernel_rfl) ?_ | refine bs_bt (Eq.refl true) ?_ | refine bs_bf (Eq.refl false) ?_ | refine br_bt (Eq.refl true) ?_ | refine br_bf (Eq.refl false) ?_ | refine CallK.m ?_ | refine Two.l ?_ | refine And.intro (And.intro rfl rfl) ?_)
      rfl
end Go.Proofs.YtijnimgmpocmaaaDoor

/- Waste: a polynomial's value. -/
namespace Go.Proofs.YtijnimgmpocmaaaDoor
open Go.RowKit
set_option linter.unusedVariables false
set_option linter.unusedSimpArgs false
theorem mul_bd {u x A B : Int} (hu : -A ≤ u ∧ u ≤ A) (hx : -B ≤ x ∧ x ≤ B) (hA : 0 ≤ A) (hB : 0 ≤ B) : -(A * B) ≤ u * x ∧ u * x ≤ A * B := by
  rcases Int.le_total 0 x with h | h
  · have a1 : u * x ≤ A * x := Int.mul_le_mul_of_nonneg_right hu.2 h
    have a2 : A * x ≤ A * B := Int.mul_le_mul_of_nonneg_left hx.2 hA
    have a3 : (-A) * x ≤ u * x := Int.mul_le_mul_of_nonneg_right hu.1 h
    rw [Int.neg_mul] at a3
    omega
  · have a1 : u * (-x) ≤ A * (-x) := Int.mul_le_mul_of_nonneg_right hu.2 (by omega)
    have a2 : A * (-x) ≤ A * B := Int.mul_le_mul_of_nonneg_left (by omega) hA
    have a3 : (-A) * (-x) ≤ u * (-x) := Int.mul_le_mul_of_nonneg_right hu.1 (by omega)
    rw [Int.neg_mul] at a3
    rw [Int.mul_neg] at a1
    rw [Int.mul_neg u x] at a3
    omega
theorem back_spec (lc n nx : Nat) (L : List E) : SpecM Tryd.prog 93 [V.c (.sl lc n)] L nx (fun v L' nx' => v = V.c (.fn 109 [(nx, 0)]) ∧ L' = ⟨nx, .own 67, [.sl lc n]⟩ :: L ∧ nx' = nx + 1) := by
  refine SpecM.of tok Tryd.func93 rfl rfl rfl fun n0 cx => vc_ok tok ?_
  repeat ((conv => whnf); first | (refine And.intro (by first | omega | exact Nat.le_of_ble_eq_true rfl | (dsimp only [inK]; omega) | (simp only [mulS_eq]; omega) | (simp only [mulS_eq, setL_length]; omega) | (simp only [setL_length]; omega) | (simp only [setL_length, List.length_map]; omega) | (exact ⟨by omega, by omega, by first | exact Nat.le_of_ble_eq_true rfl | (dsimp only; omega) | (simp only [setL_length]; omega) | (simp only [setL_length, List.length_map]; omega)⟩) | (exact ⟨by omega, by first | rfl | omega, by omega, Nat.le_of_ble_eq_true rfl, Nat.le_of_ble_eq_true rfl⟩) | (exact ⟨rfl, rfl, rfl, Nat.le_of_ble_eq_true rfl, by first | rfl | omega | exact Nat.le_of_ble_eq_true rfl | (dsimp only; omega) | (simp; done) | (simp; omega), by first | rfl | omega | exact Nat.le_of_ble_eq_true rfl | (dsimp only; omega) | (simp; done) | (simp; omega), by omega, Nat.le_of_ble_eq_true rfl⟩) | exact Eq.refl true) ?_) | refine Exists.intro _ (And.intro rfl ?_) | refine And.intro (And.intro rfl (chk_rowI _ _ _ _)) ?_ | refine br_t (by omega) ?_ | refine br_f (by omega) ?_ | refine bs_t (by omega) ?_ | refine bs_f (by omega) ?_ | refine fun (K' : K3) hK' => ?_ | (refine hK' _ _ _ ?_; clear hK' K') | refine draw_auto tok mixed (by kernel_rfl) ?_ | refine bs_bt (Eq.refl true) ?_ | refine bs_bf (Eq.refl false) ?_ | refine br_bt (Eq.refl true) ?_ | refine br_bf (Eq.refl false) ?_ | refine CallK.m ?_ | refine Two.l ?_ | refine And.intro (And.intro rfl rfl) ?_)
  exact ⟨rfl, rfl, rfl⟩
/-- Values small enough all the way. -/
structure HornB (f : Nat → Int) (x : Int) (N : Nat) : Prop where
  hx : -20 ≤ x ∧ x ≤ 20
  hf : ∀ m, m < N → -1000000000 ≤ f m ∧ f m ≤ 1000000000
  hh : ∀ m, m ≤ N → -100000000000000000 ≤ horn f x m (N - m) ∧ horn f x m (N - m) ≤ 100000000000000000
set_option maxRecDepth 10000 in
set_option maxHeartbeats 4000000 in
theorem at_spec (f : Nat → Int) (x : Int) (N : Nat) (hN : N ≤ 100) (hB : HornB f x N) : Spec Tryd.prog 62 [V.c (.sl 0 N), V.i x] [⟨0, .ro 0, (fnL f N).map C.i⟩] 1 (Is (V.i (horn f x 0 N))) := by
  have hlm : ((fnL f N).map C.i).length = N := by rw [List.length_map, fnL_len]
  obtain ⟨hx, hf, hh⟩ := hB
  refine Spec.of tok Tryd.func62 rfl rfl rfl fun n0 cx => vc_ok tok ?_
  repeat ((conv => whnf); first | (refine And.intro (by first | omega | exact Nat.le_of_ble_eq_true rfl | (dsimp only [inK]; omega) | (simp only [mulS_eq]; omega) | (simp only [mulS_eq, setL_length]; omega) | (simp only [setL_length]; omega) | (simp only [setL_length, List.length_map]; omega) | (exact ⟨by omega, by omega, by first | exact Nat.le_of_ble_eq_true rfl | (dsimp only; omega) | (simp only [setL_length]; omega) | (simp only [setL_length, List.length_map]; omega)⟩) | (exact ⟨by omega, by first | rfl | omega, by omega, Nat.le_of_ble_eq_true rfl, Nat.le_of_ble_eq_true rfl⟩) | (exact ⟨rfl, rfl, rfl, Nat.le_of_ble_eq_true rfl, by first | rfl | omega | exact Nat.le_of_ble_eq_true rfl | (dsimp only; omega) | (simp; done) | (simp; omega), by first | rfl | omega | exact Nat.le_of_ble_eq_true rfl | (dsimp only; omega) | (simp; done) | (simp; omega), by omega, Nat.le_of_ble_eq_true rfl⟩) | exact Eq.refl true) ?_) | refine Exists.intro _ (And.intro rfl ?_) | refine And.intro (And.intro rfl (chk_rowI _ _ _ _)) ?_ | refine br_t (by omega) ?_ | refine br_f (by omega) ?_ | refine bs_t (by omega) ?_ | refine bs_f (by omega) ?_ | refine fun (K' : K3) hK' => ?_ | (refine hK' _ _ _ ?_; clear hK' K') | refine draw_auto tok mixed (by kernel_rfl) ?_ | refine CallK.fresh (by kernel_rfl) (back_spec _ _ _ _) rfl ?_ | refine bs_bt (Eq.refl true) ?_ | refine bs_bf (Eq.refl false) ?_ | refine br_bt (Eq.refl true) ?_ | refine br_bf (Eq.refl false) ?_ | refine CallK.m ?_ | refine Two.l ?_ | refine And.intro (And.intro rfl rfl) ?_)
  refine Tri.opq fun K' hK' => ?_
  refine Tri.rangeFunc tok (by exact rfl) (by kernel_rfl) (by exact rfl) (by exact rfl) (by exact rfl) (by exact rfl) (by exact rfl) (by exact rfl) ?_
  intro y cxi oo ob od hy hY
  refine vc_ok tok ?_
  repeat ((conv => whnf); first | (refine And.intro (by first | omega | exact Nat.le_of_ble_eq_true rfl | (dsimp only [inK]; omega) | (simp only [mulS_eq]; omega) | (simp only [mulS_eq, setL_length]; omega) | (simp only [setL_length]; omega) | (simp only [setL_length, List.length_map]; omega) | (exact ⟨by omega, by omega, by first | exact Nat.le_of_ble_eq_true rfl | (dsimp only; omega) | (simp only [setL_length]; omega) | (simp only [setL_length, List.length_map]; omega)⟩) | (exact ⟨by omega, by first | rfl | omega, by omega, Nat.le_of_ble_eq_true rfl, Nat.le_of_ble_eq_true rfl⟩) | (exact ⟨rfl, rfl, rfl, Nat.le_of_ble_eq_true rfl, by first | rfl | omega | exact Nat.le_of_ble_eq_true rfl | (dsimp only; omega) | (simp; done) | (simp; omega), by first | rfl | omega | exact Nat.le_of_ble_eq_true rfl | (dsimp only; omega) | (simp; done) | (simp; omega), by omega, Nat.le_of_ble_eq_true rfl⟩) | exact Eq.refl true) ?_) | refine Exists.intro _ (And.intro rfl ?_) | refine And.intro (And.intro rfl (chk_rowI _ _ _ _)) ?_ | refine br_t (by omega) ?_ | refine br_f (by omega) ?_ | refine bs_t (by omega) ?_ | refine bs_f (by omega) ?_ | refine fun (K' : K3) hK' => ?_ | (refine hK' _ _ _ ?_; clear hK' K') | refine draw_auto tok mixed (by kernel_rfl) ?_ | refine bs_bt (Eq.refl true) ?_ | refine bs_bf (Eq.refl false) ?_ | refine br_bt (Eq.refl true) ?_ | refine br_bf (Eq.refl false) ?_ | refine CallK.m ?_ | refine Two.l ?_ | refine And.intro (And.intro rfl rfl) ?_)
  refine Tri.loop (γ := Nat) (fun m => m ≤ N) (fun m => [(0, V.c (.v y)), (1, V.c (.ptr 3 0)), (3, V.i ((m : Int) - 1))])
    (fun m => [⟨4, .obj oo, []⟩, ⟨3, .own 67, [.sl 0 N]⟩, ⟨2, .own 3, [C.i (horn f x m (N - m))]⟩, ⟨1, .own 3, [C.i x]⟩, ⟨0, .ro 0, (fnL f N).map C.i⟩]) 5 (fun m => m) N (R0 := []) ?_ ?_ ?_
  · exact Nat.le_refl _
  · skip
    refine ⟨?_, ?_, rfl, rfl, by first | exact Nat.le_of_ble_eq_true rfl | exact Nat.le_refl _ | omega⟩
    · repeat (first | exact trivial | (refine And.intro (covS_syn (by rfl) rfl (by first | exact trivial | exact Nat.le_of_ble_eq_true rfl | exact hy | (first | ((show ∀ p ∈ (_ : List (Nat × Nat)), p.1 < _); decide) | exact (fun p hp => nomatch hp)) | (show (_ : Nat) < _; omega))) ?_) | refine And.intro (covS_bool rfl rfl (by rfl)) ?_)
    · repeat (first | exact trivial | (refine And.intro (covE_id (Nat.le_of_ble_eq_true rfl) (by first | exact wf_ints _ _ | exact wf_bools _ _ | first | exact wf_us _ _ | (simp [C.wf]; done) | simp [C.wf]) rfl (by first | rfl | ((rw [Nat.sub_self]; rfl)))) ?_))
  · intro m hm
    refine vc_ok tok ?_
    cases m with
    | zero =>
      repeat ((conv => whnf); first | (refine And.intro (by first | omega | exact Nat.le_of_ble_eq_true rfl | (dsimp only [inK]; omega) | (simp only [mulS_eq]; omega) | (simp only [mulS_eq, setL_length]; omega) | (simp only [setL_length]; omega) | (simp only [setL_length, List.length_map]; omega) | (exact ⟨by omega, by omega, by first | exact Nat.le_of_ble_eq_true rfl | (dsimp only; omega) | (simp only [setL_length]; omega) | (simp only [setL_length, List.length_map]; omega)⟩) | (exact ⟨by omega, by first | rfl | omega, by omega, Nat.le_of_ble_eq_true rfl, Nat.le_of_ble_eq_true rfl⟩) | (exact ⟨rfl, rfl, rfl, Nat.le_of_ble_eq_true rfl, by first | rfl | omega | exact Nat.le_of_ble_eq_true rfl | (dsimp only; omega) | (simp; done) | (simp; omega), by first | rfl | omega | exact Nat.le_of_ble_eq_true rfl | (dsimp only; omega) | (simp; done) | (simp; omega), by omega, Nat.le_of_ble_eq_true rfl⟩) | exact Eq.refl true) ?_) | refine Exists.intro _ (And.intro rfl ?_) | refine And.intro (And.intro rfl (chk_rowI _ _ _ _)) ?_ | refine br_t (by omega) ?_ | refine br_f (by omega) ?_ | refine bs_t (by omega) ?_ | refine bs_f (by omega) ?_ | refine fun (K' : K3) hK' => ?_ | (refine hK' _ _ _ ?_; clear hK' K') | refine draw_auto tok mixed (by kernel_rfl) ?_ | refine Or.inl ?_ | refine And.intro (Eq.refl oo) ?_ | refine bs_bt (Eq.refl true) ?_ | refine bs_bf (Eq.refl false) ?_ | refine br_bt (Eq.refl true) ?_ | refine br_bf (Eq.refl false) ?_ | refine CallK.m ?_ | refine Two.l ?_ | refine And.intro (And.intro rfl rfl) ?_)
      refine hK' _ _ _ _ ?_
      repeat ((conv => whnf); first | (refine And.intro (by first | omega | exact Nat.le_of_ble_eq_true rfl | (dsimp only [inK]; omega) | (simp only [mulS_eq]; omega) | (simp only [mulS_eq, setL_length]; omega) | (simp only [setL_length]; omega) | (simp only [setL_length, List.length_map]; omega) | (exact ⟨by omega, by omega, by first | exact Nat.le_of_ble_eq_true rfl | (dsimp only; omega) | (simp only [setL_length]; omega) | (simp only [setL_length, List.length_map]; omega)⟩) | (exact ⟨by omega, by first | rfl | omega, by omega, Nat.le_of_ble_eq_true rfl, Nat.le_of_ble_eq_true rfl⟩) | (exact ⟨rfl, rfl, rfl, Nat.le_of_ble_eq_true rfl, by first | rfl | omega | exact Nat.le_of_ble_eq_true rfl | (dsimp only; omega) | (simp; done) | (simp; omega), by first | rfl | omega | exact Nat.le_of_ble_eq_true rfl | (dsimp only; omega) | (simp; done) | (simp; omega), by omega, Nat.le_of_ble_eq_true rfl⟩) | exact Eq.refl true) ?_) | refine Exists.intro _ (And.intro rfl ?_) | refine And.intro (And.intro rfl (chk_rowI _ _ _ _)) ?_ | refine br_t (by omega) ?_ | refine br_f (by omega) ?_ | refine bs_t (by omega) ?_ | refine bs_f (by omega) ?_ | refine fun (K' : K3) hK' => ?_ | (refine hK' _ _ _ ?_; clear hK' K') | refine draw_auto tok mixed (by kernel_rfl) ?_ | refine bs_bt (Eq.refl true) ?_ | refine bs_bf (Eq.refl false) ?_ | refine br_bt (Eq.refl true) ?_ | refine br_bf (Eq.refl false) ?_ | refine CallK.m ?_ | refine Two.l ?_ | refine And.intro (And.intro rfl rfl) ?_)
      intro ρ; rfl
    | succ k =>
      have hld : ((fnL f N).map C.i)[mulS (((k + 1 : Nat) : Int) - 1).toNat 1]? = some (C.i (f k)) := by
        rw [intLz (k := k) (by omega) (by rw [fnL_len]; omega), fnL_get (by omega)]
      have hst : horn f x k (N - k) = horn f x (k + 1) (N - (k + 1)) * x + f k := by
        rw [show N - k = (N - (k + 1)) + 1 by omega]; rfl
      have h1 := hh (k + 1) hm
      have h2 := hh k (by omega)
      have h3 := mul_bd (A := 100000000000000000) (B := 20) h1 hx (by omega) (by omega)
      have h4 := hf k (by omega)
      rw [hst] at h2
      have hk0 : ((k + 1 : Nat) : Int) - 1 = (k : Int) := by omega
      obtain ⟨u, hu⟩ : ∃ u, u = horn f x (k + 1) (N - (k + 1)) := ⟨_, rfl⟩
      rw [← hu] at hst h1 h2 h3 ⊢
      obtain ⟨c, hc⟩ : ∃ c, c = f k := ⟨_, rfl⟩
      rw [← hc] at hst hld h2 h4
      repeat ((conv => whnf); first | (refine And.intro (by first | omega | exact Nat.le_of_ble_eq_true rfl | (dsimp only [inK]; omega) | (simp only [mulS_eq]; omega) | (simp only [mulS_eq, setL_length]; omega) | (simp only [setL_length]; omega) | (simp only [setL_length, List.length_map]; omega) | (exact ⟨by omega, by omega, by first | exact Nat.le_of_ble_eq_true rfl | (dsimp only; omega) | (simp only [setL_length]; omega) | (simp only [setL_length, List.length_map]; omega)⟩) | (exact ⟨by omega, by first | rfl | omega, by omega, Nat.le_of_ble_eq_true rfl, Nat.le_of_ble_eq_true rfl⟩) | (exact ⟨rfl, rfl, rfl, Nat.le_of_ble_eq_true rfl, by first | rfl | omega | exact Nat.le_of_ble_eq_true rfl | (dsimp only; omega) | (simp; done) | (simp; omega), by first | rfl | omega | exact Nat.le_of_ble_eq_true rfl | (dsimp only; omega) | (simp; done) | (simp; omega), by omega, Nat.le_of_ble_eq_true rfl⟩) | exact Eq.refl true) ?_) | with_reducible refine ld (hld) ?_ | refine Exists.intro _ (And.intro rfl ?_) | refine And.intro (And.intro rfl (chk_rowI _ _ _ _)) ?_ | refine br_t (by omega) ?_ | refine br_f (by omega) ?_ | refine bs_t (by omega) ?_ | refine bs_f (by omega) ?_ | refine fun (K' : K3) hK' => ?_ | (refine hK' _ _ _ ?_; clear hK' K') | refine draw_auto tok mixed (by kernel_rfl) ?_ | refine bs_bt (Eq.refl true) ?_ | refine bs_bf (Eq.refl false) ?_ | refine br_bt (Eq.refl true) ?_ | refine br_bf (Eq.refl false) ?_ | refine CallK.m ?_ | refine Two.l ?_ | refine And.intro (And.intro rfl rfl) ?_)
      refine hY _ _ _ _ (Nat.le_of_ble_eq_true rfl) rfl ⟨rfl, trivial⟩ ?_
      intro cxb hcx
      refine vc_ok tok ?_
      repeat ((conv => whnf); first | (refine And.intro (by first | omega | exact Nat.le_of_ble_eq_true rfl | (dsimp only [inK]; omega) | (simp only [mulS_eq]; omega) | (simp only [mulS_eq, setL_length]; omega) | (simp only [setL_length]; omega) | (simp only [setL_length, List.length_map]; omega) | (exact ⟨by omega, by omega, by first | exact Nat.le_of_ble_eq_true rfl | (dsimp only; omega) | (simp only [setL_length]; omega) | (simp only [setL_length, List.length_map]; omega)⟩) | (exact ⟨by omega, by first | rfl | omega, by omega, Nat.le_of_ble_eq_true rfl, Nat.le_of_ble_eq_true rfl⟩) | (exact ⟨rfl, rfl, rfl, Nat.le_of_ble_eq_true rfl, by first | rfl | omega | exact Nat.le_of_ble_eq_true rfl | (dsimp only; omega) | (simp; done) | (simp; omega), by first | rfl | omega | exact Nat.le_of_ble_eq_true rfl | (dsimp only; omega) | (simp; done) | (simp; omega), by omega, Nat.le_of_ble_eq_true rfl⟩) | exact Eq.refl true) ?_) | refine Exists.intro _ (And.intro rfl ?_) | refine And.intro (And.intro rfl (chk_rowI _ _ _ _)) ?_ | refine br_t (by omega) ?_ | refine br_f (by omega) ?_ | refine bs_t (by omega) ?_ | refine bs_f (by omega) ?_ | refine fun (K' : K3) hK' => ?_ | (refine hK' _ _ _ ?_; clear hK' K') | refine draw_auto tok mixed (by kernel_rfl) ?_ | refine And.intro (Eq.refl oo) ?_ | refine bs_bt (Eq.refl true) ?_ | refine bs_bf (Eq.refl false) ?_ | refine br_bt (Eq.refl true) ?_ | refine br_bf (Eq.refl false) ?_ | refine CallK.m ?_ | refine Two.l ?_ | refine And.intro (And.intro rfl rfl) ?_)
      refine vc_ok tok ?_
      repeat ((conv => whnf); first | (refine And.intro (by first | omega | exact Nat.le_of_ble_eq_true rfl | (dsimp only [inK]; omega) | (simp only [mulS_eq]; omega) | (simp only [mulS_eq, setL_length]; omega) | (simp only [setL_length]; omega) | (simp only [setL_length, List.length_map]; omega) | (exact ⟨by omega, by omega, by first | exact Nat.le_of_ble_eq_true rfl | (dsimp only; omega) | (simp only [setL_length]; omega) | (simp only [setL_length, List.length_map]; omega)⟩) | (exact ⟨by omega, by first | rfl | omega, by omega, Nat.le_of_ble_eq_true rfl, Nat.le_of_ble_eq_true rfl⟩) | (exact ⟨rfl, rfl, rfl, Nat.le_of_ble_eq_true rfl, by first | rfl | omega | exact Nat.le_of_ble_eq_true rfl | (dsimp only; omega) | (simp; done) | (simp; omega), by first | rfl | omega | exact Nat.le_of_ble_eq_true rfl | (dsimp only; omega) | (simp; done) | (simp; omega), by omega, Nat.le_of_ble_eq_true rfl⟩) | exact Eq.refl true) ?_) | refine Exists.intro _ (And.intro rfl ?_) | refine And.intro (And.intro rfl (chk_rowI _ _ _ _)) ?_ | refine br_t (by omega) ?_ | refine br_f (by omega) ?_ | refine bs_t (by omega) ?_ | refine bs_f (by omega) ?_ | refine fun (K' : K3) hK' => ?_ | (refine hK' _ _ _ ?_; clear hK' K') | refine draw_auto tok mixed (by kernel_rfl) ?_ | refine And.intro (Eq.refl ob) ?_ | refine bs_bt (Eq.refl true) ?_ | refine bs_bf (Eq.refl false) ?_ | refine br_bt (Eq.refl true) ?_ | refine br_bf (Eq.refl false) ?_ | refine CallK.m ?_ | refine Two.l ?_ | refine And.intro (And.intro rfl rfl) ?_)
      refine ⟨k, [], by omega, Nat.lt_succ_self k, ?_⟩
      refine ⟨?_, ?_, rfl, rfl, by first | exact Nat.le_of_ble_eq_true rfl | exact Nat.le_refl _ | omega⟩
      · repeat (first | exact trivial | (refine And.intro (covS_syn (by first | rfl | (refine congrArg some (congrArg V.i ?_); omega)) rfl (by first | exact trivial | exact Nat.le_of_ble_eq_true rfl | exact hy | (first | ((show ∀ p ∈ (_ : List (Nat × Nat)), p.1 < _); decide) | exact (fun p hp => nomatch hp)) | (show (_ : Nat) < _; omega))) ?_) | refine And.intro (covS_bool rfl rfl (by rfl)) ?_)
      · repeat (first | exact trivial | (refine And.intro (covE_id (Nat.le_of_ble_eq_true rfl) (by first | exact wf_ints _ _ | exact wf_bools _ _ | first | exact wf_us _ _ | (simp [C.wf]; done) | simp [C.wf]) rfl (by first | rfl | ((rw [hst]; rfl)))) ?_))
end Go.Proofs.YtijnimgmpocmaaaDoor

/- Waste: everything, size, loadings. -/
namespace Go.Proofs.YtijnimgmpocmaaaDoor
open Go.RowKit
set_option linter.unusedVariables false
set_option linter.unusedSimpArgs false
theorem every_spec (n m : Nat) (hn : n ≤ 8) : Spec Tryd.prog 94 [V.c (.sl 0 n)] [] 1 (Is (V.u (2 ^ n - 1))) := by
  have h1 := pow_8 hn
  have h0 : 0 < 2 ^ n := Nat.two_pow_pos n
  have h2 : ((2 : Int) ^ n) = ((2 ^ n : Nat) : Int) := by simp
  have h3 : (1 : Int) * 2 ^ ((n : Nat) : Int).toNat = ((2 ^ n : Nat) : Int) := by rw [Int.toNat_natCast, h2]; simp
  clear h2
  obtain ⟨k, hm⟩ : ∃ k, k = 2 ^ n := ⟨_, rfl⟩
  rw [← hm] at h1 h0 h3 ⊢
  clear hm
  refine Spec.of tok Tryd.func94 rfl rfl rfl fun n0 cx => vc_ok tok ?_
  repeat ((conv => whnf); first | (refine And.intro (by first | omega | exact Nat.le_of_ble_eq_true rfl | (dsimp only [inK]; omega) | (simp only [mulS_eq]; omega) | (simp only [mulS_eq, setL_length]; omega) | (simp only [setL_length]; omega) | (simp only [setL_length, List.length_map]; omega) | (exact ⟨by omega, by omega, by first | exact Nat.le_of_ble_eq_true rfl | (dsimp only; omega) | (simp only [setL_length]; omega) | (simp only [setL_length, List.length_map]; omega)⟩) | (exact ⟨by omega, by first | rfl | omega, by omega, Nat.le_of_ble_eq_true rfl, Nat.le_of_ble_eq_true rfl⟩) | (exact ⟨rfl, rfl, rfl, Nat.le_of_ble_eq_true rfl, by first | rfl | omega | exact Nat.le_of_ble_eq_true rfl | (dsimp only; omega) | (simp; done) | (simp; omega), by first | rfl | omega | exact Nat.le_of_ble_eq_true rfl | (dsimp only; omega) | (simp; done) | (simp; omega), by omega, Nat.le_of_ble_eq_true rfl⟩) | exact Eq.refl true) ?_) | refine Exists.intro _ (And.intro rfl ?_) | refine And.intro (And.intro rfl (chk_rowI _ _ _ _)) ?_ | refine br_t (by omega) ?_ | refine br_f (by omega) ?_ | refine bs_t (by omega) ?_ | refine bs_f (by omega) ?_ | refine fun (K' : K3) hK' => ?_ | (refine hK' _ _ _ ?_; clear hK' K') | refine draw_auto tok mixed (by kernel_rfl) ?_ | (refine And.intro ⟨by omega, by omega, by rw [h3]; dsimp only [inK]; omega⟩ ?_) | (refine And.intro (by rw [h3]; dsimp only [inK]; omega) ?_) | refine bs_bt (Eq.refl true) ?_ | refine bs_bf (Eq.refl false) ?_ | refine br_bt (Eq.refl true) ?_ | refine br_bf (Eq.refl false) ?_ | refine CallK.m ?_ | refine Two.l ?_ | refine And.intro (And.intro rfl rfl) ?_)
  intro ρ
  show Value.int _ _ = Value.int _ _
  rw [h3, show ((k - 1 : Nat) : Int) = (k : Int) - 1 by omega]
/-- How many bits, as the library works it out. -/
def oc1 (x : Int) : Int := bitI .and .u64 (shrI .u64 x 1) 6148914691236517205 + bitI .and .u64 x 6148914691236517205
def oc2 (x : Int) : Int := bitI .and .u64 (shrI .u64 x 2) 3689348814741910323 + bitI .and .u64 x 3689348814741910323
def oc3 (x : Int) : Int := bitI .and .u64 (shrI .u64 x 4 + x) 1085102592571150095
def oc4 (x : Int) : Int := x + shrI .u64 x 8
def oc5 (x : Int) : Int := x + shrI .u64 x 16
def oc6 (x : Int) : Int := x + shrI .u64 x 32
theorem oc_fact : ∀ s, s < 256 → (0 ≤ oc1 (s : Nat) ∧ oc1 (s : Nat) ≤ 1000) ∧ (0 ≤ oc2 (oc1 (s : Nat)) ∧ oc2 (oc1 (s : Nat)) ≤ 1000) ∧ (0 ≤ shrI .u64 (oc2 (oc1 (s : Nat))) 4 + oc2 (oc1 (s : Nat)) ∧ shrI .u64 (oc2 (oc1 (s : Nat))) 4 + oc2 (oc1 (s : Nat)) ≤ 1000) ∧
    (0 ≤ oc4 (oc3 (oc2 (oc1 (s : Nat)))) ∧ oc4 (oc3 (oc2 (oc1 (s : Nat)))) ≤ 1000) ∧ (0 ≤ oc5 (oc4 (oc3 (oc2 (oc1 (s : Nat))))) ∧ oc5 (oc4 (oc3 (oc2 (oc1 (s : Nat))))) ≤ 1000) ∧ (0 ≤ oc6 (oc5 (oc4 (oc3 (oc2 (oc1 (s : Nat)))))) ∧ oc6 (oc5 (oc4 (oc3 (oc2 (oc1 (s : Nat)))))) ≤ 1000) ∧
    bitI .and .i64 (oc6 (oc5 (oc4 (oc3 (oc2 (oc1 (s : Nat))))))) 127 = ((bitsL s).length : Nat) := by decide +kernel
set_option maxRecDepth 10000 in
set_option maxHeartbeats 1000000 in
theorem ones64_spec (s : Nat) (hs : s < 256) : Spec Tryd.prog 111 [V.u s] [] 0 (Is (V.i (bitsL s).length)) := by
  obtain ⟨f1, f2, f3, f4, f5, f6, f7⟩ := oc_fact s hs
  have g1 : inK .u64 (oc1 (s : Nat)) := by dsimp only [inK]; omega
  have g2 : inK .u64 (oc2 (oc1 (s : Nat))) := by dsimp only [inK]; omega
  have g3 : inK .u64 (shrI .u64 (oc2 (oc1 (s : Nat))) 4 + oc2 (oc1 (s : Nat))) := by dsimp only [inK]; omega
  have g4 : inK .u64 (oc4 (oc3 (oc2 (oc1 (s : Nat))))) := by dsimp only [inK]; omega
  have g5 : inK .u64 (oc5 (oc4 (oc3 (oc2 (oc1 (s : Nat)))))) := by dsimp only [inK]; omega
  have g6 : inK .u64 (oc6 (oc5 (oc4 (oc3 (oc2 (oc1 (s : Nat))))))) := by dsimp only [inK]; omega
  have g7 : inK .i64 (oc6 (oc5 (oc4 (oc3 (oc2 (oc1 (s : Nat))))))) := by dsimp only [inK]; omega
  refine Spec.of tok Tryd.func111 rfl rfl rfl fun n0 cx => vc_ok tok ?_
  repeat ((conv => whnf); first | (refine And.intro (by first | omega | exact Nat.le_of_ble_eq_true rfl | (dsimp only [inK]; omega) | (simp only [mulS_eq]; omega) | (simp only [mulS_eq, setL_length]; omega) | (simp only [setL_length]; omega) | (simp only [setL_length, List.length_map]; omega) | (exact ⟨by omega, by omega, by first | exact Nat.le_of_ble_eq_true rfl | (dsimp only; omega) | (simp only [setL_length]; omega) | (simp only [setL_length, List.length_map]; omega)⟩) | (exact ⟨by omega, by first | rfl | omega, by omega, Nat.le_of_ble_eq_true rfl, Nat.le_of_ble_eq_true rfl⟩) | (exact ⟨rfl, rfl, rfl, Nat.le_of_ble_eq_true rfl, by first | rfl | omega | exact Nat.le_of_ble_eq_true rfl | (dsimp only; omega) | (simp; done) | (simp; omega), by first | rfl | omega | exact Nat.le_of_ble_eq_true rfl | (dsimp only; omega) | (simp; done) | (simp; omega), by omega, Nat.le_of_ble_eq_true rfl⟩) | exact Eq.refl true) ?_) | refine Exists.intro _ (And.intro rfl ?_) | refine And.intro (And.intro rfl (chk_rowI _ _ _ _)) ?_ | refine br_t (by omega) ?_ | refine br_f (by omega) ?_ | refine bs_t (by omega) ?_ | refine bs_f (by omega) ?_ | refine fun (K' : K3) hK' => ?_ | (refine hK' _ _ _ ?_; clear hK' K') | refine draw_auto tok mixed (by kernel_rfl) ?_ | refine And.intro g1 ?_ | refine And.intro g2 ?_ | refine And.intro g3 ?_ | refine And.intro g4 ?_ | refine And.intro g5 ?_ | refine And.intro g6 ?_ | refine And.intro g7 ?_ | refine bs_bt (Eq.refl true) ?_ | refine bs_bf (Eq.refl false) ?_ | refine br_bt (Eq.refl true) ?_ | refine br_bf (Eq.refl false) ?_ | refine CallK.m ?_ | refine Two.l ?_ | refine And.intro (And.intro rfl rfl) ?_)
  intro ρ
  show Value.int _ _ = Value.int _ _
  rw [← f7]; rfl
theorem ones_spec (s : Nat) (hs : s < 256) : Spec Tryd.prog 98 [V.u s] [] 0 (Is (V.i (bitsL s).length)) := by
  have h := ones64_spec s hs
  refine Spec.of tok Tryd.func98 rfl rfl rfl fun n0 cx => vc_ok tok ?_
  repeat ((conv => whnf); first | (refine And.intro (by first | omega | exact Nat.le_of_ble_eq_true rfl | (dsimp only [inK]; omega) | (simp only [mulS_eq]; omega) | (simp only [mulS_eq, setL_length]; omega) | (simp only [setL_length]; omega) | (simp only [setL_length, List.length_map]; omega) | (exact ⟨by omega, by omega, by first | exact Nat.le_of_ble_eq_true rfl | (dsimp only; omega) | (simp only [setL_length]; omega) | (simp only [setL_length, List.length_map]; omega)⟩) | (exact ⟨by omega, by first | rfl | omega, by omega, Nat.le_of_ble_eq_true rfl, Nat.le_of_ble_eq_true rfl⟩) | (exact ⟨rfl, rfl, rfl, Nat.le_of_ble_eq_true rfl, by first | rfl | omega | exact Nat.le_of_ble_eq_true rfl | (dsimp only; omega) | (simp; done) | (simp; omega), by first | rfl | omega | exact Nat.le_of_ble_eq_true rfl | (dsimp only; omega) | (simp; done) | (simp; omega), by omega, Nat.le_of_ble_eq_true rfl⟩) | exact Eq.refl true) ?_) | refine Exists.intro _ (And.intro rfl ?_) | refine And.intro (And.intro rfl (chk_rowI _ _ _ _)) ?_ | refine br_t (by omega) ?_ | refine br_f (by omega) ?_ | refine bs_t (by omega) ?_ | refine bs_f (by omega) ?_ | refine fun (K' : K3) hK' => ?_ | (refine hK' _ _ _ ?_; clear hK' K') | refine draw_auto tok mixed (by kernel_rfl) ?_ | refine CallK.val (R := []) h (by kernel_rfl) rfl (by simp [V.wf, A.wf, C.wf]) trivial rfl rfl trivial ?_ | refine bs_bt (Eq.refl true) ?_ | refine bs_bf (Eq.refl false) ?_ | refine br_bt (Eq.refl true) ?_ | refine br_bf (Eq.refl false) ?_ | refine CallK.m ?_ | refine Two.l ?_ | refine And.intro (And.intro rfl rfl) ?_)
  intro ρ; rfl
theorem size_spec (s : Nat) (hs : s < 256) : Spec Tryd.prog 72 [V.u s] [] 0 (Is (V.i (bitsL s).length)) := by
  have h := ones_spec s hs
  refine Spec.of tok Tryd.func72 rfl rfl rfl fun n0 cx => vc_ok tok ?_
  repeat ((conv => whnf); first | (refine And.intro (by first | omega | exact Nat.le_of_ble_eq_true rfl | (dsimp only [inK]; omega) | (simp only [mulS_eq]; omega) | (simp only [mulS_eq, setL_length]; omega) | (simp only [setL_length]; omega) | (simp only [setL_length, List.length_map]; omega) | (exact ⟨by omega, by omega, by first | exact Nat.le_of_ble_eq_true rfl | (dsimp only; omega) | (simp only [setL_length]; omega) | (simp only [setL_length, List.length_map]; omega)⟩) | (exact ⟨by omega, by first | rfl | omega, by omega, Nat.le_of_ble_eq_true rfl, Nat.le_of_ble_eq_true rfl⟩) | (exact ⟨rfl, rfl, rfl, Nat.le_of_ble_eq_true rfl, by first | rfl | omega | exact Nat.le_of_ble_eq_true rfl | (dsimp only; omega) | (simp; done) | (simp; omega), by first | rfl | omega | exact Nat.le_of_ble_eq_true rfl | (dsimp only; omega) | (simp; done) | (simp; omega), by omega, Nat.le_of_ble_eq_true rfl⟩) | exact Eq.refl true) ?_) | refine Exists.intro _ (And.intro rfl ?_) | refine And.intro (And.intro rfl (chk_rowI _ _ _ _)) ?_ | refine br_t (by omega) ?_ | refine br_f (by omega) ?_ | refine bs_t (by omega) ?_ | refine bs_f (by omega) ?_ | refine fun (K' : K3) hK' => ?_ | (refine hK' _ _ _ ?_; clear hK' K') | refine draw_auto tok mixed (by kernel_rfl) ?_ | refine CallK.val (R := []) h (by kernel_rfl) rfl (by simp [V.wf, A.wf, C.wf]) trivial rfl rfl trivial ?_ | refine bs_bt (Eq.refl true) ?_ | refine bs_bf (Eq.refl false) ?_ | refine br_bt (Eq.refl true) ?_ | refine br_bf (Eq.refl false) ?_ | refine CallK.m ?_ | refine Two.l ?_ | refine And.intro (And.intro rfl rfl) ?_)
  intro ρ; rfl
end Go.Proofs.YtijnimgmpocmaaaDoor

/- Waste: the polynomial of a table of kinds. -/
namespace Go.Proofs.YtijnimgmpocmaaaDoor
open Go.RowKit
set_option linter.unusedVariables false
set_option linter.unusedSimpArgs false
/-- The numbers so far: behind j groups, and i numbers of the next. -/
def plF (t : List Nat) (j d : Nat) : Int := sumN (fun k => srtW t k * fallC k d) j
def plG (t : List Nat) (j i d : Nat) : Int := plF t j d + if d < i then srtW t j * fallC j d else 0
theorem plG_zero (t : List Nat) (j d : Nat) : plG t j 0 d = plF t j d := by unfold plG; rw [if_neg (by omega)]; omega
theorem plG_end (t : List Nat) (j d : Nat) : plG t j (j + 1) d = plF t (j + 1) d := by
  unfold plG
  simp only [plF, sumN]
  congr 1
  by_cases h : d < j + 1
  · rw [if_pos h]
  · rw [if_neg h, fallC_high (by omega)]; simp
def polyP (t : List Nat) (d : Nat) : Int := plF t (t.length + 1) d
theorem mul_nn {u x A B : Int} (hu : 0 ≤ u ∧ u ≤ A) (hx : -B ≤ x ∧ x ≤ B) (hA : 0 ≤ A) (hB : 0 ≤ B) : -(A * B) ≤ u * x ∧ u * x ≤ A * B := mul_bd ⟨by omega, hu.2⟩ hx hA hB
theorem srt_mul (t : List Nat) (h : t.length ≤ 8) {j d : Nat} (hj : j ≤ t.length) (hd : d ≤ 9) : -2000000000 ≤ srtW t j * fallC j d ∧ srtW t j * fallC j d ≤ 2000000000 := by
  have h1 := srtW_bd t h j hj
  have h2 := fallC_bd j (by omega) d hd
  have := mul_nn (A := 100000) (B := 20000) h1 ⟨h2.1, h2.2.1⟩ (by omega) (by omega)
  omega
theorem plF_bd (t : List Nat) (h : t.length ≤ 8) {d : Nat} (hd : d ≤ 9) : ∀ j, j ≤ t.length + 1 → -((j : Int) * 2000000000) ≤ plF t j d ∧ plF t j d ≤ (j : Int) * 2000000000
  | 0, _ => by simp [plF, sumN]
  | j + 1, hj => by
    have h1 := plF_bd t h hd j (by omega)
    have h2 := srt_mul t h (j := j) (by omega) hd
    have e : plF t (j + 1) d = plF t j d + srtW t j * fallC j d := rfl
    rw [e]
    omega
set_option maxRecDepth 10000 in
set_option maxHeartbeats 4000000 in
theorem polynomial_spec (t : List Nat) (n : Nat) (htl : t.length = n) (hn : n ≤ 8) (ht : ∀ s ∈ t, s < 256) : Spec Tryd.prog 61 [V.c (.sl 0 n)] [⟨0, .ro 0, t.map C.u⟩] 1
    (fun v L' _ => ∃ l, v = V.c (.sl l (n + 1)) ∧ find L' l = some ⟨l, .vec 3 1, (fnL (polyP t) (n + 1)).map C.i⟩) := by
  have hsp := sorts_spec t n htl hn ht
  have hz : repC (n + 1) [C.int .i64 0] = (fnL (plF t 0) (n + 1)).map C.i := by rw [repI, fnL_zero]; rfl
  refine Spec.of tok Tryd.func61 rfl rfl rfl fun n0 cx => vc_ok tok ?_
  repeat ((conv => whnf); first | (refine And.intro (by first | omega | exact Nat.le_of_ble_eq_true rfl | (dsimp only [inK]; omega) | (simp only [mulS_eq]; omega) | (simp only [mulS_eq, setL_length]; omega) | (simp only [setL_length]; omega) | (simp only [setL_length, List.length_map]; omega) | (exact ⟨by omega, by omega, by first | exact Nat.le_of_ble_eq_true rfl | (dsimp only; omega) | (simp only [setL_length]; omega) | (simp only [setL_length, List.length_map]; omega)⟩) | (exact ⟨by omega, by first | rfl | omega, by omega, Nat.le_of_ble_eq_true rfl, Nat.le_of_ble_eq_true rfl⟩) | (exact ⟨rfl, rfl, rfl, Nat.le_of_ble_eq_true rfl, by first | rfl | omega | exact Nat.le_of_ble_eq_true rfl | (dsimp only; omega) | (simp; done) | (simp; omega), by first | rfl | omega | exact Nat.le_of_ble_eq_true rfl | (dsimp only; omega) | (simp; done) | (simp; omega), by omega, Nat.le_of_ble_eq_true rfl⟩) | exact Eq.refl true) ?_) | refine Exists.intro _ (And.intro rfl ?_) | refine And.intro (And.intro rfl (chk_rowI _ _ _ _)) ?_ | refine br_t (by omega) ?_ | refine br_f (by omega) ?_ | refine bs_t (by omega) ?_ | refine bs_f (by omega) ?_ | refine fun (K' : K3) hK' => ?_ | (refine hK' _ _ _ ?_; clear hK' K') | refine draw_auto tok mixed (by kernel_rfl) ?_ | refine CallK.rowF (R := []) (flat_i _) hsp (by kernel_rfl) rfl (by simp [V.wf, A.wf, C.wf]) ⟨roE_f (flat_u _) (l := 0) rfl (by omega) rfl (.inl rfl), trivial⟩ rfl ?_ | refine bs_bt (Eq.refl true) ?_ | refine bs_bf (Eq.refl false) ?_ | refine br_bt (Eq.refl true) ?_ | refine br_bf (Eq.refl false) ?_ | refine CallK.m ?_ | refine Two.l ?_ | refine And.intro (And.intro rfl rfl) ?_)
  refine Tri.loop (γ := Nat) (fun j => j ≤ n + 1) (fun j => [(2, V.c .nil), (3, V.c (.sl 1 (n + 1))), (4, V.c (.sl 2 (j + 1))), (15, V.c (.sl 3 (n + 1))), (16, V.i ((n + 1 : Nat) : Int)), (17, V.i (j : Nat))])
    (fun j => [⟨3, .vec 3 1, (fnL (srtW t) (n + 1)).map C.i⟩, ⟨2, .vec 3 1, (fnL (fallC j) (j + 1)).map C.i⟩, ⟨1, .vec 3 1, (fnL (plF t j) (n + 1)).map C.i⟩, ⟨0, .ro 0, t.map C.u⟩]) 4 (fun j => n + 1 - j) 0 (R0 := []) ?_ ?_ ?_
  · omega
  · skip
    refine ⟨?_, ?_, rfl, rfl, by first | exact Nat.le_of_ble_eq_true rfl | exact Nat.le_refl _ | omega⟩
    · repeat (first | exact trivial | (refine And.intro (covS_syn (by rfl) rfl (by first | exact trivial | exact Nat.le_of_ble_eq_true rfl | exact hy | (first | ((show ∀ p ∈ (_ : List (Nat × Nat)), p.1 < _); decide) | exact (fun p hp => nomatch hp)) | (show (_ : Nat) < _; omega))) ?_) | refine And.intro (covS_bool rfl rfl (by rfl)) ?_)
    · repeat (first | exact trivial | (refine And.intro (covE_id (Nat.le_of_ble_eq_true rfl) (by first | exact wf_ints _ _ | exact wf_bools _ _ | first | exact wf_us _ _ | (simp [C.wf]; done) | simp [C.wf]) rfl (by first | rfl | exact hz)) ?_))
  · intro j hj
    refine vc_ok tok ?_
    have hsl : ((fnL (srtW t) (n + 1)).map C.i).length = n + 1 := by rw [List.length_map, fnL_len]
    by_cases hlt : j < n + 1
    · have hld : ((fnL (srtW t) (n + 1)).map C.i)[mulS ((j : Nat) : Int).toNat 1]? = some (C.i (srtW t j)) := by
        rw [intLz rfl (by rw [fnL_len]; omega), fnL_get (by omega)]
      have hti := times_spec j (by omega)
      repeat ((conv => whnf); first | (refine And.intro (by first | omega | exact Nat.le_of_ble_eq_true rfl | (dsimp only [inK]; omega) | (simp only [mulS_eq]; omega) | (simp only [mulS_eq, setL_length]; omega) | (simp only [setL_length]; omega) | (simp only [setL_length, List.length_map]; omega) | (exact ⟨by omega, by omega, by first | exact Nat.le_of_ble_eq_true rfl | (dsimp only; omega) | (simp only [setL_length]; omega) | (simp only [setL_length, List.length_map]; omega)⟩) | (exact ⟨by omega, by first | rfl | omega, by omega, Nat.le_of_ble_eq_true rfl, Nat.le_of_ble_eq_true rfl⟩) | (exact ⟨rfl, rfl, rfl, Nat.le_of_ble_eq_true rfl, by first | rfl | omega | exact Nat.le_of_ble_eq_true rfl | (dsimp only; omega) | (simp; done) | (simp; omega), by first | rfl | omega | exact Nat.le_of_ble_eq_true rfl | (dsimp only; omega) | (simp; done) | (simp; omega), by omega, Nat.le_of_ble_eq_true rfl⟩) | exact Eq.refl true) ?_) | with_reducible refine ld (hld) ?_ | refine Exists.intro _ (And.intro rfl ?_) | refine And.intro (And.intro rfl (chk_rowI _ _ _ _)) ?_ | refine br_t (by omega) ?_ | refine br_f (by omega) ?_ | refine bs_t (by omega) ?_ | refine bs_f (by omega) ?_ | refine fun (K' : K3) hK' => ?_ | (refine hK' _ _ _ ?_; clear hK' K') | refine draw_auto tok mixed (by kernel_rfl) ?_ | refine bs_bt (Eq.refl true) ?_ | refine bs_bf (Eq.refl false) ?_ | refine br_bt (Eq.refl true) ?_ | refine br_bf (Eq.refl false) ?_ | refine CallK.m ?_ | refine Two.l ?_ | refine And.intro (And.intro rfl rfl) ?_)
      refine Tri.loop (γ := Nat) (fun i => i ≤ j + 1) (fun i => [(2, V.c .nil), (3, V.c (.sl 1 (n + 1))), (4, V.c (.sl 2 (j + 1))), (5, V.i (j : Nat)), (6, V.i (srtW t j)), (15, V.c (.sl 3 (n + 1))), (16, V.i ((n + 1 : Nat) : Int)), (17, V.i (j : Nat)), (22, V.c (.sl 2 (j + 1))), (23, V.i ((j + 1 : Nat) : Int)), (24, V.i (i : Nat))])
        (fun i => [⟨3, .vec 3 1, (fnL (srtW t) (n + 1)).map C.i⟩, ⟨2, .vec 3 1, (fnL (fallC j) (j + 1)).map C.i⟩, ⟨1, .vec 3 1, (fnL (plG t j i) (n + 1)).map C.i⟩, ⟨0, .ro 0, t.map C.u⟩]) 4 (fun i => j + 1 - i) 0 (R0 := []) ?_ ?_ ?_
      · omega
      · skip
        refine ⟨?_, ?_, rfl, rfl, by first | exact Nat.le_of_ble_eq_true rfl | exact Nat.le_refl _ | omega⟩
        · repeat (first | exact trivial | (refine And.intro (covS_syn (by rfl) rfl (by first | exact trivial | exact Nat.le_of_ble_eq_true rfl | exact hy | (first | ((show ∀ p ∈ (_ : List (Nat × Nat)), p.1 < _); decide) | exact (fun p hp => nomatch hp)) | (show (_ : Nat) < _; omega))) ?_) | refine And.intro (covS_bool rfl rfl (by rfl)) ?_)
        · repeat (first | exact trivial | (refine And.intro (covE_id (Nat.le_of_ble_eq_true rfl) (by first | exact wf_ints _ _ | exact wf_bools _ _ | first | exact wf_us _ _ | (simp [C.wf]; done) | simp [C.wf]) rfl (by first | rfl | exact congrArg _ (fnL_congr fun d _ => (plG_zero t j d).symm))) ?_))
      · intro i hi
        refine vc_ok tok ?_
        have hfl : ((fnL (fallC j) (j + 1)).map C.i).length = j + 1 := by rw [List.length_map, fnL_len]
        have hgl : ((fnL (plG t j i) (n + 1)).map C.i).length = n + 1 := by rw [List.length_map, fnL_len]
        by_cases hil : i < j + 1
        · have hl1 : ((fnL (fallC j) (j + 1)).map C.i)[mulS ((i : Nat) : Int).toNat 1]? = some (C.i (fallC j i)) := by
            rw [intLz rfl (by rw [fnL_len]; omega), fnL_get (by omega)]
          have e1 : plG t j i i = plF t j i := by unfold plG; rw [if_neg (by omega)]; omega
          have hl2 : ((fnL (plG t j i) (n + 1)).map C.i)[mulS ((i : Nat) : Int).toNat 1]? = some (C.i (plF t j i)) := by
            rw [intLz rfl (by rw [fnL_len]; omega), fnL_get (by omega), e1]
          have hb1 := srt_mul t (by omega) (j := j) (d := i) (by omega) (by omega)
          have hb2 := plF_bd t (by omega) (d := i) (by omega) j (by omega)
          have hfin : setL ((fnL (plG t j i) (n + 1)).map C.i) (mulS ((i : Nat) : Int).toNat 1) [C.i (plF t j i + srtW t j * fallC j i)] = (fnL (plG t j (i + 1)) (n + 1)).map C.i := by
            rw [setI rfl, fnL_set]
            refine congrArg _ (fnL_congr fun d _ => ?_)
            by_cases h : d = i
            · subst h; rw [if_pos rfl]; unfold plG; rw [if_pos (by omega)]
            · rw [if_neg h]; unfold plG
              by_cases h2 : d < i
              · rw [if_pos h2, if_pos (by omega)]
              · rw [if_neg h2, if_neg (by omega)]
          obtain ⟨u, hu⟩ : ∃ u, u = plF t j i := ⟨_, rfl⟩
          rw [← hu] at hl2 hb2 hfin
          repeat ((conv => whnf); first | (refine And.intro (by first | omega | exact Nat.le_of_ble_eq_true rfl | (dsimp only [inK]; omega) | (simp only [mulS_eq]; omega) | (simp only [mulS_eq, setL_length]; omega) | (simp only [setL_length]; omega) | (simp only [setL_length, List.length_map]; omega) | (exact ⟨by omega, by omega, by first | exact Nat.le_of_ble_eq_true rfl | (dsimp only; omega) | (simp only [setL_length]; omega) | (simp only [setL_length, List.length_map]; omega)⟩) | (exact ⟨by omega, by first | rfl | omega, by omega, Nat.le_of_ble_eq_true rfl, Nat.le_of_ble_eq_true rfl⟩) | (exact ⟨rfl, rfl, rfl, Nat.le_of_ble_eq_true rfl, by first | rfl | omega | exact Nat.le_of_ble_eq_true rfl | (dsimp only; omega) | (simp; done) | (simp; omega), by first | rfl | omega | exact Nat.le_of_ble_eq_true rfl | (dsimp only; omega) | (simp; done) | (simp; omega), by omega, Nat.le_of_ble_eq_true rfl⟩) | exact Eq.refl true) ?_) | with_reducible refine ld (hl1) ?_ | with_reducible refine ld (hl2) ?_ | refine Exists.intro _ (And.intro rfl ?_) | refine And.intro (And.intro rfl (chk_rowI _ _ _ _)) ?_ | refine br_t (by omega) ?_ | refine br_f (by omega) ?_ | refine bs_t (by omega) ?_ | refine bs_f (by omega) ?_ | refine fun (K' : K3) hK' => ?_ | (refine hK' _ _ _ ?_; clear hK' K') | refine draw_auto tok mixed (by kernel_rfl) ?_ | refine And.intro ⟨by omega, by omega⟩ ?_ | refine bs_bt (Eq.refl true) ?_ | refine bs_bf (Eq.refl false) ?_ | refine br_bt (Eq.refl true) ?_ | refine br_bf (Eq.refl false) ?_ | refine CallK.m ?_ | refine Two.l ?_ | refine And.intro (And.intro rfl rfl) ?_)
          refine ⟨i + 1, [], by omega, by omega, ?_⟩
          refine ⟨?_, ?_, rfl, rfl, by first | exact Nat.le_of_ble_eq_true rfl | exact Nat.le_refl _ | omega⟩
          · repeat (first | exact trivial | (refine And.intro (covS_syn (by first | rfl | (refine congrArg some (congrArg V.i ?_); omega)) rfl (by first | exact trivial | exact Nat.le_of_ble_eq_true rfl | exact hy | (first | ((show ∀ p ∈ (_ : List (Nat × Nat)), p.1 < _); decide) | exact (fun p hp => nomatch hp)) | (show (_ : Nat) < _; omega))) ?_) | refine And.intro (covS_bool rfl rfl (by rfl)) ?_)
          · repeat (first | exact trivial | (refine And.intro (covE_id (Nat.le_of_ble_eq_true rfl) (by first | exact wf_ints _ _ | exact wf_bools _ _ | first | exact wf_us _ _ | (simp [C.wf]; done) | simp [C.wf]) rfl (by first | rfl | exact hfin)) ?_))
        · obtain rfl : i = j + 1 := by omega
          have hpe : fnL (plG t j (j + 1)) (n + 1) = fnL (plF t (j + 1)) (n + 1) := fnL_congr fun d _ => plG_end t j d
          rw [hpe]
          repeat ((conv => whnf); first | (refine And.intro (by first | omega | exact Nat.le_of_ble_eq_true rfl | (dsimp only [inK]; omega) | (simp only [mulS_eq]; omega) | (simp only [mulS_eq, setL_length]; omega) | (simp only [setL_length]; omega) | (simp only [setL_length, List.length_map]; omega) | (exact ⟨by omega, by omega, by first | exact Nat.le_of_ble_eq_true rfl | (dsimp only; omega) | (simp only [setL_length]; omega) | (simp only [setL_length, List.length_map]; omega)⟩) | (exact ⟨by omega, by first | rfl | omega, by omega, Nat.le_of_ble_eq_true rfl, Nat.le_of_ble_eq_true rfl⟩) | (exact ⟨rfl, rfl, rfl, Nat.le_of_ble_eq_true rfl, by first | rfl | omega | exact Nat.le_of_ble_eq_true rfl | (dsimp only; omega) | (simp; done) | (simp; omega), by first | rfl | omega | exact Nat.le_of_ble_eq_true rfl | (dsimp only; omega) | (simp; done) | (simp; omega), by omega, Nat.le_of_ble_eq_true rfl⟩) | exact Eq.refl true) ?_) | refine Exists.intro _ (And.intro rfl ?_) | refine And.intro (And.intro rfl (chk_rowI _ _ _ _)) ?_ | refine br_t (by omega) ?_ | refine br_f (by omega) ?_ | refine bs_t (by omega) ?_ | refine bs_f (by omega) ?_ | refine fun (K' : K3) hK' => ?_ | (refine hK' _ _ _ ?_; clear hK' K') | refine draw_auto tok mixed (by kernel_rfl) ?_ | refine CallK.rowF (R := [(0, some 2)]) (flat_i _) hti (by kernel_rfl) rfl (by simp [V.wf, A.wf, C.wf, V.i]) ⟨roE_f (flat_i _) (l := 2) rfl (by omega) rfl (.inl rfl), trivial⟩ rfl ?_ | refine bs_bt (Eq.refl true) ?_ | refine bs_bf (Eq.refl false) ?_ | refine br_bt (Eq.refl true) ?_ | refine br_bf (Eq.refl false) ?_ | refine CallK.m ?_ | refine Two.l ?_ | refine And.intro (And.intro rfl rfl) ?_)
          refine ⟨j + 1, [(2, some 4)], by omega, by omega, ?_⟩
          refine ⟨?_, ?_, rfl, rfl, by first | exact Nat.le_of_ble_eq_true rfl | exact Nat.le_refl _ | omega⟩
          · repeat (first | exact trivial | (refine And.intro (covS_syn (by first | rfl | (refine congrArg some (congrArg V.i ?_); omega)) rfl (by first | exact trivial | exact Nat.le_of_ble_eq_true rfl | exact hy | (first | ((show ∀ p ∈ (_ : List (Nat × Nat)), p.1 < _); decide) | exact (fun p hp => nomatch hp)) | (show (_ : Nat) < _; omega))) ?_) | refine And.intro (covS_bool rfl rfl (by rfl)) ?_)
          · repeat (first | exact trivial | refine And.intro (covE_i rfl (Nat.le_of_ble_eq_true rfl) rfl rfl) ?_ | refine And.intro (covE_u rfl (Nat.le_of_ble_eq_true rfl) rfl rfl) ?_ | refine And.intro (covE_nil rfl (Nat.le_of_ble_eq_true rfl) rfl rfl) ?_ | (refine And.intro (covE_some rfl (Nat.le_of_ble_eq_true rfl) (by first | exact wf_ints _ _ | exact wf_bools _ _ | first | exact wf_us _ _ | (simp [C.wf]; done) | simp [C.wf]) rfl (by first | exact ren_ints _ _ | exact ren_bools _ _ | exact ren_shares _ _ | rfl)) ?_))
    · obtain rfl : j = n + 1 := by omega
      have hpe : fnL (plF t (n + 1)) (n + 1) = fnL (polyP t) (n + 1) := by unfold polyP; rw [htl]
      rw [hpe]
      repeat ((conv => whnf); first | (refine And.intro (by first | omega | exact Nat.le_of_ble_eq_true rfl | (dsimp only [inK]; omega) | (simp only [mulS_eq]; omega) | (simp only [mulS_eq, setL_length]; omega) | (simp only [setL_length]; omega) | (simp only [setL_length, List.length_map]; omega) | (exact ⟨by omega, by omega, by first | exact Nat.le_of_ble_eq_true rfl | (dsimp only; omega) | (simp only [setL_length]; omega) | (simp only [setL_length, List.length_map]; omega)⟩) | (exact ⟨by omega, by first | rfl | omega, by omega, Nat.le_of_ble_eq_true rfl, Nat.le_of_ble_eq_true rfl⟩) | (exact ⟨rfl, rfl, rfl, Nat.le_of_ble_eq_true rfl, by first | rfl | omega | exact Nat.le_of_ble_eq_true rfl | (dsimp only; omega) | (simp; done) | (simp; omega), by first | rfl | omega | exact Nat.le_of_ble_eq_true rfl | (dsimp only; omega) | (simp; done) | (simp; omega), by omega, Nat.le_of_ble_eq_true rfl⟩) | exact Eq.refl true) ?_) | refine Exists.intro _ (And.intro rfl ?_) | refine And.intro (And.intro rfl (chk_rowI _ _ _ _)) ?_ | refine br_t (by omega) ?_ | refine br_f (by omega) ?_ | refine bs_t (by omega) ?_ | refine bs_f (by omega) ?_ | refine fun (K' : K3) hK' => ?_ | (refine hK' _ _ _ ?_; clear hK' K') | refine draw_auto tok mixed (by kernel_rfl) ?_ | refine bs_bt (Eq.refl true) ?_ | refine bs_bf (Eq.refl false) ?_ | refine br_bt (Eq.refl true) ?_ | refine br_bf (Eq.refl false) ?_ | refine CallK.m ?_ | refine Two.l ?_ | refine And.intro (And.intro rfl rfl) ?_)
      rfl
end Go.Proofs.YtijnimgmpocmaaaDoor

/- Waste: Poly and Count. -/
namespace Go.Proofs.YtijnimgmpocmaaaDoor
open Go.RowKit
set_option linter.unusedVariables false
set_option linter.unusedSimpArgs false
theorem sumN_abs {f : Nat → Int} {g : Nat → Int} (h : ∀ i, -(g i) ≤ f i ∧ f i ≤ g i) : ∀ n, -(sumN g n) ≤ sumN f n ∧ sumN f n ≤ sumN g n
  | 0 => by simp [sumN]
  | n + 1 => by
    have := sumN_abs h n; have := h n
    simp only [sumN]; omega
theorem polyP_coef (t : List Nat) (d : Nat) : -(coefB t.length d) ≤ polyP t d ∧ polyP t d ≤ coefB t.length d := by
  unfold polyP plF coefB
  refine sumN_abs (fun j => ?_) _
  have h1 : 0 ≤ srtW t j := waysB_nonneg _ _ _ _ _
  have h2 : srtW t j ≤ st t.length 0 j := waysB_st t j t.length 0 []
  have h3 : -((fallC j d).natAbs : Int) ≤ fallC j d ∧ fallC j d ≤ ((fallC j d).natAbs : Int) := by omega
  have := mul_nn ⟨h1, h2⟩ h3 (Int.le_trans h1 h2) (by omega)
  exact this
theorem polyP_high (t : List Nat) {d : Nat} (h : t.length < d) : polyP t d = 0 := sumN_zero fun j hj => by rw [fallC_high (by omega)]; simp
theorem polyP_bd (t : List Nat) (h : t.length ≤ 8) (d : Nat) : -600000 ≤ polyP t d ∧ polyP t d ≤ 600000 := by
  by_cases hd : d ≤ t.length
  · have h1 := polyP_coef t d
    have h2 := coefB_le t.length h d (by omega)
    omega
  · rw [polyP_high t (by omega)]; omega
theorem horn_max : ∀ m, m ≤ 9 → horn (fun _ => 600000) 20 0 m ≤ 100000000000000000 := by decide +kernel
theorem horn_shift (B X : Int) : ∀ m k, horn (fun _ => B) X k m = horn (fun _ => B) X 0 m
  | 0, _ => rfl
  | m + 1, k => by simp only [horn]; rw [horn_shift B X m (k + 1), horn_shift B X m (0 + 1)]
theorem hornB_of (t : List Nat) (h : t.length ≤ 8) {x : Int} (hx : -20 ≤ x ∧ x ≤ 20) : HornB (polyP t) x (t.length + 1) := by
  refine ⟨hx, fun m _ => by have := polyP_bd t h m; omega, fun m hm => ?_⟩
  have h1 := horn_abs (B := 600000) (X := 20) (polyP_bd t h) hx (by omega) (t.length + 1 - m) m
  rw [horn_shift] at h1
  have h2 := horn_max (t.length + 1 - m) (by omega)
  omega
/-- The polynomial of valid kinds. -/
def pol (n : Nat) (qs : List (Nat × Nat)) : Nat → Int := polyP (tabS n qs)
def cntO (n : Nat) (qs : List (Nat × Nat)) (x : Int) : Int := horn (pol n qs) x 0 (n + 1)
theorem tabS_256 {n : Nat} {qs : List (Nat × Nat)} (h : Knd n qs) : ∀ s ∈ tabS n qs, s < 256 := fun s hs => Nat.lt_of_lt_of_le (tabS_lt h.ok s hs) (pow_8 h.rng.2)
theorem tabS_cl {n : Nat} {qs : List (Nat × Nat)} (h : Knd n qs) (a b : Nat) : ((tabS n qs).getD a 0).testBit b = symC (clP qs) a b := tabS_bit h.ok a b
theorem pol_pc {n : Nat} {qs : List (Nat × Nat)} (h : Knd n qs) (d : Nat) : pol n qs d = pc (clP qs) n d := by
  have hl := tabS_len n qs
  unfold pol polyP plF pc polyC
  rw [hl, List.length_range]
  refine sumN_congr fun j _ => ?_
  have : srtW (tabS n qs) j = sig (symC (clP qs)) (List.range n) j := by
    have := waysB_sig (cl := symC (clP qs)) (t := tabS n qs) (fun a b _ _ => tabS_cl h a b) j
    rw [hl] at this
    unfold srtW; rw [hl]; exact this
  rw [this]
theorem cnt_pv {n : Nat} {qs : List (Nat × Nat)} (h : Knd n qs) (x : Int) : cntO n qs x = pv (clP qs) n x := by
  unfold cntO
  rw [horn_eq, pv_coef]
  refine sumN_congr fun d _ => ?_
  rw [Nat.zero_add, pol_pc h]
set_option maxRecDepth 10000 in
set_option maxHeartbeats 4000000 in
theorem count_spec (n : Nat) (x : Int) (qs : List (Nat × Nat)) (hk : Knd n qs) : Spec Tryd.prog 25 [V.agg [C.i n, C.sl 0 (castP qs).length], V.i x] [⟨0, .ro 2, cellC (castP qs)⟩] 1
    (Is (if -10 ≤ x ∧ x ≤ 20 then V.tup [A.c (C.i (cntO n qs x)), A.c (C.i 0)] else V.tup [A.c (C.i 0), A.c (C.i 2)])) := by
  have hnt := newTable_spec n qs hk
  have htl := tabS_len n qs
  have hpo := polynomial_spec (tabS n qs) n htl hk.rng.2 (tabS_256 hk)
  have hbt := between_spec (-10) x 20
  refine Spec.of tok Tryd.func25 rfl rfl rfl fun n0 cx => vc_ok tok ?_
  by_cases hx : -10 ≤ x ∧ x ≤ 20
  · have hat := at_spec (polyP (tabS n qs)) x (n + 1) (by have := hk.rng; omega) (by have := hornB_of (tabS n qs) (by rw [htl]; exact hk.rng.2) (x := x) (by omega); rw [htl] at this; exact this)
    rw [if_pos hx]
    repeat ((conv => whnf); first | (refine And.intro (by first | omega | exact Nat.le_of_ble_eq_true rfl | (dsimp only [inK]; omega) | (simp only [mulS_eq]; omega) | (simp only [mulS_eq, setL_length]; omega) | (simp only [setL_length]; omega) | (simp only [setL_length, List.length_map]; omega) | (exact ⟨by omega, by omega, by first | exact Nat.le_of_ble_eq_true rfl | (dsimp only; omega) | (simp only [setL_length]; omega) | (simp only [setL_length, List.length_map]; omega)⟩) | (exact ⟨by omega, by first | rfl | omega, by omega, Nat.le_of_ble_eq_true rfl, Nat.le_of_ble_eq_true rfl⟩) | (exact ⟨rfl, rfl, rfl, Nat.le_of_ble_eq_true rfl, by first | rfl | omega | exact Nat.le_of_ble_eq_true rfl | (dsimp only; omega) | (simp; done) | (simp; omega), by first | rfl | omega | exact Nat.le_of_ble_eq_true rfl | (dsimp only; omega) | (simp; done) | (simp; omega), by omega, Nat.le_of_ble_eq_true rfl⟩) | exact Eq.refl true) ?_) | refine Exists.intro _ (And.intro rfl ?_) | refine And.intro (And.intro rfl (chk_rowI _ _ _ _)) ?_ | refine br_t (by omega) ?_ | refine br_f (by omega) ?_ | refine bs_t (by omega) ?_ | refine bs_f (by omega) ?_ | refine fun (K' : K3) hK' => ?_ | (refine hK' _ _ _ ?_; clear hK' K') | refine draw_auto tok mixed (by kernel_rfl) ?_ | refine CallK.rowE (R := []) (flat_u _) hnt (by kernel_rfl) rfl (by simp [V.wf, A.wf, C.wf]) ⟨roE_f (flat_c _) (l := 0) rfl (by omega) rfl (.inr rfl), trivial⟩ rfl ?_ | refine CallK.val (R := []) hbt (by kernel_rfl) rfl (by simp [V.wf, A.wf, C.wf, V.i]) trivial rfl rfl trivial ?_ | refine br_bf (nd_f hx) ?_ | refine CallK.rowF (R := [(0, some 2)]) (flat_i _) hpo (by kernel_rfl) rfl (by simp [V.wf, A.wf, C.wf]) ⟨roE_f (flat_u _) (l := 2) rfl (by omega) rfl (.inl rfl), trivial⟩ rfl ?_ | refine CallK.val (R := [(0, some 3)]) hat (by kernel_rfl) rfl (by simp [V.wf, A.wf, C.wf, V.i]) ⟨roE_f (flat_i _) (l := 3) rfl (by omega) rfl (.inl rfl), trivial⟩ rfl rfl trivial ?_ | refine bs_bt (Eq.refl true) ?_ | refine bs_bf (Eq.refl false) ?_ | refine br_bt (Eq.refl true) ?_ | refine br_bf (Eq.refl false) ?_ | refine CallK.m ?_ | refine Two.l ?_ | refine And.intro (And.intro rfl rfl) ?_)
    intro ρ; rfl
  · rw [if_neg hx]
    repeat ((conv => whnf); first | (refine And.intro (by first | omega | exact Nat.le_of_ble_eq_true rfl | (dsimp only [inK]; omega) | (simp only [mulS_eq]; omega) | (simp only [mulS_eq, setL_length]; omega) | (simp only [setL_length]; omega) | (simp only [setL_length, List.length_map]; omega) | (exact ⟨by omega, by omega, by first | exact Nat.le_of_ble_eq_true rfl | (dsimp only; omega) | (simp only [setL_length]; omega) | (simp only [setL_length, List.length_map]; omega)⟩) | (exact ⟨by omega, by first | rfl | omega, by omega, Nat.le_of_ble_eq_true rfl, Nat.le_of_ble_eq_true rfl⟩) | (exact ⟨rfl, rfl, rfl, Nat.le_of_ble_eq_true rfl, by first | rfl | omega | exact Nat.le_of_ble_eq_true rfl | (dsimp only; omega) | (simp; done) | (simp; omega), by first | rfl | omega | exact Nat.le_of_ble_eq_true rfl | (dsimp only; omega) | (simp; done) | (simp; omega), by omega, Nat.le_of_ble_eq_true rfl⟩) | exact Eq.refl true) ?_) | refine Exists.intro _ (And.intro rfl ?_) | refine And.intro (And.intro rfl (chk_rowI _ _ _ _)) ?_ | refine br_t (by omega) ?_ | refine br_f (by omega) ?_ | refine bs_t (by omega) ?_ | refine bs_f (by omega) ?_ | refine fun (K' : K3) hK' => ?_ | (refine hK' _ _ _ ?_; clear hK' K') | refine draw_auto tok mixed (by kernel_rfl) ?_ | refine CallK.rowE (R := []) (flat_u _) hnt (by kernel_rfl) rfl (by simp [V.wf, A.wf, C.wf]) ⟨roE_f (flat_c _) (l := 0) rfl (by omega) rfl (.inr rfl), trivial⟩ rfl ?_ | refine CallK.val (R := []) hbt (by kernel_rfl) rfl (by simp [V.wf, A.wf, C.wf, V.i]) trivial rfl rfl trivial ?_ | refine br_bt (nd_t hx) ?_ | refine bs_bt (Eq.refl true) ?_ | refine bs_bf (Eq.refl false) ?_ | refine br_bt (Eq.refl true) ?_ | refine br_bf (Eq.refl false) ?_ | refine CallK.m ?_ | refine Two.l ?_ | refine And.intro (And.intro rfl rfl) ?_)
    intro ρ; rfl
set_option maxRecDepth 10000 in
set_option maxHeartbeats 4000000 in
theorem poly_spec (n : Nat) (qs : List (Nat × Nat)) (hk : Knd n qs) : Spec Tryd.prog 24 [V.agg [C.i n, C.sl 0 (castP qs).length]] [⟨0, .ro 2, cellC (castP qs)⟩] 1
    (fun v L' _ => ∃ l, v = V.tup [A.c (.sl l (n + 1)), A.c (C.i 0)] ∧ find L' l = some ⟨l, .vec 3 1, (fnL (pol n qs) (n + 1)).map C.i⟩) := by
  have hnt := newTable_spec n qs hk
  have htl := tabS_len n qs
  have hpo := polynomial_spec (tabS n qs) n htl hk.rng.2 (tabS_256 hk)
  refine Spec.of tok Tryd.func24 rfl rfl rfl fun n0 cx => vc_ok tok ?_
  repeat ((conv => whnf); first | (refine And.intro (by first | omega | exact Nat.le_of_ble_eq_true rfl | (dsimp only [inK]; omega) | (simp only [mulS_eq]; omega) | (simp only [mulS_eq, setL_length]; omega) | (simp only [setL_length]; omega) | (simp only [setL_length, List.length_map]; omega) | (exact ⟨by omega, by omega, by first | exact Nat.le_of_ble_eq_true rfl | (dsimp only; omega) | (simp only [setL_length]; omega) | (simp only [setL_length, List.length_map]; omega)⟩) | (exact ⟨by omega, by first | rfl | omega, by omega, Nat.le_of_ble_eq_true rfl, Nat.le_of_ble_eq_true rfl⟩) | (exact ⟨rfl, rfl, rfl, Nat.le_of_ble_eq_true rfl, by first | rfl | omega | exact Nat.le_of_ble_eq_true rfl | (dsimp only; omega) | (simp; done) | (simp; omega), by first | rfl | omega | exact Nat.le_of_ble_eq_true rfl | (dsimp only; omega) | (simp; done) | (simp; omega), by omega, Nat.le_of_ble_eq_true rfl⟩) | exact Eq.refl true) ?_) | refine Exists.intro _ (And.intro rfl ?_) | refine And.intro (And.intro rfl (chk_rowI _ _ _ _)) ?_ | refine br_t (by omega) ?_ | refine br_f (by omega) ?_ | refine bs_t (by omega) ?_ | refine bs_f (by omega) ?_ | refine fun (K' : K3) hK' => ?_ | (refine hK' _ _ _ ?_; clear hK' K') | refine draw_auto tok mixed (by kernel_rfl) ?_ | refine CallK.rowE (R := []) (flat_u _) hnt (by kernel_rfl) rfl (by simp [V.wf, A.wf, C.wf]) ⟨roE_f (flat_c _) (l := 0) rfl (by omega) rfl (.inr rfl), trivial⟩ rfl ?_ | refine CallK.rowF (R := [(0, some 2)]) (flat_i _) hpo (by kernel_rfl) rfl (by simp [V.wf, A.wf, C.wf]) ⟨roE_f (flat_u _) (l := 2) rfl (by omega) rfl (.inl rfl), trivial⟩ rfl ?_ | refine bs_bt (Eq.refl true) ?_ | refine bs_bf (Eq.refl false) ?_ | refine br_bt (Eq.refl true) ?_ | refine br_bf (Eq.refl false) ?_ | refine CallK.m ?_ | refine Two.l ?_ | refine And.intro (And.intro rfl rfl) ?_)
  rfl
end Go.Proofs.YtijnimgmpocmaaaDoor

/- Waste: loadings. -/
namespace Go.Proofs.YtijnimgmpocmaaaDoor
open Go.RowKit
set_option linter.unusedVariables false
set_option linter.unusedSimpArgs false
def outF (t : List Nat) (s x : Nat) : Int := if x < s then LD t x else 0
def outG (t : List Nat) (s : Nat) (acc : Int) (x : Nat) : Int := if x < s then LD t x else if x = s then acc else 0
def gS (t : List Nat) (s f : Nat) : Int := sgT t f (LD t (dif s f))
theorem chn_step {s f : Nat} (h0 : f ≠ 0) : chn s f f = f :: chn s ((f - 1) &&& s) ((f - 1) &&& s) := by
  obtain ⟨k, rfl⟩ : ∃ k, f = k + 1 := ⟨f - 1, by omega⟩
  simp only [chn]
  rw [if_neg (by omega), Nat.add_sub_cancel]
  have h1 : k &&& s ≤ k := Nat.and_le_left
  rw [chn_fuel s k _ h1 (k &&& s) (Nat.le_refl _)]
set_option maxRecDepth 10000 in
set_option maxHeartbeats 8000000 in
theorem loadings_spec (t : List Nat) (n : Nat) (htl : t.length = n) (hn : n ≤ 8) (ht : ∀ x ∈ t, x < 256) : Spec Tryd.prog 63 [V.c (.sl 0 n)] [⟨0, .ro 0, t.map C.u⟩] 1 (Is (V.i (LD t (2 ^ n - 1)))) := by
  have hev := every_spec n 0 hn
  have h8 := pow_8 hn
  have hp0 : 0 < 2 ^ n := Nat.two_pow_pos n
  have hap : ∀ f, f < 2 ^ n → Spec Tryd.prog 95 [V.c (.sl 0 n), V.u f] [⟨0, .ro 0, t.map C.u⟩] 1 (Is (V.c (.bool (aptS t f)))) := fun f hf => apart_spec t n f htl hn ht hf
  obtain ⟨M, hM⟩ : ∃ M, 2 ^ n = M + 1 := ⟨2 ^ n - 1, by omega⟩
  rw [hM, Nat.add_sub_cancel] at hev
  rw [hM] at hap h8
  rw [hM, Nat.add_sub_cancel]
  have hz : repC (M + 1) [C.int .i64 0] = (fnL (fun _ => 0) (M + 1)).map C.i := by rw [repI, fnL_zero]
  have h0 : setL (repC (M + 1) [C.int .i64 0]) (mulS (Int.toNat 0) 1) [C.i 1] = (fnL (outF t 1) (M + 1)).map C.i := by
    rw [hz]
    have := setI (l := fnL (fun _ => 0) (M + 1)) (k := 0) (z := 0) (x := 1) rfl
    rw [this, fnL_set]
    refine congrArg _ (fnL_congr fun x _ => ?_)
    unfold outF
    by_cases hx : x = 0
    · subst hx; rw [if_pos rfl, if_pos (by omega), LD_zero]
    · rw [if_neg hx, if_neg (by omega)]
  have hz1 : (repC (M + 1) [C.int .i64 0]).length = M + 1 := by rw [hz, List.length_map, fnL_len]
  refine Spec.of tok Tryd.func63 rfl rfl rfl fun n0 cx => vc_ok tok ?_
  repeat ((conv => whnf); first | (refine And.intro (by first | omega | exact Nat.le_of_ble_eq_true rfl | (dsimp only [inK]; omega) | (simp only [mulS_eq]; omega) | (simp only [mulS_eq, setL_length]; omega) | (simp only [setL_length]; omega) | (simp only [setL_length, List.length_map]; omega) | (exact ⟨by omega, by omega, by first | exact Nat.le_of_ble_eq_true rfl | (dsimp only; omega) | (simp only [setL_length]; omega) | (simp only [setL_length, List.length_map]; omega)⟩) | (exact ⟨by omega, by first | rfl | omega, by omega, Nat.le_of_ble_eq_true rfl, Nat.le_of_ble_eq_true rfl⟩) | (exact ⟨rfl, rfl, rfl, Nat.le_of_ble_eq_true rfl, by first | rfl | omega | exact Nat.le_of_ble_eq_true rfl | (dsimp only; omega) | (simp; done) | (simp; omega), by first | rfl | omega | exact Nat.le_of_ble_eq_true rfl | (dsimp only; omega) | (simp; done) | (simp; omega), by omega, Nat.le_of_ble_eq_true rfl⟩) | exact Eq.refl true) ?_) | refine Exists.intro _ (And.intro rfl ?_) | refine And.intro (And.intro rfl (chk_rowI _ _ _ _)) ?_ | refine br_t (by omega) ?_ | refine br_f (by omega) ?_ | refine bs_t (by omega) ?_ | refine bs_f (by omega) ?_ | refine fun (K' : K3) hK' => ?_ | (refine hK' _ _ _ ?_; clear hK' K') | refine draw_auto tok mixed (by kernel_rfl) ?_ | refine HD_mk (fun _ h => CallK.val (R := []) hev (by kernel_rfl) rfl (by simp [V.wf, A.wf, C.wf]) trivial rfl rfl trivial h) ?_ | refine CallK.val (R := []) hev (by kernel_rfl) rfl (by simp [V.wf, A.wf, C.wf]) trivial rfl rfl trivial ?_ | refine bs_bt (Eq.refl true) ?_ | refine bs_bf (Eq.refl false) ?_ | refine br_bt (Eq.refl true) ?_ | refine br_bf (Eq.refl false) ?_ | refine CallK.m ?_ | refine Two.l ?_ | refine And.intro (And.intro rfl rfl) ?_)
  refine Tri.loop (γ := Nat) (fun s => 1 ≤ s ∧ s ≤ M + 1) (fun s => [(0, V.c (.sl 0 n)), (2, V.i 0), (3, V.c (.sl 1 (M + 1))), (4, V.u s)])
    (fun s => [⟨1, .vec 3 1, (fnL (outF t s) (M + 1)).map C.i⟩, ⟨0, .ro 0, t.map C.u⟩]) 2 (fun s => M + 1 - s) 1 (R0 := []) ?_ ?_ ?_
  · omega
  · skip
    refine ⟨?_, ?_, rfl, rfl, by first | exact Nat.le_of_ble_eq_true rfl | exact Nat.le_refl _ | omega⟩
    · repeat (first | exact trivial | (refine And.intro (covS_syn (by rfl) rfl (by first | exact trivial | exact Nat.le_of_ble_eq_true rfl | exact hy | (first | ((show ∀ p ∈ (_ : List (Nat × Nat)), p.1 < _); decide) | exact (fun p hp => nomatch hp)) | (show (_ : Nat) < _; omega))) ?_) | refine And.intro (covS_bool rfl rfl (by rfl)) ?_)
    · repeat (first | exact trivial | (refine And.intro (covE_id (Nat.le_of_ble_eq_true rfl) (by first | exact wf_ints _ _ | exact wf_bools _ _ | first | exact wf_us _ _ | (simp [C.wf]; done) | simp [C.wf]) rfl (by first | rfl | exact h0)) ?_))
  · rintro s ⟨hs1, hs2⟩
    refine vc_ok tok ?_
    by_cases hlt : (s : Int) ≤ (M : Nat)
    · have hs256 : s < 256 := by omega
      have hLD : LD t s = sumL (chn s s s) (gS t s) := LD_rec t (by omega)
      have hfub := fub_fact s hs256 (by omega)
      have hfp := fubS_pos s hs256
      repeat ((conv => whnf); first | (refine And.intro (by first | omega | exact Nat.le_of_ble_eq_true rfl | (dsimp only [inK]; omega) | (simp only [mulS_eq]; omega) | (simp only [mulS_eq, setL_length]; omega) | (simp only [setL_length]; omega) | (simp only [setL_length, List.length_map]; omega) | (exact ⟨by omega, by omega, by first | exact Nat.le_of_ble_eq_true rfl | (dsimp only; omega) | (simp only [setL_length]; omega) | (simp only [setL_length, List.length_map]; omega)⟩) | (exact ⟨by omega, by first | rfl | omega, by omega, Nat.le_of_ble_eq_true rfl, Nat.le_of_ble_eq_true rfl⟩) | (exact ⟨rfl, rfl, rfl, Nat.le_of_ble_eq_true rfl, by first | rfl | omega | exact Nat.le_of_ble_eq_true rfl | (dsimp only; omega) | (simp; done) | (simp; omega), by first | rfl | omega | exact Nat.le_of_ble_eq_true rfl | (dsimp only; omega) | (simp; done) | (simp; omega), by omega, Nat.le_of_ble_eq_true rfl⟩) | exact Eq.refl true) ?_) | refine Exists.intro _ (And.intro rfl ?_) | refine And.intro (And.intro rfl (chk_rowI _ _ _ _)) ?_ | refine br_t (by omega) ?_ | refine br_f (by omega) ?_ | refine bs_t (by omega) ?_ | refine bs_f (by omega) ?_ | refine fun (K' : K3) hK' => ?_ | (refine hK' _ _ _ ?_; clear hK' K') | refine draw_auto tok mixed (by kernel_rfl) ?_ | refine CallK.val (R := []) hev (by kernel_rfl) rfl (by simp [V.wf, A.wf, C.wf]) trivial rfl rfl trivial ?_ | refine bs_t hlt ?_ | refine br_t hlt ?_ | refine bs_bt (Eq.refl true) ?_ | refine bs_bf (Eq.refl false) ?_ | refine br_bt (Eq.refl true) ?_ | refine br_bf (Eq.refl false) ?_ | refine CallK.m ?_ | refine Two.l ?_ | refine And.intro (And.intro rfl rfl) ?_)
      refine Tri.loop (γ := Nat × Int) (fun g => g.1 &&& s = g.1 ∧ g.2 + sumL (chn s g.1 g.1) (gS t s) = LD t s ∧ -(fubS s) ≤ g.2 - sumL (chn s g.1 g.1) (fun f => fubS (dif s f)) ∧ g.2 + sumL (chn s g.1 g.1) (fun f => fubS (dif s f)) ≤ fubS s)
        (fun g => [(0, V.c (.sl 0 n)), (2, V.i 0), (3, V.c (.sl 1 (M + 1))), (4, V.u s), (5, V.u g.1)])
        (fun g => [⟨1, .vec 3 1, (fnL (outG t s g.2) (M + 1)).map C.i⟩, ⟨0, .ro 0, t.map C.u⟩]) 2 (fun g => g.1) (s, 0) (R0 := []) ?_ ?_ ?_
      · have hfub : sumL (chn s s s) (fun f => fubS (dif s f)) ≤ fubS s := hfub
        refine ⟨Nat.and_self s, by simp only; rw [hLD]; omega, ?_, ?_⟩
        · simp only; omega
        · simp only; omega
      · skip
        refine ⟨?_, ?_, rfl, rfl, by first | exact Nat.le_of_ble_eq_true rfl | exact Nat.le_refl _ | omega⟩
        · repeat (first | exact trivial | (refine And.intro (covS_syn (by rfl) rfl (by first | exact trivial | exact Nat.le_of_ble_eq_true rfl | exact hy | (first | ((show ∀ p ∈ (_ : List (Nat × Nat)), p.1 < _); decide) | exact (fun p hp => nomatch hp)) | (show (_ : Nat) < _; omega))) ?_) | refine And.intro (covS_bool rfl rfl (by rfl)) ?_)
        · repeat (first | exact trivial | (refine And.intro (covE_id (Nat.le_of_ble_eq_true rfl) (by first | exact wf_ints _ _ | exact wf_bools _ _ | first | exact wf_us _ _ | (simp [C.wf]; done) | simp [C.wf]) rfl (by first | rfl | (exact congrArg _ (fnL_congr fun x _ => by simp only [outF, outG]; by_cases h : x < s <;> simp [h])))) ?_))
      · rintro ⟨f, acc⟩ ⟨i1, i2, i3, i4⟩
        simp only at i1 i2 i3 i4 ⊢
        refine vc_ok tok ?_
        have hfs : f ≤ s := by rw [← i1]; exact Nat.and_le_right
        have hrl : ((fnL (outG t s acc) (M + 1)).map C.i).length = M + 1 := by rw [List.length_map, fnL_len]
        by_cases hf0 : (f : Int) > 0
        · have hf0' : f ≠ 0 := by omega
          have hstep := chn_step (s := s) hf0'
          rw [hstep, sumL_cons] at i2 i3 i4
          have hde : bitI .and .u64 ((f : Int) - 1) (s : Int) = (((f - 1) &&& s : Nat) : Int) := by
            rw [show ((f : Int) - 1) = ((f - 1 : Nat) : Int) by omega]; exact bit_and (by omega) (by omega)
          have hbn : ∀ g ∈ chn s ((f - 1) &&& s) ((f - 1) &&& s), 0 ≤ fubS (dif s g) := fun g hg => by
            obtain ⟨q1, q2⟩ := chn_mem s _ _ (by rw [Nat.and_assoc, Nat.and_self]) g hg
            have := dif_lt q1 q2
            have := fubS_pos (dif s g) (by omega)
            omega
          have hsn : 0 ≤ sumL (chn s ((f - 1) &&& s) ((f - 1) &&& s)) (fun f => fubS (dif s f)) := by
            have : ∀ l : List Nat, (∀ g ∈ l, 0 ≤ fubS (dif s g)) → 0 ≤ sumL l (fun f => fubS (dif s f)) := by
              intro l
              induction l with
              | nil => intro _; simp [sumL]
              | cons a r ih => intro h; rw [sumL_cons]; have := h a (by simp); have := ih fun g hg => h g (by simp [hg]); omega
            exact this _ hbn
          have hnxt : (f - 1) &&& s ≤ f - 1 := Nat.and_le_left
          have hand := bit_andNot (x := s) (y := f) (by omega) (by omega)
          have hdl := dif_lt hf0' i1
          have hdb := LD_bd t _ (dif s f) (Nat.lt_succ_self _) (by omega)
          have hdp := fubS_pos (dif s f) (by omega)
          have hap1 := hap f (by omega)
          have hsz := size_spec f (by omega)
          have hgf : gS t s f = sgT t f (LD t (dif s f)) := rfl
          have hla : ((fnL (outG t s acc) (M + 1)).map C.i)[mulS ((s : Nat) : Int).toNat 1]? = some (C.i acc) := by
            rw [intLz rfl (by rw [fnL_len]; omega), fnL_get (by omega)]; unfold outG; rw [if_neg (by omega), if_pos rfl]
          have hld : ((fnL (outG t s acc) (M + 1)).map C.i)[mulS (bitI .andNot .u64 (s : Int) (f : Int)).toNat 1]? = some (C.i (LD t (dif s f))) := by
            rw [intLz hand (by rw [fnL_len]; omega), fnL_get (by omega)]; unfold outG; rw [if_pos hdl]
          have hset : ∀ z : Int, setL ((fnL (outG t s acc) (M + 1)).map C.i) (mulS ((s : Nat) : Int).toNat 1) [C.i z] = (fnL (outG t s z) (M + 1)).map C.i := fun z => by
            rw [setI rfl, fnL_set]
            refine congrArg _ (fnL_congr fun x _ => ?_)
            unfold outG
            by_cases h : x = s
            · subst h; rw [if_pos rfl, if_neg (by omega), if_pos rfl]
            · rw [if_neg h, if_neg h, if_neg h]
          have hands : (f - 1) &&& s &&& s = (f - 1) &&& s := by rw [Nat.and_assoc, Nat.and_self]
          obtain ⟨d, hd⟩ : ∃ d, d = dif s f := ⟨_, rfl⟩
          obtain ⟨x, hx⟩ : ∃ x, x = LD t (dif s f) := ⟨_, rfl⟩
          rw [← hx] at hld hdb hgf
          rw [← hd] at hand hdl hdb hdp i3 i4
          obtain ⟨f', hf'⟩ : ∃ f', f' = (f - 1) &&& s := ⟨_, rfl⟩
          rw [← hf'] at i2 i3 i4 hde hsn hnxt hands
          cases ha : aptS t f with
          | false =>
            rw [ha] at hap1
            have hg0 : gS t s f = 0 := by rw [hgf]; unfold sgT; rw [ha]; rfl
            rw [hg0] at i2
            repeat ((conv => whnf); first | (refine And.intro (by first | omega | exact Nat.le_of_ble_eq_true rfl | (dsimp only [inK]; omega) | (simp only [mulS_eq]; omega) | (simp only [mulS_eq, setL_length]; omega) | (simp only [setL_length]; omega) | (simp only [setL_length, List.length_map]; omega) | (exact ⟨by omega, by omega, by first | exact Nat.le_of_ble_eq_true rfl | (dsimp only; omega) | (simp only [setL_length]; omega) | (simp only [setL_length, List.length_map]; omega)⟩) | (exact ⟨by omega, by first | rfl | omega, by omega, Nat.le_of_ble_eq_true rfl, Nat.le_of_ble_eq_true rfl⟩) | (exact ⟨rfl, rfl, rfl, Nat.le_of_ble_eq_true rfl, by first | rfl | omega | exact Nat.le_of_ble_eq_true rfl | (dsimp only; omega) | (simp; done) | (simp; omega), by first | rfl | omega | exact Nat.le_of_ble_eq_true rfl | (dsimp only; omega) | (simp; done) | (simp; omega), by omega, Nat.le_of_ble_eq_true rfl⟩) | exact Eq.refl true) ?_) | refine Exists.intro _ (And.intro rfl ?_) | refine And.intro (And.intro rfl (chk_rowI _ _ _ _)) ?_ | refine br_t (by omega) ?_ | refine br_f (by omega) ?_ | refine bs_t (by omega) ?_ | refine bs_f (by omega) ?_ | refine fun (K' : K3) hK' => ?_ | (refine hK' _ _ _ ?_; clear hK' K') | refine draw_auto tok mixed (by kernel_rfl) ?_ | refine bs_t hf0 ?_ | refine br_t hf0 ?_ | refine CallK.val (R := []) hap1 (by kernel_rfl) rfl (by simp [V.wf, A.wf, C.wf]) ⟨roE_f (flat_u _) (l := 0) rfl (by omega) rfl (.inl rfl), trivial⟩ rfl rfl trivial ?_ | refine bs_bt (Eq.refl true) ?_ | refine bs_bf (Eq.refl false) ?_ | refine br_bt (Eq.refl true) ?_ | refine br_bf (Eq.refl false) ?_ | refine CallK.m ?_ | refine Two.l ?_ | refine And.intro (And.intro rfl rfl) ?_)
            refine ⟨(f', acc), [], ⟨hands, by simp only; omega, by simp only; omega, by simp only; omega⟩, by simp only; omega, ?_⟩
            refine ⟨?_, ?_, rfl, rfl, by first | exact Nat.le_of_ble_eq_true rfl | exact Nat.le_refl _ | omega⟩
            · repeat (first | exact trivial | (refine And.intro (covS_syn (by first | rfl | exact congrArg (fun z => some (V.c (C.int .u64 z))) hde) rfl (by first | exact trivial | exact Nat.le_of_ble_eq_true rfl | exact hy | (first | ((show ∀ p ∈ (_ : List (Nat × Nat)), p.1 < _); decide) | exact (fun p hp => nomatch hp)) | (show (_ : Nat) < _; omega))) ?_) | refine And.intro (covS_bool rfl rfl (by rfl)) ?_)
            · repeat (first | exact trivial | (refine And.intro (covE_id (Nat.le_of_ble_eq_true rfl) (by first | exact wf_ints _ _ | exact wf_bools _ _ | first | exact wf_us _ _ | (simp [C.wf]; done) | simp [C.wf]) rfl (by rfl)) ?_))
          | true =>
            rw [ha] at hap1
            by_cases ho : (((bitsL f).length : Nat) : Int) % 2 = 1
            · have hg0 : gS t s f = x := by rw [hgf]; unfold sgT; rw [ha, if_pos rfl, if_pos (by omega)]
              rw [hg0] at i2
              repeat ((conv => whnf); first | (refine And.intro (by first | omega | exact Nat.le_of_ble_eq_true rfl | (dsimp only [inK]; omega) | (simp only [mulS_eq]; omega) | (simp only [mulS_eq, setL_length]; omega) | (simp only [setL_length]; omega) | (simp only [setL_length, List.length_map]; omega) | (exact ⟨by omega, by omega, by first | exact Nat.le_of_ble_eq_true rfl | (dsimp only; omega) | (simp only [setL_length]; omega) | (simp only [setL_length, List.length_map]; omega)⟩) | (exact ⟨by omega, by first | rfl | omega, by omega, Nat.le_of_ble_eq_true rfl, Nat.le_of_ble_eq_true rfl⟩) | (exact ⟨rfl, rfl, rfl, Nat.le_of_ble_eq_true rfl, by first | rfl | omega | exact Nat.le_of_ble_eq_true rfl | (dsimp only; omega) | (simp; done) | (simp; omega), by first | rfl | omega | exact Nat.le_of_ble_eq_true rfl | (dsimp only; omega) | (simp; done) | (simp; omega), by omega, Nat.le_of_ble_eq_true rfl⟩) | exact Eq.refl true) ?_) | with_reducible refine ld (hla) ?_ | with_reducible refine ld (hld) ?_ | refine Exists.intro _ (And.intro rfl ?_) | refine And.intro (And.intro rfl (chk_rowI _ _ _ _)) ?_ | refine br_t (by omega) ?_ | refine br_f (by omega) ?_ | refine bs_t (by omega) ?_ | refine bs_f (by omega) ?_ | refine fun (K' : K3) hK' => ?_ | (refine hK' _ _ _ ?_; clear hK' K') | refine draw_auto tok mixed (by kernel_rfl) ?_ | refine bs_t hf0 ?_ | refine br_t hf0 ?_ | refine CallK.val (R := []) hap1 (by kernel_rfl) rfl (by simp [V.wf, A.wf, C.wf]) ⟨roE_f (flat_u _) (l := 0) rfl (by omega) rfl (.inl rfl), trivial⟩ rfl rfl trivial ?_ | refine CallK.val (R := []) hsz (by kernel_rfl) rfl (by simp [V.wf, A.wf, C.wf]) trivial rfl rfl trivial ?_ | refine bs_t ho ?_ | refine br_t ho ?_ | (refine And.intro (by rw [hand]; refine ⟨by omega, by omega, ?_⟩; (try dsimp only); simp only [mulS_eq, List.length_map, fnL_len]; omega) ?_) | refine bs_bt (Eq.refl true) ?_ | refine bs_bf (Eq.refl false) ?_ | refine br_bt (Eq.refl true) ?_ | refine br_bf (Eq.refl false) ?_ | refine CallK.m ?_ | refine Two.l ?_ | refine And.intro (And.intro rfl rfl) ?_)
              refine ⟨(f', acc + x), [], ⟨hands, by simp only; omega, by simp only; omega, by simp only; omega⟩, by simp only; omega, ?_⟩
              refine ⟨?_, ?_, rfl, rfl, by first | exact Nat.le_of_ble_eq_true rfl | exact Nat.le_refl _ | omega⟩
              · repeat (first | exact trivial | (refine And.intro (covS_syn (by first | rfl | exact congrArg (fun z => some (V.c (C.int .u64 z))) hde) rfl (by first | exact trivial | exact Nat.le_of_ble_eq_true rfl | exact hy | (first | ((show ∀ p ∈ (_ : List (Nat × Nat)), p.1 < _); decide) | exact (fun p hp => nomatch hp)) | (show (_ : Nat) < _; omega))) ?_) | refine And.intro (covS_bool rfl rfl (by rfl)) ?_)
              · repeat (first | exact trivial | (refine And.intro (covE_id (Nat.le_of_ble_eq_true rfl) (by first | exact wf_ints _ _ | exact wf_bools _ _ | first | exact wf_us _ _ | (simp [C.wf]; done) | simp [C.wf]) rfl (by first | rfl | exact hset _)) ?_))
            · have hg0 : gS t s f = -x := by rw [hgf]; unfold sgT; rw [ha, if_pos rfl, if_neg (by omega)]
              rw [hg0] at i2
              repeat ((conv => whnf); first | (refine And.intro (by first | omega | exact Nat.le_of_ble_eq_true rfl | (dsimp only [inK]; omega) | (simp only [mulS_eq]; omega) | (simp only [mulS_eq, setL_length]; omega) | (simp only [setL_length]; omega) | (simp only [setL_length, List.length_map]; omega) | (exact ⟨by omega, by omega, by first | exact Nat.le_of_ble_eq_true rfl | (dsimp only; omega) | (simp only [setL_length]; omega) | (simp only [setL_length, List.length_map]; omega)⟩) | (exact ⟨by omega, by first | rfl | omega, by omega, Nat.le_of_ble_eq_true rfl, Nat.le_of_ble_eq_true rfl⟩) | (exact ⟨rfl, rfl, rfl, Nat.le_of_ble_eq_true rfl, by first | rfl | omega | exact Nat.le_of_ble_eq_true rfl | (dsimp only; omega) | (simp; done) | (simp; omega), by first | rfl | omega | exact Nat.le_of_ble_eq_true rfl | (dsimp only; omega) | (simp; done) | (simp; omega), by omega, Nat.le_of_ble_eq_true rfl⟩) | exact Eq.refl true) ?_) | with_reducible refine ld (hla) ?_ | with_reducible refine ld (hld) ?_ | refine Exists.intro _ (And.intro rfl ?_) | refine And.intro (And.intro rfl (chk_rowI _ _ _ _)) ?_ | refine br_t (by omega) ?_ | refine br_f (by omega) ?_ | refine bs_t (by omega) ?_ | refine bs_f (by omega) ?_ | refine fun (K' : K3) hK' => ?_ | (refine hK' _ _ _ ?_; clear hK' K') | refine draw_auto tok mixed (by kernel_rfl) ?_ | refine bs_t hf0 ?_ | refine br_t hf0 ?_ | refine CallK.val (R := []) hap1 (by kernel_rfl) rfl (by simp [V.wf, A.wf, C.wf]) ⟨roE_f (flat_u _) (l := 0) rfl (by omega) rfl (.inl rfl), trivial⟩ rfl rfl trivial ?_ | refine CallK.val (R := []) hsz (by kernel_rfl) rfl (by simp [V.wf, A.wf, C.wf]) trivial rfl rfl trivial ?_ | refine bs_f ho ?_ | refine br_f ho ?_ | (refine And.intro (by rw [hand]; refine ⟨by omega, by omega, ?_⟩; (try dsimp only); simp only [mulS_eq, List.length_map, fnL_len]; omega) ?_) | refine bs_bt (Eq.refl true) ?_ | refine bs_bf (Eq.refl false) ?_ | refine br_bt (Eq.refl true) ?_ | refine br_bf (Eq.refl false) ?_ | refine CallK.m ?_ | refine Two.l ?_ | refine And.intro (And.intro rfl rfl) ?_)
              refine ⟨(f', acc - x), [], ⟨hands, by simp only; omega, by simp only; omega, by simp only; omega⟩, by simp only; omega, ?_⟩
              refine ⟨?_, ?_, rfl, rfl, by first | exact Nat.le_of_ble_eq_true rfl | exact Nat.le_refl _ | omega⟩
              · repeat (first | exact trivial | (refine And.intro (covS_syn (by first | rfl | exact congrArg (fun z => some (V.c (C.int .u64 z))) hde) rfl (by first | exact trivial | exact Nat.le_of_ble_eq_true rfl | exact hy | (first | ((show ∀ p ∈ (_ : List (Nat × Nat)), p.1 < _); decide) | exact (fun p hp => nomatch hp)) | (show (_ : Nat) < _; omega))) ?_) | refine And.intro (covS_bool rfl rfl (by rfl)) ?_)
              · repeat (first | exact trivial | (refine And.intro (covE_id (Nat.le_of_ble_eq_true rfl) (by first | exact wf_ints _ _ | exact wf_bools _ _ | first | exact wf_us _ _ | (simp [C.wf]; done) | simp [C.wf]) rfl (by first | rfl | exact hset _)) ?_))
        · obtain rfl : f = 0 := by omega
          have i2 : acc + 0 = LD t s := i2
          have hfe : fnL (outG t s acc) (M + 1) = fnL (outF t (s + 1)) (M + 1) := fnL_congr fun x _ => by
            unfold outG outF
            by_cases h : x < s
            · rw [if_pos h, if_pos (by omega)]
            · rw [if_neg h]
              by_cases h2 : x = s
              · subst h2; rw [if_pos rfl, if_pos (by omega)]; omega
              · rw [if_neg h2, if_neg (by omega)]
          rw [hfe]
          repeat ((conv => whnf); first | (refine And.intro (by first | omega | exact Nat.le_of_ble_eq_true rfl | (dsimp only [inK]; omega) | (simp only [mulS_eq]; omega) | (simp only [mulS_eq, setL_length]; omega) | (simp only [setL_length]; omega) | (simp only [setL_length, List.length_map]; omega) | (exact ⟨by omega, by omega, by first | exact Nat.le_of_ble_eq_true rfl | (dsimp only; omega) | (simp only [setL_length]; omega) | (simp only [setL_length, List.length_map]; omega)⟩) | (exact ⟨by omega, by first | rfl | omega, by omega, Nat.le_of_ble_eq_true rfl, Nat.le_of_ble_eq_true rfl⟩) | (exact ⟨rfl, rfl, rfl, Nat.le_of_ble_eq_true rfl, by first | rfl | omega | exact Nat.le_of_ble_eq_true rfl | (dsimp only; omega) | (simp; done) | (simp; omega), by first | rfl | omega | exact Nat.le_of_ble_eq_true rfl | (dsimp only; omega) | (simp; done) | (simp; omega), by omega, Nat.le_of_ble_eq_true rfl⟩) | exact Eq.refl true) ?_) | refine Exists.intro _ (And.intro rfl ?_) | refine And.intro (And.intro rfl (chk_rowI _ _ _ _)) ?_ | refine br_t (by omega) ?_ | refine br_f (by omega) ?_ | refine bs_t (by omega) ?_ | refine bs_f (by omega) ?_ | refine fun (K' : K3) hK' => ?_ | (refine hK' _ _ _ ?_; clear hK' K') | refine draw_auto tok mixed (by kernel_rfl) ?_ | refine bs_f hf0 ?_ | refine br_f hf0 ?_ | refine bs_bt (Eq.refl true) ?_ | refine bs_bf (Eq.refl false) ?_ | refine br_bt (Eq.refl true) ?_ | refine br_bf (Eq.refl false) ?_ | refine CallK.m ?_ | refine Two.l ?_ | refine And.intro (And.intro rfl rfl) ?_)
          refine ⟨s + 1, [], by omega, by omega, ?_⟩
          refine ⟨?_, ?_, rfl, rfl, by first | exact Nat.le_of_ble_eq_true rfl | exact Nat.le_refl _ | omega⟩
          · repeat (first | exact trivial | (refine And.intro (covS_syn (by rfl) rfl (by first | exact trivial | exact Nat.le_of_ble_eq_true rfl | exact hy | (first | ((show ∀ p ∈ (_ : List (Nat × Nat)), p.1 < _); decide) | exact (fun p hp => nomatch hp)) | (show (_ : Nat) < _; omega))) ?_) | refine And.intro (covS_bool rfl rfl (by rfl)) ?_)
          · repeat (first | exact trivial | (refine And.intro (covE_id (Nat.le_of_ble_eq_true rfl) (by first | exact wf_ints _ _ | exact wf_bools _ _ | first | exact wf_us _ _ | (simp [C.wf]; done) | simp [C.wf]) rfl (by rfl)) ?_))
    · obtain rfl : s = M + 1 := by omega
      have hrl : ((fnL (outF t (M + 1)) (M + 1)).map C.i).length = M + 1 := by rw [List.length_map, fnL_len]
      have hlm : ((fnL (outF t (M + 1)) (M + 1)).map C.i)[mulS ((M : Nat) : Int).toNat 1]? = some (C.i (LD t M)) := by
        rw [intLz rfl (by rw [fnL_len]; omega), fnL_get (by omega)]; unfold outF; rw [if_pos (by omega)]
      repeat ((conv => whnf); first | (refine And.intro (by first | omega | exact Nat.le_of_ble_eq_true rfl | (dsimp only [inK]; omega) | (simp only [mulS_eq]; omega) | (simp only [mulS_eq, setL_length]; omega) | (simp only [setL_length]; omega) | (simp only [setL_length, List.length_map]; omega) | (exact ⟨by omega, by omega, by first | exact Nat.le_of_ble_eq_true rfl | (dsimp only; omega) | (simp only [setL_length]; omega) | (simp only [setL_length, List.length_map]; omega)⟩) | (exact ⟨by omega, by first | rfl | omega, by omega, Nat.le_of_ble_eq_true rfl, Nat.le_of_ble_eq_true rfl⟩) | (exact ⟨rfl, rfl, rfl, Nat.le_of_ble_eq_true rfl, by first | rfl | omega | exact Nat.le_of_ble_eq_true rfl | (dsimp only; omega) | (simp; done) | (simp; omega), by first | rfl | omega | exact Nat.le_of_ble_eq_true rfl | (dsimp only; omega) | (simp; done) | (simp; omega), by omega, Nat.le_of_ble_eq_true rfl⟩) | exact Eq.refl true) ?_) | with_reducible refine ld (hlm) ?_ | refine Exists.intro _ (And.intro rfl ?_) | refine And.intro (And.intro rfl (chk_rowI _ _ _ _)) ?_ | refine br_t (by omega) ?_ | refine br_f (by omega) ?_ | refine bs_t (by omega) ?_ | refine bs_f (by omega) ?_ | refine fun (K' : K3) hK' => ?_ | (refine hK' _ _ _ ?_; clear hK' K') | refine draw_auto tok mixed (by kernel_rfl) ?_ | refine CallK.val (R := []) hev (by kernel_rfl) rfl (by simp [V.wf, A.wf, C.wf]) trivial rfl rfl trivial ?_ | refine bs_f hlt ?_ | refine br_f hlt ?_ | refine bs_bt (Eq.refl true) ?_ | refine bs_bf (Eq.refl false) ?_ | refine br_bt (Eq.refl true) ?_ | refine br_bf (Eq.refl false) ?_ | refine CallK.m ?_ | refine Two.l ?_ | refine And.intro (And.intro rfl rfl) ?_)
      intro ρ; rfl
end Go.Proofs.YtijnimgmpocmaaaDoor

/- Waste, plain: the program's orders of loading are the polynomial's value at -1, but for the sign. -/
namespace Go.Proofs.YtijnimgmpocmaaaDoor
open Go.RowKit
set_option linter.unusedVariables false
set_option linter.unusedSimpArgs false
def spl : List Nat → List (List Nat × List Nat)
  | [] => [([], [])]
  | a :: r => (spl r).map (fun p => (p.1, a :: p.2)) ++ (spl r).map (fun p => (a :: p.1, p.2))
def okH (cl : Nat → Nat → Bool) : List Nat → List Nat → Bool
  | [], _ => true
  | a :: q, h => apt cl a h && okH cl q (a :: h)
theorem sumL_zero {α : Type} (l : List α) : sumL l (fun _ => (0 : Int)) = 0 := by
  induction l with
  | nil => rfl
  | cons a r ih => rw [sumL_cons, ih]; rfl
theorem subs_spl (cl : Nat → Nat → Bool) : ∀ (l h : List Nat) (Φ : List Nat → List Nat → Int), sumL (subs cl l h) (fun p => Φ p.1 p.2) = sumL (spl l) (fun p => if okH cl p.1 h = true then Φ p.1 p.2 else 0)
  | [], h, Φ => by simp [subs, spl, sumL, okH]
  | a :: r, h, Φ => by
    simp only [subs, spl]
    rw [sumL_app, sumL_app, sumL_map, sumL_map, sumL_map]
    congr 1
    · exact subs_spl cl r h fun p q => Φ p (a :: q)
    · by_cases hap : apt cl a h = true
      · rw [if_pos hap, sumL_map]
        have := subs_spl cl r (a :: h) fun p q => Φ (a :: p) q
        rw [this]
        refine sumL_congr fun p _ => ?_
        simp only [okH, hap, Bool.true_and]
      · rw [if_neg hap]
        have : ∀ p : List Nat × List Nat, (if okH cl (a :: p.1) h = true then Φ (a :: p.1) p.2 else 0) = (0 : Int) := fun p => if_neg (by simp [okH, hap])
        simp only [this]
        rw [sumL_zero]; rfl
theorem okH_iff {cl : Nat → Nat → Bool} (hs : Sym cl) (hi : ∀ a, cl a a = false) : ∀ (q h : List Nat), okH cl q h = true ↔ (∀ a ∈ q, ∀ b ∈ h, cl a b = false) ∧ ∀ a ∈ q, ∀ b ∈ q, cl a b = false
  | [], h => by simp [okH]
  | a :: q, h => by
    simp only [okH, Bool.and_eq_true, okH_iff hs hi q (a :: h), apt, List.all_eq_true, Bool.not_eq_true']
    constructor
    · rintro ⟨h1, h2, h3⟩
      refine ⟨fun x hx b hb => ?_, fun x hx b hb => ?_⟩
      · rcases List.mem_cons.1 hx with rfl | hx
        · exact h1 b hb
        · exact h2 x hx b (by simp [hb])
      · rcases List.mem_cons.1 hx with hx' | hx' <;> rcases List.mem_cons.1 hb with hb' | hb'
        · rw [hx', hb']; exact hi _
        · rw [hs, hx']; exact h2 b hb' _ (by simp)
        · rw [hb']; exact h2 x hx' _ (by simp)
        · exact h3 x hx' b hb'
    · rintro ⟨h1, h2⟩
      refine ⟨fun b hb => h1 a (by simp) b hb, fun x hx b hb => ?_, fun x hx b hb => h2 x (by simp [hx]) b (by simp [hb])⟩
      rcases List.mem_cons.1 hb with rfl | hb
      · exact h2 x (by simp [hx]) _ (by simp)
      · exact h1 x (by simp [hx]) b hb
def subM : List Nat → List Nat
  | [] => [0]
  | a :: r => subM r ++ (subM r).map fun f => f ||| 2 ^ a
theorem subM_spl (Ψ : Nat → Int) : ∀ (l : List Nat), sumL (spl l) (fun p => Ψ (bitsOf p.1)) = sumL (subM l) Ψ
  | [] => by simp [spl, subM, sumL, bitsOf]
  | a :: r => by
    simp only [spl, subM]
    rw [sumL_app, sumL_app, sumL_map, sumL_map, sumL_map]
    congr 1
    · exact subM_spl Ψ r
    · exact subM_spl (fun f => Ψ (f ||| 2 ^ a)) r
theorem sumL_perm {α : Type} {l m : List α} (h : l.Perm m) (f : α → Int) : sumL l f = sumL m f := by
  induction h with
  | nil => rfl
  | cons a _ ih => rw [sumL_cons, sumL_cons, ih]
  | swap a b l => simp only [sumL_cons]; omega
  | trans _ _ h1 h2 => exact h1.trans h2
theorem chn_perm : ∀ s, s < 256 → (chS s ++ [0]).isPerm (subM (bitsL s)) = true := by decide +kernel
theorem spl_mem : ∀ {l : List Nat} {p : List Nat × List Nat}, l.Nodup → p ∈ spl l → (∀ b ∈ p.1, b ∈ l) ∧ p.1.Nodup ∧ p.2 = l.filter fun b => !p.1.contains b
  | [], p, _, hp => by
    simp only [spl, List.mem_singleton] at hp
    subst hp; simp
  | a :: r, p, hd, hp => by
    obtain ⟨h1, h2⟩ := List.nodup_cons.1 hd
    simp only [spl, List.mem_append, List.mem_map] at hp
    rcases hp with ⟨q, hq, rfl⟩ | ⟨q, hq, rfl⟩
    · obtain ⟨g1, g2, g3⟩ := spl_mem h2 hq
      refine ⟨fun b hb => by simp [g1 b hb], g2, ?_⟩
      have : q.1.contains a = false := by
        cases h : q.1.contains a with
        | false => rfl
        | true => exact absurd (g1 a (by simpa using h)) h1
      simp only [List.filter_cons, this, Bool.not_false, if_true]
      rw [g3]
    · obtain ⟨g1, g2, g3⟩ := spl_mem h2 hq
      refine ⟨fun b hb => ?_, List.nodup_cons.2 ⟨fun h => h1 (g1 a h), g2⟩, ?_⟩
      · rcases List.mem_cons.1 hb with rfl | hb
        · simp
        · simp [g1 b hb]
      · have : (a :: q.1).contains a = true := by simp
        simp only [List.filter_cons, this, Bool.not_true]
        rw [g3]
        simp only [Bool.false_eq_true, if_false]
        refine List.filter_congr fun b hb => ?_
        have hba : b ≠ a := fun e => h1 (e ▸ hb)
        simp [hba]
theorem bitsL_nodup (s : Nat) : (bitsL s).Nodup := List.nodup_range.filter _
theorem bitsOf_len {q : List Nat} (hd : q.Nodup) (h8 : ∀ b ∈ q, b < 8) : (bitsL (bitsOf q)).length = q.length := by
  have h1 : ∀ b, b ∈ bitsL (bitsOf q) ↔ b ∈ q := fun b => by
    rw [mem_bitsL, bitsOf_bit]
    constructor
    · rintro ⟨_, h⟩; simpa using h
    · intro h; exact ⟨h8 b h, by simpa using h⟩
  have a := nodup_len (bitsL_nodup (bitsOf q)) fun b hb => (h1 b).1 hb
  have b := nodup_len hd fun b hb => (h1 b).2 hb
  omega
theorem bitsOf_nil {q : List Nat} : bitsOf q = 0 ↔ q = [] := by
  constructor
  · intro h
    cases q with
    | nil => rfl
    | cons a r =>
      have := bitsOf_bit (a :: r) a
      rw [h] at this; simp at this
  · rintro rfl; rfl
theorem LD_ldg {cl : Nat → Nat → Bool} (hs : Sym cl) (hi : ∀ a, cl a a = false) {t : List Nat} (ht : ∀ a b, (t.getD a 0).testBit b = cl a b) : ∀ (m s : Nat), s < m → s < 256 → LD t s = ldg cl (bitsL s)
  | 0, s, h, _ => by omega
  | m + 1, s, hm, h256 => by
    by_cases h0 : s = 0
    · subst h0; rw [LD_zero]; exact (ldg_nil cl).symm
    · obtain ⟨a, l, hal⟩ : ∃ a l, bitsL s = a :: l := by
        cases hb : bitsL s with
        | cons a l => exact ⟨a, l, rfl⟩
        | nil =>
          exfalso; apply h0
          apply Nat.eq_of_testBit_eq; intro b
          rw [Nat.zero_testBit]
          cases hc : s.testBit b with
          | false => rfl
          | true =>
            have : b ∈ bitsL s := mem_bitsL.2 ⟨bit_lt (n := 8) h256 hc, hc⟩
            rw [hb] at this; cases this
      have e1 : LD t s = sumL (chS s ++ [0]) fun f => if f = 0 then 0 else sgT t f (LD t (dif s f)) := by
        rw [LD_rec t h0, sumL_app]
        have : sumL [0] (fun f => if f = 0 then 0 else sgT t f (LD t (dif s f))) = 0 := by simp [sumL]
        rw [this, Int.add_zero]
        refine sumL_congr fun f hf => ?_
        rw [if_neg (chS_mem hf).1]
      rw [e1, sumL_perm (List.isPerm_iff.1 (chn_perm s h256)), ← subM_spl, hal, ldg_rec, subs_spl cl (a :: l) [] fun p q => if p = [] then 0 else -sgn p.length * ldg cl q, ← hal]
      refine sumL_congr fun p hp => ?_
      obtain ⟨g1, g2, g3⟩ := spl_mem (bitsL_nodup s) hp
      have g8 : ∀ b ∈ p.1, b < 8 := fun b hb => (mem_bitsL.1 (g1 b hb)).1
      by_cases hn : p.1 = []
      · rw [if_pos (bitsOf_nil.2 hn), if_pos hn]; simp
      · rw [if_neg fun h => hn (bitsOf_nil.1 h), if_neg hn]
        have hff : bitsOf p.1 &&& s = bitsOf p.1 := by
          apply Nat.eq_of_testBit_eq; intro b
          rw [Nat.testBit_and, bitsOf_bit]
          cases hc : p.1.contains b with
          | false => rfl
          | true =>
            have := (mem_bitsL.1 (g1 b (by simpa using hc))).2
            rw [this]; rfl
        have hdl := dif_lt (s := s) (fun h => hn (bitsOf_nil.1 h)) hff
        have hb2 : bitsL (dif s (bitsOf p.1)) = p.2 := by
          rw [g3]
          unfold bitsL
          rw [List.filter_filter]
          refine List.filter_congr fun b _ => ?_
          rw [dif_bit, bitsOf_bit, Bool.and_comm]
        have hap : aptS t (bitsOf p.1) = okH cl p.1 [] := by
          rw [Bool.eq_iff_iff, okH_iff hs hi]
          simp only [aptS, List.all_eq_true, decide_eq_true_iff, and_zero, List.not_mem_nil, false_implies, implies_true, true_and]
          have hm : ∀ b, b ∈ bitsL (bitsOf p.1) ↔ b ∈ p.1 := fun b => by
            rw [mem_bitsL, bitsOf_bit]
            constructor
            · rintro ⟨_, h⟩; simpa using h
            · intro h; exact ⟨g8 b h, by simpa using h⟩
          constructor
          · intro h x hx b hb
            have h1 := h x ((hm x).2 hx) b
            rw [ht, bitsOf_bit] at h1
            cases hc : cl x b with
            | false => rfl
            | true => have := h1 hc; simp [hb] at this
          · intro h x hx b hb
            rw [ht] at hb
            rw [bitsOf_bit]
            cases hc : p.1.contains b with
            | false => rfl
            | true => have := h x ((hm x).1 hx) b (by simpa using hc); rw [this] at hb; cases hb
        unfold sgT
        rw [hap, bitsOf_len g2 g8, LD_ldg hs hi ht m _ (by omega) (by omega), hb2]
        cases okH cl p.1 [] with
        | false => rfl
        | true =>
          simp only [if_true]
          unfold sgn
          by_cases ho : p.1.length % 2 = 1
          · rw [if_pos ho, if_neg (by omega)]; omega
          · rw [if_neg ho, if_pos (by omega)]; omega
theorem symC_irr (cl : Nat → Nat → Bool) (a : Nat) : symC cl a a = false := by unfold symC; rw [if_neg (by omega), if_neg (by omega)]
theorem LD_ldn {n : Nat} {cl : Nat → Nat → Bool} {t : List Nat} (hn : n ≤ 8) (ht : ∀ a b, (t.getD a 0).testBit b = symC cl a b) : LD t (2 ^ n - 1) = ldn cl n := by
  have h1 := pow_8 hn
  have h0 : 0 < 2 ^ n := Nat.two_pow_pos n
  rw [LD_ldg (symC_sym cl) (symC_irr cl) ht _ _ (Nat.lt_succ_self _) (by omega), ldn_ldg]
  congr 1
  have : ∀ n, n < 9 → bitsL (2 ^ n - 1) = List.range n := by decide
  exact this n (by omega)
end Go.Proofs.YtijnimgmpocmaaaDoor

/- Waste: Loadings, IsLoading. -/
namespace Go.Proofs.YtijnimgmpocmaaaDoor
open Go.RowKit
set_option linter.unusedVariables false
set_option linter.unusedSimpArgs false
@[reducible] def kW (N : Int) (ps : List Cell) : V := V.agg [C.i N, C.sl 0 ps.length]
set_option maxRecDepth 10000 in
set_option maxHeartbeats 4000000 in
theorem Loadings_spec (n : Nat) (qs : List (Nat × Nat)) (hk : Knd n qs) : Spec Tryd.prog 26 [kW n (castP qs)] [⟨0, .ro 2, cellC (castP qs)⟩] 1 (Is (V.tup [A.c (C.i (LD (tabS n qs) (2 ^ n - 1))), A.c (C.i 0)])) := by
  have hnt := newTable_spec n qs hk
  have htl := tabS_len n qs
  have hlo := loadings_spec (tabS n qs) n htl hk.rng.2 (tabS_256 hk)
  refine Spec.of tok Tryd.func26 rfl rfl rfl fun n0 cx => vc_ok tok ?_
  repeat ((conv => whnf); first | (refine And.intro (by first | omega | exact Nat.le_of_ble_eq_true rfl | (dsimp only [inK]; omega) | (simp only [mulS_eq]; omega) | (simp only [mulS_eq, setL_length]; omega) | (simp only [setL_length]; omega) | (simp only [setL_length, List.length_map]; omega) | (exact ⟨by omega, by omega, by first | exact Nat.le_of_ble_eq_true rfl | (dsimp only; omega) | (simp only [setL_length]; omega) | (simp only [setL_length, List.length_map]; omega)⟩) | (exact ⟨by omega, by first | rfl | omega, by omega, Nat.le_of_ble_eq_true rfl, Nat.le_of_ble_eq_true rfl⟩) | (exact ⟨rfl, rfl, rfl, Nat.le_of_ble_eq_true rfl, by first | rfl | omega | exact Nat.le_of_ble_eq_true rfl | (dsimp only; omega) | (simp; done) | (simp; omega), by first | rfl | omega | exact Nat.le_of_ble_eq_true rfl | (dsimp only; omega) | (simp; done) | (simp; omega), by omega, Nat.le_of_ble_eq_true rfl⟩) | exact Eq.refl true) ?_) | refine Exists.intro _ (And.intro rfl ?_) | refine And.intro (And.intro rfl (chk_rowI _ _ _ _)) ?_ | refine br_t (by omega) ?_ | refine br_f (by omega) ?_ | refine bs_t (by omega) ?_ | refine bs_f (by omega) ?_ | refine fun (K' : K3) hK' => ?_ | (refine hK' _ _ _ ?_; clear hK' K') | refine draw_auto tok mixed (by kernel_rfl) ?_ | refine CallK.rowE (R := []) (flat_u _) hnt (by kernel_rfl) rfl (by simp [V.wf, A.wf, C.wf]) ⟨roE_f (flat_c _) (l := 0) rfl (by omega) rfl (.inr rfl), trivial⟩ rfl ?_ | refine CallK.val (R := [(0, some 2)]) hlo (by kernel_rfl) rfl (by simp [V.wf, A.wf, C.wf]) ⟨roE_f (flat_u _) (l := 2) rfl (by omega) rfl (.inl rfl), trivial⟩ rfl rfl trivial ?_ | refine bs_bt (Eq.refl true) ?_ | refine bs_bf (Eq.refl false) ?_ | refine br_bt (Eq.refl true) ?_ | refine br_bf (Eq.refl false) ?_ | refine CallK.m ?_ | refine Two.l ?_ | refine And.intro (And.intro rfl rfl) ?_)
  intro ρ; rfl
/-- Who is loaded before whom. -/
def fst1 (t : List Nat) (p : Nat × Nat) (b : Bool) : List Nat := if b = true then t.set p.2 (t.getD p.2 0 ||| 2 ^ p.1) else t.set p.1 (t.getD p.1 0 ||| 2 ^ p.2)
def fstK (n : Nat) (qs : List (Nat × Nat)) (bs : List Bool) : Nat → List Nat
  | 0 => List.replicate n 0
  | k + 1 => fst1 (fstK n qs bs k) (qs.getD k (0, 0)) (bs.getD k false)
theorem fst1_len (t : List Nat) (p : Nat × Nat) (b : Bool) : (fst1 t p b).length = t.length := by unfold fst1; split <;> simp
theorem fstK_len (n : Nat) (qs : List (Nat × Nat)) (bs : List Bool) : ∀ k, (fstK n qs bs k).length = n
  | 0 => by simp [fstK]
  | k + 1 => by simp only [fstK]; rw [fst1_len, fstK_len n qs bs k]
theorem fstK_lt {n : Nat} {qs : List (Nat × Nat)} (hk : Knd n qs) (bs : List Bool) : ∀ k, k ≤ qs.length → ∀ x ∈ fstK n qs bs k, x < 256
  | 0, _, x, hx => by simp only [fstK] at hx; rw [List.eq_of_mem_replicate hx]; omega
  | k + 1, hkk, x, hx => by
    have hp := hk.ok _ (getD_mem (show k < qs.length by omega))
    have hn := hk.rng
    have ih := fstK_lt hk bs k (by omega)
    simp only [fstK, fst1] at hx
    split at hx
    · rcases List.mem_or_eq_of_mem_set hx with h | rfl
      · exact ih x h
      · exact or_256 (getD_lt (by omega) ih _) (pow_256 (by omega))
    · rcases List.mem_or_eq_of_mem_set hx with h | rfl
      · exact ih x h
      · exact or_256 (getD_lt (by omega) ih _) (pow_256 (by omega))
def ldA (t : List Nat) (L : Nat) : Nat → Nat
  | 0 => L
  | a + 1 => if dif (t.getD a 0) (ldA t L a) = 0 then ldA t L a ||| 2 ^ a else ldA t L a
def ldR (t : List Nat) (n : Nat) : Nat → Nat
  | 0 => 0
  | k + 1 => ldA t (ldR t n k) n
theorem ldA_256 {t : List Nat} {L : Nat} (hL : L < 256) : ∀ a, a ≤ 8 → ldA t L a < 256
  | 0, _ => hL
  | a + 1, h => by
    have := ldA_256 (t := t) hL a (by omega)
    simp only [ldA]
    split
    · exact or_256 this (pow_256 (by omega))
    · exact this
theorem ldR_256 (t : List Nat) {n : Nat} (hn : n ≤ 8) : ∀ k, ldR t n k < 256
  | 0 => by simp [ldR]
  | k + 1 => ldA_256 (ldR_256 t hn k) n hn
def isLd (n : Nat) (qs : List (Nat × Nat)) (bs : List Bool) : Bool := decide ((((bitsL (ldR (fstK n qs bs qs.length) n n)).length : Nat) : Int) = n)
section
set_option maxRecDepth 10000 in
set_option maxHeartbeats 4000000 in
theorem isLoading_err (N : Int) (ps : List Cell) (bs : List Bool) (Er : Int) (hl : ps.length ≤ 100) (hbs : bs.length < 9223372036854775808) (he : (okK' N ps = false ∧ Er = 70) ∨ (okK' N ps = true ∧ ¬ bs.length = ps.length ∧ Er = 2)) :
    Spec Tryd.prog 33 [kW N ps, V.c (.sl 1 bs.length)] [⟨0, .ro 2, cellC ps⟩, ⟨1, .ro 0, bs.map C.bool⟩] 2 (Is (V.tup [A.c .ff, A.c (C.i Er)])) := by
  have hva := valid_spec N ps hl
  refine Spec.of tok Tryd.func33 rfl rfl rfl fun n0 cx => vc_ok tok ?_
  rcases he with ⟨hv, rfl⟩ | ⟨hv, hne, rfl⟩
  · rw [hv] at hva
    repeat ((conv => whnf); first | (refine And.intro (by first | omega | exact Nat.le_of_ble_eq_true rfl | (dsimp only [inK]; omega) | (simp only [mulS_eq]; omega) | (simp only [mulS_eq, setL_length]; omega) | (simp only [setL_length]; omega) | (simp only [setL_length, List.length_map]; omega) | (exact ⟨by omega, by omega, by first | exact Nat.le_of_ble_eq_true rfl | (dsimp only; omega) | (simp only [setL_length]; omega) | (simp only [setL_length, List.length_map]; omega)⟩) | (exact ⟨by omega, by first | rfl | omega, by omega, Nat.le_of_ble_eq_true rfl, Nat.le_of_ble_eq_true rfl⟩) | (exact ⟨rfl, rfl, rfl, Nat.le_of_ble_eq_true rfl, by first | rfl | omega | exact Nat.le_of_ble_eq_true rfl | (dsimp only; omega) | (simp; done) | (simp; omega), by first | rfl | omega | exact Nat.le_of_ble_eq_true rfl | (dsimp only; omega) | (simp; done) | (simp; omega), by omega, Nat.le_of_ble_eq_true rfl⟩) | exact Eq.refl true) ?_) | refine Exists.intro _ (And.intro rfl ?_) | refine And.intro (And.intro rfl (chk_rowI _ _ _ _)) ?_ | refine br_t (by omega) ?_ | refine br_f (by omega) ?_ | refine bs_t (by omega) ?_ | refine bs_f (by omega) ?_ | refine fun (K' : K3) hK' => ?_ | (refine hK' _ _ _ ?_; clear hK' K') | refine draw_auto tok mixed (by kernel_rfl) ?_ | refine CallK.val (R := []) hva (by kernel_rfl) rfl (by simp [V.wf, A.wf, C.wf]) ⟨roE_f (flat_c _) (l := 0) rfl (by omega) rfl (.inr rfl), trivial⟩ rfl rfl trivial ?_ | refine bs_bt (Eq.refl true) ?_ | refine bs_bf (Eq.refl false) ?_ | refine br_bt (Eq.refl true) ?_ | refine br_bf (Eq.refl false) ?_ | refine CallK.m ?_ | refine Two.l ?_ | refine And.intro (And.intro rfl rfl) ?_)
    intro ρ; rfl
  · rw [hv] at hva
    have hne : (bs.length : Int) ≠ (ps.length : Int) := by omega
    repeat ((conv => whnf); first | (refine And.intro (by first | omega | exact Nat.le_of_ble_eq_true rfl | (dsimp only [inK]; omega) | (simp only [mulS_eq]; omega) | (simp only [mulS_eq, setL_length]; omega) | (simp only [setL_length]; omega) | (simp only [setL_length, List.length_map]; omega) | (exact ⟨by omega, by omega, by first | exact Nat.le_of_ble_eq_true rfl | (dsimp only; omega) | (simp only [setL_length]; omega) | (simp only [setL_length, List.length_map]; omega)⟩) | (exact ⟨by omega, by first | rfl | omega, by omega, Nat.le_of_ble_eq_true rfl, Nat.le_of_ble_eq_true rfl⟩) | (exact ⟨rfl, rfl, rfl, Nat.le_of_ble_eq_true rfl, by first | rfl | omega | exact Nat.le_of_ble_eq_true rfl | (dsimp only; omega) | (simp; done) | (simp; omega), by first | rfl | omega | exact Nat.le_of_ble_eq_true rfl | (dsimp only; omega) | (simp; done) | (simp; omega), by omega, Nat.le_of_ble_eq_true rfl⟩) | exact Eq.refl true) ?_) | refine Exists.intro _ (And.intro rfl ?_) | refine And.intro (And.intro rfl (chk_rowI _ _ _ _)) ?_ | refine br_t (by omega) ?_ | refine br_f (by omega) ?_ | refine bs_t (by omega) ?_ | refine bs_f (by omega) ?_ | refine fun (K' : K3) hK' => ?_ | (refine hK' _ _ _ ?_; clear hK' K') | refine draw_auto tok mixed (by kernel_rfl) ?_ | refine CallK.val (R := []) hva (by kernel_rfl) rfl (by simp [V.wf, A.wf, C.wf]) ⟨roE_f (flat_c _) (l := 0) rfl (by omega) rfl (.inr rfl), trivial⟩ rfl rfl trivial ?_ | refine bs_t hne ?_ | refine br_t hne ?_ | refine bs_bt (Eq.refl true) ?_ | refine bs_bf (Eq.refl false) ?_ | refine br_bt (Eq.refl true) ?_ | refine br_bf (Eq.refl false) ?_ | refine CallK.m ?_ | refine Two.l ?_ | refine And.intro (And.intro rfl rfl) ?_)
    intro ρ; rfl
end
set_option maxRecDepth 10000 in
set_option maxHeartbeats 8000000 in
theorem isLoading_spec (n : Nat) (qs : List (Nat × Nat)) (hk : Knd n qs) (bs : List Bool) (hbl : bs.length = qs.length) :
    Spec Tryd.prog 33 [kW n (castP qs), V.c (.sl 1 bs.length)] [⟨0, .ro 2, cellC (castP qs)⟩, ⟨1, .ro 0, bs.map C.bool⟩] 2 (Is (V.tup [A.c (.bool (isLd n qs bs)), A.c (C.i 0)])) := by
  have hcl := cellC_len (castP qs)
  have hn := hk.rng
  have hql := knd_len hk
  have hpl := castP_len qs
  have hva := valid_spec n (castP qs) (by omega)
  rw [knd_ok hk] at hva
  have hrep := repU n
  have hbm : (bs.map C.bool).length = bs.length := List.length_map _
  have hle : ¬ (bs.length : Int) ≠ ((castP qs).length : Int) := by omega
  refine Spec.of tok Tryd.func33 rfl rfl rfl fun n0 cx => vc_ok tok ?_
  repeat ((conv => whnf); first | (refine And.intro (by first | omega | exact Nat.le_of_ble_eq_true rfl | (dsimp only [inK]; omega) | (simp only [mulS_eq]; omega) | (simp only [mulS_eq, setL_length]; omega) | (simp only [setL_length]; omega) | (simp only [setL_length, List.length_map]; omega) | (exact ⟨by omega, by omega, by first | exact Nat.le_of_ble_eq_true rfl | (dsimp only; omega) | (simp only [setL_length]; omega) | (simp only [setL_length, List.length_map]; omega)⟩) | (exact ⟨by omega, by first | rfl | omega, by omega, Nat.le_of_ble_eq_true rfl, Nat.le_of_ble_eq_true rfl⟩) | (exact ⟨rfl, rfl, rfl, Nat.le_of_ble_eq_true rfl, by first | rfl | omega | exact Nat.le_of_ble_eq_true rfl | (dsimp only; omega) | (simp; done) | (simp; omega), by first | rfl | omega | exact Nat.le_of_ble_eq_true rfl | (dsimp only; omega) | (simp; done) | (simp; omega), by omega, Nat.le_of_ble_eq_true rfl⟩) | exact Eq.refl true) ?_) | refine Exists.intro _ (And.intro rfl ?_) | refine And.intro (And.intro rfl (chk_rowI _ _ _ _)) ?_ | refine br_t (by omega) ?_ | refine br_f (by omega) ?_ | refine bs_t (by omega) ?_ | refine bs_f (by omega) ?_ | refine fun (K' : K3) hK' => ?_ | (refine hK' _ _ _ ?_; clear hK' K') | refine draw_auto tok mixed (by kernel_rfl) ?_ | refine CallK.val (R := []) hva (by kernel_rfl) rfl (by simp [V.wf, A.wf, C.wf]) ⟨roE_f (flat_c _) (l := 0) rfl (by omega) rfl (.inr rfl), trivial⟩ rfl rfl trivial ?_ | refine bs_f hle ?_ | refine br_f hle ?_ | refine bs_bt (Eq.refl true) ?_ | refine bs_bf (Eq.refl false) ?_ | refine br_bt (Eq.refl true) ?_ | refine br_bf (Eq.refl false) ?_ | refine CallK.m ?_ | refine Two.l ?_ | refine And.intro (And.intro rfl rfl) ?_)
  refine Tri.loop (γ := Nat) (fun k => k ≤ qs.length) (fun k => [(1, V.c (.sl 1 bs.length)), (2, V.c (.ptr 2 0)), (4, V.c .ff), (5, V.i 0), (6, V.c (.sl 3 n)), (27, V.c (.sl 0 (castP qs).length)), (28, V.i (castP qs).length), (29, V.i (k : Nat))])
    (fun k => [⟨3, .vec 75 1, (fstK n qs bs k).map C.u⟩, ⟨2, .own 24, [C.i n, .sl 0 (castP qs).length]⟩, ⟨0, .ro 2, cellC (castP qs)⟩, ⟨1, .ro 0, bs.map C.bool⟩]) 4 (fun k => qs.length - k) 0 (R0 := []) ?_ ?_ ?_
  · omega
  · skip
    refine ⟨?_, ?_, rfl, rfl, by first | exact Nat.le_of_ble_eq_true rfl | exact Nat.le_refl _ | omega⟩
    · repeat (first | exact trivial | (refine And.intro (covS_syn (by rfl) rfl (by first | exact trivial | exact Nat.le_of_ble_eq_true rfl | exact hy | (first | ((show ∀ p ∈ (_ : List (Nat × Nat)), p.1 < _); decide) | exact (fun p hp => nomatch hp)) | (show (_ : Nat) < _; omega))) ?_) | refine And.intro (covS_bool rfl rfl (by rfl)) ?_)
    · repeat (first | exact trivial | (refine And.intro (covE_id (Nat.le_of_ble_eq_true rfl) (by first | exact wf_ints _ _ | exact wf_bools _ _ | first | exact wf_us _ _ | exact wf_cells _ _ | exact wf_bools _ _ | (simp [C.wf]; done) | simp [C.wf]) rfl (by first | rfl | exact hrep)) ?_))
  · intro k hkl
    refine vc_ok tok ?_
    by_cases hlt : k < qs.length
    · have hld := cellT (l := castP qs) (k := k) rfl (by omega)
      change takeC (cellC (castP qs)) (mulS ((k : Nat) : Int).toNat 2) 2 = some [C.i ((castP qs).getD k cz).1, C.i ((castP qs).getD k cz).2] at hld
      rw [castP_get hlt] at hld
      have hpq := hk.ok _ (getD_mem hlt)
      have htl := fstK_len n qs bs k
      have htb := fstK_lt hk bs k hkl
      have hsucc : fstK n qs bs (k + 1) = fst1 (fstK n qs bs k) (qs.getD k (0, 0)) (bs.getD k false) := rfl
      have hlb : (bs.map C.bool)[mulS ((k : Nat) : Int).toNat 1]? = some (C.bool (bs.getD k false)) := boolL (by omega)
      obtain ⟨p, hp⟩ : ∃ p, p = qs.getD k (0, 0) := ⟨_, rfl⟩
      obtain ⟨t, ht⟩ : ∃ t, t = fstK n qs bs k := ⟨_, rfl⟩
      rw [← hp] at hld hsucc hpq
      rw [← ht] at hsucc htl htb ⊢
      obtain ⟨a, b⟩ := p
      simp only at hld hpq
      have hlm : (t.map C.u).length = n := by rw [List.length_map, htl]
      cases hb : bs.getD k false with
      | true =>
        rw [hb] at hsucc hlb
        have ha := getD_lt (by omega) htb b
        have hl1 : (t.map C.u)[mulS ((b : Nat) : Int).toNat 1]? = some (C.u (t.getD b 0)) := uLz rfl (by omega)
        have hw1 := with_spec (t.getD b 0) a ha (by omega)
        have hfin : setL (t.map C.u) (mulS ((b : Nat) : Int).toNat 1) [C.int .u64 ((t.getD b 0 ||| 2 ^ a : Nat) : Int)] = (fstK n qs bs (k + 1)).map C.u := by
          rw [setU rfl rfl, hsucc]; rfl
        repeat ((conv => whnf); first | (refine And.intro (by first | omega | exact Nat.le_of_ble_eq_true rfl | (dsimp only [inK]; omega) | (simp only [mulS_eq]; omega) | (simp only [mulS_eq, setL_length]; omega) | (simp only [setL_length]; omega) | (simp only [setL_length, List.length_map]; omega) | (exact ⟨by omega, by omega, by first | exact Nat.le_of_ble_eq_true rfl | (dsimp only; omega) | (simp only [setL_length]; omega) | (simp only [setL_length, List.length_map]; omega)⟩) | (exact ⟨by omega, by first | rfl | omega, by omega, Nat.le_of_ble_eq_true rfl, Nat.le_of_ble_eq_true rfl⟩) | (exact ⟨rfl, rfl, rfl, Nat.le_of_ble_eq_true rfl, by first | rfl | omega | exact Nat.le_of_ble_eq_true rfl | (dsimp only; omega) | (simp; done) | (simp; omega), by first | rfl | omega | exact Nat.le_of_ble_eq_true rfl | (dsimp only; omega) | (simp; done) | (simp; omega), by omega, Nat.le_of_ble_eq_true rfl⟩) | exact Eq.refl true) ?_) | with_reducible refine ld (hld) ?_ | with_reducible refine ld (hlb) ?_ | with_reducible refine ld (hl1) ?_ | refine Exists.intro _ (And.intro rfl ?_) | refine And.intro (And.intro rfl (chk_rowI _ _ _ _)) ?_ | refine br_t (by omega) ?_ | refine br_f (by omega) ?_ | refine bs_t (by omega) ?_ | refine bs_f (by omega) ?_ | refine fun (K' : K3) hK' => ?_ | (refine hK' _ _ _ ?_; clear hK' K') | refine draw_auto tok mixed (by kernel_rfl) ?_ | refine HD_mk (fun _ h => CallK.val (R := []) hw1 (by kernel_rfl) rfl (by simp [V.wf, A.wf, C.wf, V.i]) trivial rfl rfl trivial h) ?_ | refine bs_bt (Eq.refl true) ?_ | refine bs_bf (Eq.refl false) ?_ | refine br_bt (Eq.refl true) ?_ | refine br_bf (Eq.refl false) ?_ | refine CallK.m ?_ | refine Two.l ?_ | refine And.intro (And.intro rfl rfl) ?_)
        refine ⟨k + 1, [], by omega, by omega, ?_⟩
        refine ⟨?_, ?_, rfl, rfl, by first | exact Nat.le_of_ble_eq_true rfl | exact Nat.le_refl _ | omega⟩
        · repeat (first | exact trivial | (refine And.intro (covS_syn (by first | rfl | (refine congrArg some (congrArg V.i ?_); omega)) rfl (by first | exact trivial | exact Nat.le_of_ble_eq_true rfl | exact hy | (first | ((show ∀ p ∈ (_ : List (Nat × Nat)), p.1 < _); decide) | exact (fun p hp => nomatch hp)) | (show (_ : Nat) < _; omega))) ?_) | refine And.intro (covS_bool rfl rfl (by rfl)) ?_)
        · repeat (first | exact trivial | (refine And.intro (covE_id (Nat.le_of_ble_eq_true rfl) (by first | exact wf_ints _ _ | exact wf_bools _ _ | first | exact wf_us _ _ | exact wf_cells _ _ | exact wf_bools _ _ | (simp [C.wf]; done) | simp [C.wf]) rfl (by first | rfl | exact hfin)) ?_))
      | false =>
        rw [hb] at hsucc hlb
        have ha := getD_lt (by omega) htb a
        have hl1 : (t.map C.u)[mulS ((a : Nat) : Int).toNat 1]? = some (C.u (t.getD a 0)) := uLz rfl (by omega)
        have hw1 := with_spec (t.getD a 0) b ha (by omega)
        have hfin : setL (t.map C.u) (mulS ((a : Nat) : Int).toNat 1) [C.int .u64 ((t.getD a 0 ||| 2 ^ b : Nat) : Int)] = (fstK n qs bs (k + 1)).map C.u := by
          rw [setU rfl rfl, hsucc]; rfl
        repeat ((conv => whnf); first | (refine And.intro (by first | omega | exact Nat.le_of_ble_eq_true rfl | (dsimp only [inK]; omega) | (simp only [mulS_eq]; omega) | (simp only [mulS_eq, setL_length]; omega) | (simp only [setL_length]; omega) | (simp only [setL_length, List.length_map]; omega) | (exact ⟨by omega, by omega, by first | exact Nat.le_of_ble_eq_true rfl | (dsimp only; omega) | (simp only [setL_length]; omega) | (simp only [setL_length, List.length_map]; omega)⟩) | (exact ⟨by omega, by first | rfl | omega, by omega, Nat.le_of_ble_eq_true rfl, Nat.le_of_ble_eq_true rfl⟩) | (exact ⟨rfl, rfl, rfl, Nat.le_of_ble_eq_true rfl, by first | rfl | omega | exact Nat.le_of_ble_eq_true rfl | (dsimp only; omega) | (simp; done) | (simp; omega), by first | rfl | omega | exact Nat.le_of_ble_eq_true rfl | (dsimp only; omega) | (simp; done) | (simp; omega), by omega, Nat.le_of_ble_eq_true rfl⟩) | exact Eq.refl true) ?_) | with_reducible refine ld (hld) ?_ | with_reducible refine ld (hlb) ?_ | with_reducible refine ld (hl1) ?_ | refine Exists.intro _ (And.intro rfl ?_) | refine And.intro (And.intro rfl (chk_rowI _ _ _ _)) ?_ | refine br_t (by omega) ?_ | refine br_f (by omega) ?_ | refine bs_t (by omega) ?_ | refine bs_f (by omega) ?_ | refine fun (K' : K3) hK' => ?_ | (refine hK' _ _ _ ?_; clear hK' K') | refine draw_auto tok mixed (by kernel_rfl) ?_ | refine HD_mk (fun _ h => CallK.val (R := []) hw1 (by kernel_rfl) rfl (by simp [V.wf, A.wf, C.wf, V.i]) trivial rfl rfl trivial h) ?_ | refine bs_bt (Eq.refl true) ?_ | refine bs_bf (Eq.refl false) ?_ | refine br_bt (Eq.refl true) ?_ | refine br_bf (Eq.refl false) ?_ | refine CallK.m ?_ | refine Two.l ?_ | refine And.intro (And.intro rfl rfl) ?_)
        refine ⟨k + 1, [], by omega, by omega, ?_⟩
        refine ⟨?_, ?_, rfl, rfl, by first | exact Nat.le_of_ble_eq_true rfl | exact Nat.le_refl _ | omega⟩
        · repeat (first | exact trivial | (refine And.intro (covS_syn (by first | rfl | (refine congrArg some (congrArg V.i ?_); omega)) rfl (by first | exact trivial | exact Nat.le_of_ble_eq_true rfl | exact hy | (first | ((show ∀ p ∈ (_ : List (Nat × Nat)), p.1 < _); decide) | exact (fun p hp => nomatch hp)) | (show (_ : Nat) < _; omega))) ?_) | refine And.intro (covS_bool rfl rfl (by rfl)) ?_)
        · repeat (first | exact trivial | (refine And.intro (covE_id (Nat.le_of_ble_eq_true rfl) (by first | exact wf_ints _ _ | exact wf_bools _ _ | first | exact wf_us _ _ | exact wf_cells _ _ | exact wf_bools _ _ | (simp [C.wf]; done) | simp [C.wf]) rfl (by first | rfl | exact hfin)) ?_))
    · obtain rfl : k = qs.length := by omega
      have htl := fstK_len n qs bs qs.length
      have htb := fstK_lt hk bs qs.length (Nat.le_refl _)
      have hres : isLd n qs bs = decide ((((bitsL (ldR (fstK n qs bs qs.length) n n)).length : Nat) : Int) = n) := rfl
      obtain ⟨t, ht⟩ : ∃ t, t = fstK n qs bs qs.length := ⟨_, rfl⟩
      rw [← ht] at htl htb hres ⊢
      have hlm : (t.map C.u).length = n := by rw [List.length_map, htl]
      repeat ((conv => whnf); first | (refine And.intro (by first | omega | exact Nat.le_of_ble_eq_true rfl | (dsimp only [inK]; omega) | (simp only [mulS_eq]; omega) | (simp only [mulS_eq, setL_length]; omega) | (simp only [setL_length]; omega) | (simp only [setL_length, List.length_map]; omega) | (exact ⟨by omega, by omega, by first | exact Nat.le_of_ble_eq_true rfl | (dsimp only; omega) | (simp only [setL_length]; omega) | (simp only [setL_length, List.length_map]; omega)⟩) | (exact ⟨by omega, by first | rfl | omega, by omega, Nat.le_of_ble_eq_true rfl, Nat.le_of_ble_eq_true rfl⟩) | (exact ⟨rfl, rfl, rfl, Nat.le_of_ble_eq_true rfl, by first | rfl | omega | exact Nat.le_of_ble_eq_true rfl | (dsimp only; omega) | (simp; done) | (simp; omega), by first | rfl | omega | exact Nat.le_of_ble_eq_true rfl | (dsimp only; omega) | (simp; done) | (simp; omega), by omega, Nat.le_of_ble_eq_true rfl⟩) | exact Eq.refl true) ?_) | refine Exists.intro _ (And.intro rfl ?_) | refine And.intro (And.intro rfl (chk_rowI _ _ _ _)) ?_ | refine br_t (by omega) ?_ | refine br_f (by omega) ?_ | refine bs_t (by omega) ?_ | refine bs_f (by omega) ?_ | refine fun (K' : K3) hK' => ?_ | (refine hK' _ _ _ ?_; clear hK' K') | refine draw_auto tok mixed (by kernel_rfl) ?_ | refine bs_bt (Eq.refl true) ?_ | refine bs_bf (Eq.refl false) ?_ | refine br_bt (Eq.refl true) ?_ | refine br_bf (Eq.refl false) ?_ | refine CallK.m ?_ | refine Two.l ?_ | refine And.intro (And.intro rfl rfl) ?_)
      refine Tri.loop (γ := Nat) (fun i => i ≤ n) (fun i => [(2, V.c (.ptr 2 0)), (6, V.c (.sl 3 n)), (9, V.u (ldR t n i)), (64, V.i n), (65, V.i (i : Nat))])
        (fun i => [⟨3, .vec 75 1, t.map C.u⟩, ⟨2, .own 24, [C.i n, .sl 0 (castP qs).length]⟩, ⟨0, .ro 2, cellC (castP qs)⟩, ⟨1, .ro 0, bs.map C.bool⟩]) 4 (fun i => n - i) 0 (R0 := []) ?_ ?_ ?_
      · omega
      · skip
        refine ⟨?_, ?_, rfl, rfl, by first | exact Nat.le_of_ble_eq_true rfl | exact Nat.le_refl _ | omega⟩
        · repeat (first | exact trivial | (refine And.intro (covS_syn (by rfl) rfl (by first | exact trivial | exact Nat.le_of_ble_eq_true rfl | exact hy | (first | ((show ∀ p ∈ (_ : List (Nat × Nat)), p.1 < _); decide) | exact (fun p hp => nomatch hp)) | (show (_ : Nat) < _; omega))) ?_) | refine And.intro (covS_bool rfl rfl (by rfl)) ?_)
        · repeat (first | exact trivial | (refine And.intro (covE_id (Nat.le_of_ble_eq_true rfl) (by first | exact wf_ints _ _ | exact wf_bools _ _ | first | exact wf_us _ _ | exact wf_cells _ _ | exact wf_bools _ _ | (simp [C.wf]; done) | simp [C.wf]) rfl (by rfl)) ?_))
      · intro i hi
        refine vc_ok tok ?_
        by_cases hin : i < n
        · have hL := ldR_256 t hn.2 i
          have hRs : ldR t n (i + 1) = ldA t (ldR t n i) n := rfl
          obtain ⟨L, hLL⟩ : ∃ L, L = ldR t n i := ⟨_, rfl⟩
          rw [← hLL] at hL hRs ⊢
          repeat ((conv => whnf); first | (refine And.intro (by first | omega | exact Nat.le_of_ble_eq_true rfl | (dsimp only [inK]; omega) | (simp only [mulS_eq]; omega) | (simp only [mulS_eq, setL_length]; omega) | (simp only [setL_length]; omega) | (simp only [setL_length, List.length_map]; omega) | (exact ⟨by omega, by omega, by first | exact Nat.le_of_ble_eq_true rfl | (dsimp only; omega) | (simp only [setL_length]; omega) | (simp only [setL_length, List.length_map]; omega)⟩) | (exact ⟨by omega, by first | rfl | omega, by omega, Nat.le_of_ble_eq_true rfl, Nat.le_of_ble_eq_true rfl⟩) | (exact ⟨rfl, rfl, rfl, Nat.le_of_ble_eq_true rfl, by first | rfl | omega | exact Nat.le_of_ble_eq_true rfl | (dsimp only; omega) | (simp; done) | (simp; omega), by first | rfl | omega | exact Nat.le_of_ble_eq_true rfl | (dsimp only; omega) | (simp; done) | (simp; omega), by omega, Nat.le_of_ble_eq_true rfl⟩) | exact Eq.refl true) ?_) | refine Exists.intro _ (And.intro rfl ?_) | refine And.intro (And.intro rfl (chk_rowI _ _ _ _)) ?_ | refine br_t (by omega) ?_ | refine br_f (by omega) ?_ | refine bs_t (by omega) ?_ | refine bs_f (by omega) ?_ | refine fun (K' : K3) hK' => ?_ | (refine hK' _ _ _ ?_; clear hK' K') | refine draw_auto tok mixed (by kernel_rfl) ?_ | refine bs_bt (Eq.refl true) ?_ | refine bs_bf (Eq.refl false) ?_ | refine br_bt (Eq.refl true) ?_ | refine br_bf (Eq.refl false) ?_ | refine CallK.m ?_ | refine Two.l ?_ | refine And.intro (And.intro rfl rfl) ?_)
          refine Tri.loop (γ := Nat) (fun a => a ≤ n) (fun a => [(2, V.c (.ptr 2 0)), (6, V.c (.sl 3 n)), (9, V.u (ldA t L a)), (64, V.i n), (65, V.i (i : Nat)), (67, V.c (.sl 3 n)), (68, V.i n), (69, V.i (a : Nat))])
            (fun a => [⟨3, .vec 75 1, t.map C.u⟩, ⟨2, .own 24, [C.i n, .sl 0 (castP qs).length]⟩, ⟨0, .ro 2, cellC (castP qs)⟩, ⟨1, .ro 0, bs.map C.bool⟩]) 4 (fun a => n - a) 0 (R0 := []) ?_ ?_ ?_
          · omega
          · skip
            refine ⟨?_, ?_, rfl, rfl, by first | exact Nat.le_of_ble_eq_true rfl | exact Nat.le_refl _ | omega⟩
            · repeat (first | exact trivial | (refine And.intro (covS_syn (by rfl) rfl (by first | exact trivial | exact Nat.le_of_ble_eq_true rfl | exact hy | (first | ((show ∀ p ∈ (_ : List (Nat × Nat)), p.1 < _); decide) | exact (fun p hp => nomatch hp)) | (show (_ : Nat) < _; omega))) ?_) | refine And.intro (covS_bool rfl rfl (by rfl)) ?_)
            · repeat (first | exact trivial | (refine And.intro (covE_id (Nat.le_of_ble_eq_true rfl) (by first | exact wf_ints _ _ | exact wf_bools _ _ | first | exact wf_us _ _ | exact wf_cells _ _ | exact wf_bools _ _ | (simp [C.wf]; done) | simp [C.wf]) rfl (by rfl)) ?_))
          · intro a ha
            refine vc_ok tok ?_
            by_cases han : a < n
            · have hla : (t.map C.u)[mulS ((a : Nat) : Int).toNat 1]? = some (C.u (t.getD a 0)) := uLz rfl (by omega)
              have hta := getD_lt (by omega) htb a
              have hA := ldA_256 (t := t) hL a (by omega)
              have hAs : ldA t L (a + 1) = if dif (t.getD a 0) (ldA t L a) = 0 then ldA t L a ||| 2 ^ a else ldA t L a := rfl
              obtain ⟨A0, hA0⟩ : ∃ A0, A0 = ldA t L a := ⟨_, rfl⟩
              rw [← hA0] at hA hAs ⊢
              have hand := bit_andNot (x := t.getD a 0) (y := A0) (by omega) (by omega)
              have hw := with_spec A0 a hA (by omega)
              by_cases hz : bitI .andNot .u64 ((t.getD a 0 : Nat) : Int) (A0 : Int) = 0
              · have hst : ldA t L (a + 1) = A0 ||| 2 ^ a := by rw [hAs, if_pos (by rw [hand] at hz; omega)]
                repeat ((conv => whnf); first | (refine And.intro (by first | omega | exact Nat.le_of_ble_eq_true rfl | (dsimp only [inK]; omega) | (simp only [mulS_eq]; omega) | (simp only [mulS_eq, setL_length]; omega) | (simp only [setL_length]; omega) | (simp only [setL_length, List.length_map]; omega) | (exact ⟨by omega, by omega, by first | exact Nat.le_of_ble_eq_true rfl | (dsimp only; omega) | (simp only [setL_length]; omega) | (simp only [setL_length, List.length_map]; omega)⟩) | (exact ⟨by omega, by first | rfl | omega, by omega, Nat.le_of_ble_eq_true rfl, Nat.le_of_ble_eq_true rfl⟩) | (exact ⟨rfl, rfl, rfl, Nat.le_of_ble_eq_true rfl, by first | rfl | omega | exact Nat.le_of_ble_eq_true rfl | (dsimp only; omega) | (simp; done) | (simp; omega), by first | rfl | omega | exact Nat.le_of_ble_eq_true rfl | (dsimp only; omega) | (simp; done) | (simp; omega), by omega, Nat.le_of_ble_eq_true rfl⟩) | exact Eq.refl true) ?_) | with_reducible refine ld (hla) ?_ | refine Exists.intro _ (And.intro rfl ?_) | refine And.intro (And.intro rfl (chk_rowI _ _ _ _)) ?_ | refine br_t (by omega) ?_ | refine br_f (by omega) ?_ | refine bs_t (by omega) ?_ | refine bs_f (by omega) ?_ | refine fun (K' : K3) hK' => ?_ | (refine hK' _ _ _ ?_; clear hK' K') | refine draw_auto tok mixed (by kernel_rfl) ?_ | refine bs_t hz ?_ | refine br_t hz ?_ | refine CallK.val (R := []) hw (by kernel_rfl) rfl (by simp [V.wf, A.wf, C.wf, V.i]) trivial rfl rfl trivial ?_ | refine bs_bt (Eq.refl true) ?_ | refine bs_bf (Eq.refl false) ?_ | refine br_bt (Eq.refl true) ?_ | refine br_bf (Eq.refl false) ?_ | refine CallK.m ?_ | refine Two.l ?_ | refine And.intro (And.intro rfl rfl) ?_)
                refine ⟨a + 1, [], by omega, by omega, ?_⟩
                refine ⟨?_, ?_, rfl, rfl, by first | exact Nat.le_of_ble_eq_true rfl | exact Nat.le_refl _ | omega⟩
                · repeat (first | exact trivial | (refine And.intro (covS_syn (by first | rfl | (refine congrArg some (congrArg V.i ?_); omega) | (rw [hst]; rfl)) rfl (by first | exact trivial | exact Nat.le_of_ble_eq_true rfl | exact hy | (first | ((show ∀ p ∈ (_ : List (Nat × Nat)), p.1 < _); decide) | exact (fun p hp => nomatch hp)) | (show (_ : Nat) < _; omega))) ?_) | refine And.intro (covS_bool rfl rfl (by rfl)) ?_)
                · repeat (first | exact trivial | (refine And.intro (covE_id (Nat.le_of_ble_eq_true rfl) (by first | exact wf_ints _ _ | exact wf_bools _ _ | first | exact wf_us _ _ | exact wf_cells _ _ | exact wf_bools _ _ | (simp [C.wf]; done) | simp [C.wf]) rfl (by rfl)) ?_))
              · have hst : ldA t L (a + 1) = A0 := by rw [hAs, if_neg (by rw [hand] at hz; omega)]
                repeat ((conv => whnf); first | (refine And.intro (by first | omega | exact Nat.le_of_ble_eq_true rfl | (dsimp only [inK]; omega) | (simp only [mulS_eq]; omega) | (simp only [mulS_eq, setL_length]; omega) | (simp only [setL_length]; omega) | (simp only [setL_length, List.length_map]; omega) | (exact ⟨by omega, by omega, by first | exact Nat.le_of_ble_eq_true rfl | (dsimp only; omega) | (simp only [setL_length]; omega) | (simp only [setL_length, List.length_map]; omega)⟩) | (exact ⟨by omega, by first | rfl | omega, by omega, Nat.le_of_ble_eq_true rfl, Nat.le_of_ble_eq_true rfl⟩) | (exact ⟨rfl, rfl, rfl, Nat.le_of_ble_eq_true rfl, by first | rfl | omega | exact Nat.le_of_ble_eq_true rfl | (dsimp only; omega) | (simp; done) | (simp; omega), by first | rfl | omega | exact Nat.le_of_ble_eq_true rfl | (dsimp only; omega) | (simp; done) | (simp; omega), by omega, Nat.le_of_ble_eq_true rfl⟩) | exact Eq.refl true) ?_) | with_reducible refine ld (hla) ?_ | refine Exists.intro _ (And.intro rfl ?_) | refine And.intro (And.intro rfl (chk_rowI _ _ _ _)) ?_ | refine br_t (by omega) ?_ | refine br_f (by omega) ?_ | refine bs_t (by omega) ?_ | refine bs_f (by omega) ?_ | refine fun (K' : K3) hK' => ?_ | (refine hK' _ _ _ ?_; clear hK' K') | refine draw_auto tok mixed (by kernel_rfl) ?_ | refine bs_f hz ?_ | refine br_f hz ?_ | refine bs_bt (Eq.refl true) ?_ | refine bs_bf (Eq.refl false) ?_ | refine br_bt (Eq.refl true) ?_ | refine br_bf (Eq.refl false) ?_ | refine CallK.m ?_ | refine Two.l ?_ | refine And.intro (And.intro rfl rfl) ?_)
                refine ⟨a + 1, [], by omega, by omega, ?_⟩
                refine ⟨?_, ?_, rfl, rfl, by first | exact Nat.le_of_ble_eq_true rfl | exact Nat.le_refl _ | omega⟩
                · repeat (first | exact trivial | (refine And.intro (covS_syn (by first | rfl | (refine congrArg some (congrArg V.i ?_); omega) | (rw [hst]; rfl)) rfl (by first | exact trivial | exact Nat.le_of_ble_eq_true rfl | exact hy | (first | ((show ∀ p ∈ (_ : List (Nat × Nat)), p.1 < _); decide) | exact (fun p hp => nomatch hp)) | (show (_ : Nat) < _; omega))) ?_) | refine And.intro (covS_bool rfl rfl (by rfl)) ?_)
                · repeat (first | exact trivial | (refine And.intro (covE_id (Nat.le_of_ble_eq_true rfl) (by first | exact wf_ints _ _ | exact wf_bools _ _ | first | exact wf_us _ _ | exact wf_cells _ _ | exact wf_bools _ _ | (simp [C.wf]; done) | simp [C.wf]) rfl (by rfl)) ?_))
            · obtain rfl : a = n := by omega
              rw [← hRs]
              repeat ((conv => whnf); first | (refine And.intro (by first | omega | exact Nat.le_of_ble_eq_true rfl | (dsimp only [inK]; omega) | (simp only [mulS_eq]; omega) | (simp only [mulS_eq, setL_length]; omega) | (simp only [setL_length]; omega) | (simp only [setL_length, List.length_map]; omega) | (exact ⟨by omega, by omega, by first | exact Nat.le_of_ble_eq_true rfl | (dsimp only; omega) | (simp only [setL_length]; omega) | (simp only [setL_length, List.length_map]; omega)⟩) | (exact ⟨by omega, by first | rfl | omega, by omega, Nat.le_of_ble_eq_true rfl, Nat.le_of_ble_eq_true rfl⟩) | (exact ⟨rfl, rfl, rfl, Nat.le_of_ble_eq_true rfl, by first | rfl | omega | exact Nat.le_of_ble_eq_true rfl | (dsimp only; omega) | (simp; done) | (simp; omega), by first | rfl | omega | exact Nat.le_of_ble_eq_true rfl | (dsimp only; omega) | (simp; done) | (simp; omega), by omega, Nat.le_of_ble_eq_true rfl⟩) | exact Eq.refl true) ?_) | refine Exists.intro _ (And.intro rfl ?_) | refine And.intro (And.intro rfl (chk_rowI _ _ _ _)) ?_ | refine br_t (by omega) ?_ | refine br_f (by omega) ?_ | refine bs_t (by omega) ?_ | refine bs_f (by omega) ?_ | refine fun (K' : K3) hK' => ?_ | (refine hK' _ _ _ ?_; clear hK' K') | refine draw_auto tok mixed (by kernel_rfl) ?_ | refine bs_bt (Eq.refl true) ?_ | refine bs_bf (Eq.refl false) ?_ | refine br_bt (Eq.refl true) ?_ | refine br_bf (Eq.refl false) ?_ | refine CallK.m ?_ | refine Two.l ?_ | refine And.intro (And.intro rfl rfl) ?_)
              refine ⟨i + 1, [], by omega, by omega, ?_⟩
              refine ⟨?_, ?_, rfl, rfl, by first | exact Nat.le_of_ble_eq_true rfl | exact Nat.le_refl _ | omega⟩
              · repeat (first | exact trivial | (refine And.intro (covS_syn (by first | rfl | (refine congrArg some (congrArg V.i ?_); omega)) rfl (by first | exact trivial | exact Nat.le_of_ble_eq_true rfl | exact hy | (first | ((show ∀ p ∈ (_ : List (Nat × Nat)), p.1 < _); decide) | exact (fun p hp => nomatch hp)) | (show (_ : Nat) < _; omega))) ?_) | refine And.intro (covS_bool rfl rfl (by rfl)) ?_)
              · repeat (first | exact trivial | (refine And.intro (covE_id (Nat.le_of_ble_eq_true rfl) (by first | exact wf_ints _ _ | exact wf_bools _ _ | first | exact wf_us _ _ | exact wf_cells _ _ | exact wf_bools _ _ | (simp [C.wf]; done) | simp [C.wf]) rfl (by rfl)) ?_))
        · obtain rfl : i = n := by omega
          have hsz := size_spec (ldR t i i) (ldR_256 t hn.2 i)
          repeat ((conv => whnf); first | (refine And.intro (by first | omega | exact Nat.le_of_ble_eq_true rfl | (dsimp only [inK]; omega) | (simp only [mulS_eq]; omega) | (simp only [mulS_eq, setL_length]; omega) | (simp only [setL_length]; omega) | (simp only [setL_length, List.length_map]; omega) | (exact ⟨by omega, by omega, by first | exact Nat.le_of_ble_eq_true rfl | (dsimp only; omega) | (simp only [setL_length]; omega) | (simp only [setL_length, List.length_map]; omega)⟩) | (exact ⟨by omega, by first | rfl | omega, by omega, Nat.le_of_ble_eq_true rfl, Nat.le_of_ble_eq_true rfl⟩) | (exact ⟨rfl, rfl, rfl, Nat.le_of_ble_eq_true rfl, by first | rfl | omega | exact Nat.le_of_ble_eq_true rfl | (dsimp only; omega) | (simp; done) | (simp; omega), by first | rfl | omega | exact Nat.le_of_ble_eq_true rfl | (dsimp only; omega) | (simp; done) | (simp; omega), by omega, Nat.le_of_ble_eq_true rfl⟩) | exact Eq.refl true) ?_) | refine Exists.intro _ (And.intro rfl ?_) | refine And.intro (And.intro rfl (chk_rowI _ _ _ _)) ?_ | refine br_t (by omega) ?_ | refine br_f (by omega) ?_ | refine bs_t (by omega) ?_ | refine bs_f (by omega) ?_ | refine fun (K' : K3) hK' => ?_ | (refine hK' _ _ _ ?_; clear hK' K') | refine draw_auto tok mixed (by kernel_rfl) ?_ | refine HD_mk (fun _ h => CallK.val (R := []) hsz (by kernel_rfl) rfl (by simp [V.wf, A.wf, C.wf]) trivial rfl rfl trivial h) ?_ | refine bs_bt (Eq.refl true) ?_ | refine bs_bf (Eq.refl false) ?_ | refine br_bt (Eq.refl true) ?_ | refine br_bf (Eq.refl false) ?_ | refine CallK.m ?_ | refine Two.l ?_ | refine And.intro (And.intro rfl rfl) ?_)
          intro ρ; rw [hres]; rfl
end Go.Proofs.YtijnimgmpocmaaaDoor

