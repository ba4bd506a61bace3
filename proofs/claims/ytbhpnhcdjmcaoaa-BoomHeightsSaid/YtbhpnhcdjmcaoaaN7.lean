/- Texts of the proof, part 7: H1, P6, P8, H2, NR2. -/
import Derived.Test.YtbhpnhcdjmcaoaaN6
import Derived.WalkKit
import Derived.Below
import Derived.Laws.OwnMore
import Derived.Maps.AppendAt
import Derived.Laws.IdiomCopy
import Derived.Laws.CopyRow
import Derived.IntWalk
import Derived.StillTail
import Derived.Scope
import Derived.ChangeKeysEq
import Derived.Laws.Small
import Derived.OrdersIn
import Derived.TacticsIn
import Derived.OwnWalkIn
import Derived.RangeFuncNested
import Derived.RangeFuncLeaves
import Derived.RangeFuncRecord
import Derived.Maps.Keyed
import Derived.Maps.RangeRun
import Derived.DeepKeys4
import Derived.Test.YtbhpnhcdjmcaoaaRows
import Derived.KernelRfl
import Derived.ProofKit
import Derived.OpenShut
import Derived.Lib.SmallJoins
import Derived.Deep.Slices
/- Boom: the greatest heights. -/
namespace Go.Proofs.Ytbhpnhcdjmcaoaa
open Go.RowKit
set_option linter.unusedVariables false
set_option linter.unusedSimpArgs false
theorem setL_int {l : List Int} {k : Nat} {z x : Int} (hz : z = k) : setL (l.map C.i) (mulS z.toNat 1) [C.i x] = (l.set k x).map C.i := by
  subst hz
  rw [mulS_eq, Int.toNat_natCast, Nat.mul_one]
  simp [setL, List.map_set]
theorem h0L_put {W : Int} {cs : List Int} {k : Nat} (hk : k < cs.length) : (h0L W cs k).set k (h0I W cs k) = h0L W cs (k + 1) := by
  apply List.ext_getElem
  · simp [h0L]
  · intro j h1 h2
    rw [List.getElem_set]
    simp only [h0L, List.length_map, List.length_range, List.length_set] at h1 h2
    simp only [h0L, List.getElem_map, List.getElem_range]
    by_cases hj : k = j
    · subst hj; rw [if_pos rfl, if_pos (by omega)]
    · rw [if_neg hj]
      by_cases hjk : j < k
      · rw [if_pos hjk, if_pos (by omega)]
      · rw [if_neg hjk, if_neg (by omega)]
theorem h0L_keep {W : Int} {cs : List Int} {k : Nat} (hk : k < cs.length) (h : h0I W cs k = 0) : h0L W cs (k + 1) = h0L W cs k := by
  unfold h0L
  refine List.map_congr_left fun i hi => ?_
  by_cases hik : i = k
  · subst hik; rw [if_pos (by omega), if_neg (by omega), h]
  · by_cases h2 : i < k
    · rw [if_pos (by omega), if_pos h2]
    · rw [if_neg (by omega), if_neg h2]
theorem h0L_z {W : Int} {cs : List Int} : repC cs.length [C.i 0] = (h0L W cs 0).map C.i := by
  unfold h0L
  generalize cs.length = n
  induction n with
  | zero => rfl
  | succ n ih =>
    rw [List.range_succ_eq_map, List.map_cons, List.map_map]
    show C.i 0 :: repC n [C.i 0] = _
    rw [ih]
    simp
theorem h0L_len (W : Int) (cs : List Int) (k : Nat) : (h0L W cs k).length = cs.length := by simp [h0L]
/-- The edges as the program goes over them. -/
def edP (W H : Int) (j : Nat) : List (Int × Int) := (List.range j).flatMap fun i : Nat => (nearL W H true (i : Int)).map fun k => ((i : Int), k)
theorem edP_ok {W H : Int} {cs : List Int} (hok : CO W H cs) {j : Nat} (hj : j ≤ cs.length) : ∀ e ∈ edP W H j, (0 ≤ e.1 ∧ e.1 < cs.length) ∧ (0 ≤ e.2 ∧ e.2 < cs.length) ∧ e.2 ∈ nearL W H true e.1 := fun e he => by
  obtain ⟨i, hi, he⟩ := List.mem_flatMap.1 he
  obtain ⟨k, hk, rfl⟩ := List.mem_map.1 he
  have hi := List.mem_range.1 hi
  have := near_in (by have := hok.w; omega) hk
  have := hok.len
  exact ⟨by simp only; omega, by simp only; omega, hk⟩
theorem passH_succ (W H : Int) (cs : List Int) (st : List Int × Bool) (j : Nat) : passH cs (edP W H (j + 1)) st = (nearL W H true (j : Int)).foldl (fun st k => relH cs st (j : Int) k) (passH cs (edP W H j) st) := by
  unfold passH edP
  rw [List.range_succ, List.flatMap_append, List.foldl_append]
  simp [List.foldl_map]
theorem edP_all {W H : Int} {cs hs : List Int} (h : ∀ e ∈ edP W H cs.length, hldI cs e.1 = true → hldI cs e.2 = true → hL hs e.2 ≤ hL hs e.1 + cstI cs e.2) : Feas W H cs (hL hs) := fun a b a0 a1 ha hb hn => by
  refine h (a, b) (List.mem_flatMap.2 ⟨a.toNat, List.mem_range.2 (by omega), List.mem_map.2 ⟨b, ?_, ?_⟩⟩) ha hb
  · rw [show ((a.toNat : Nat) : Int) = a by omega]; exact hn
  · rw [show ((a.toNat : Nat) : Int) = a by omega]
theorem HSt.sum {W H : Int} {cs hs : List Int} (h : HSt W H cs hs) : 0 ≤ hs.sum := sum_pos (hs := hs) (fun x hx => by
  obtain ⟨i, hi, rfl⟩ := List.mem_iff_getElem.1 hx
  have := h.pos i (by omega) (by have := h.len; omega)
  unfold hL at this
  rwa [Int.toNat_natCast, List.getD_eq_getElem?_getD, List.getElem?_eq_getElem hi] at this)
/-- Numbers and an error, or none. -/
def intsE (l : List Int) (Er : Int) (v : V) (L' : List E) : Prop :=
  ∃ o : C, v = V.tup [A.c o, A.c (C.i Er)] ∧ ((o = C.nil ∧ l = []) ∨ ∃ lab, o = C.sl lab l.length ∧ find L' lab = some ⟨lab, .vec 3 1, l.map C.i⟩)
noncomputable def htsO (W H : Int) (cs : List Int) : List Int := if okC W H cs then hts W H cs else []
def htsE (W H : Int) (cs : List Int) : Int := if okC W H cs then 0 else 30
theorem relH_no {cs : List Int} {st : List Int × Bool} {a b : Int} (h : hldI cs a = false ∨ hldI cs b = false ∨ ¬ hL st.1 b > hL st.1 a + cstI cs b) : relH cs st a b = st := by
  unfold relH
  rw [if_neg]
  simp only [Bool.and_eq_true, decide_eq_true_eq]
  rintro ⟨h1, h2, h3⟩
  rcases h with h | h | h
  · rw [h1] at h; cases h
  · rw [h2] at h; cases h
  · exact h h3
theorem relH_yes {cs : List Int} {st : List Int × Bool} {a b : Int} (h1 : hldI cs a = true) (h2 : hldI cs b = true) (h3 : hL st.1 b > hL st.1 a + cstI cs b) : relH cs st a b = (st.1.set b.toNat (hL st.1 a + cstI cs b), true) := by
  unfold relH
  rw [if_pos]
  simp only [Bool.and_eq_true, decide_eq_true_eq]
  exact ⟨h1, h2, h3⟩
set_option maxRecDepth 10000 in
set_option maxHeartbeats 8000000 in
theorem heights_spec (W H : Int) (cs : List Int) (hl : cs.length ≤ 300) :
    Spec Try.prog 31 [chR W H cs.length] [⟨0, .ro 0, cs.map C.i⟩] 1 (fun v L' _ => intsE (htsO W H cs) (htsE W H cs) v L') := by
  have hlm : (cs.map C.i).length = cs.length := by simp
  refine Spec.of tok Try.func31 rfl rfl rfl fun n0 cx => vc_ok tok ?_
  cases hv : okC W H cs with
  | false =>
    have e1 : htsO W H cs = [] := by unfold htsO; rw [hv]; rfl
    have e2 : htsE W H cs = 30 := by unfold htsE; rw [hv]; rfl
    rw [e1, e2]
    repeat ((conv => whnf); first | (refine And.intro (by first | omega | exact Nat.le_of_ble_eq_true rfl | (dsimp only [inK]; omega) | (simp only [mulS_eq]; omega) | (simp only [mulS_eq, setL_length]; omega) | (simp only [setL_length, List.length_map]; omega) | exact ⟨by omega, by omega, by first | exact Nat.le_of_ble_eq_true rfl | (dsimp only; omega) | (simp only [setL_length]; omega) | (simp only [setL_length, List.length_map]; omega)⟩ | exact ⟨by omega, by first | rfl | omega, by omega, Nat.le_of_ble_eq_true rfl, Nat.le_of_ble_eq_true rfl⟩ | exact ⟨rfl, rfl, rfl, Nat.le_of_ble_eq_true rfl, by first | rfl | omega | exact Nat.le_of_ble_eq_true rfl | (dsimp only; omega) | (simp; done) | (simp; omega), by first | rfl | omega | exact Nat.le_of_ble_eq_true rfl | (dsimp only; omega) | (simp; done) | (simp; omega), by omega, Nat.le_of_ble_eq_true rfl⟩ | exact Eq.refl true) ?_) | (refine Exists.intro _ (And.intro rfl ?_)) | (refine And.intro (And.intro rfl (chk_rowI _ _ _ _)) ?_) | (refine br_t (by omega) ?_) | (refine br_f (by omega) ?_) | (refine bs_t (by omega) ?_) | (refine bs_f (by omega) ?_) | (refine fun (K' : K3) hK' => ?_) | (refine hK' _ _ _ ?_; clear hK' K') | (refine draw_auto tok mixed (by kernel_rfl) ?_) | (refine CallK.newNo (a := 0) (bs := []) (R := [(1, none)]) 30 hl (by simp) (.inl ⟨hv, rfl⟩) rfl rfl (roNil rfl) ?_) | (refine bs_bt (Eq.refl true) ?_) | (refine bs_bf (Eq.refl false) ?_) | (refine br_bt (Eq.refl true) ?_) | (refine br_bf (Eq.refl false) ?_) | (refine CallK.m ?_) | (refine And.intro (And.intro rfl rfl) ?_))
    exact .inl ⟨rfl, rfl⟩
  | true =>
    have hok := okC_iff.1 hv
    have e1 : htsO W H cs = hts W H cs := by unfold htsO; rw [hv]; rfl
    have e2 : htsE W H cs = 0 := by unfold htsE; rw [hv]; rfl
    rw [e1, e2]
    have hW := hok.w
    have hH := hok.h
    have hcn := hok.len
    have hn : (cs.length : Int) ≤ 100 := by have := Int.mul_le_mul hW.2 hH.2 (by omega) (by omega : (0:Int) ≤ 10); omega
    have hcb := cst_bd hok.cost
    have hcp : ∀ i, 0 ≤ cstI cs i := fun i => (hcb i).1
    repeat ((conv => whnf); first | (refine And.intro (by first | omega | exact Nat.le_of_ble_eq_true rfl | (dsimp only [inK]; omega) | (simp only [mulS_eq]; omega) | (simp only [mulS_eq, setL_length]; omega) | (simp only [setL_length, List.length_map]; omega) | exact ⟨by omega, by omega, by first | exact Nat.le_of_ble_eq_true rfl | (dsimp only; omega) | (simp only [setL_length]; omega) | (simp only [setL_length, List.length_map]; omega)⟩ | exact ⟨by omega, by first | rfl | omega, by omega, Nat.le_of_ble_eq_true rfl, Nat.le_of_ble_eq_true rfl⟩ | exact ⟨rfl, rfl, rfl, Nat.le_of_ble_eq_true rfl, by first | rfl | omega | exact Nat.le_of_ble_eq_true rfl | (dsimp only; omega) | (simp; done) | (simp; omega), by first | rfl | omega | exact Nat.le_of_ble_eq_true rfl | (dsimp only; omega) | (simp; done) | (simp; omega), by omega, Nat.le_of_ble_eq_true rfl⟩ | exact Eq.refl true) ?_) | (refine Exists.intro _ (And.intro rfl ?_)) | (refine And.intro (And.intro rfl (chk_rowI _ _ _ _)) ?_) | (refine br_t (by omega) ?_) | (refine br_f (by omega) ?_) | (refine bs_t (by omega) ?_) | (refine bs_f (by omega) ?_) | (refine fun (K' : K3) hK' => ?_) | (refine hK' _ _ _ ?_; clear hK' K') | (refine draw_auto tok mixed (by kernel_rfl) ?_) | (refine CallK.newOk (a := 0) (bs := []) (R := [(1, none)]) hl (by simp) hv (okB_nil _ _ _) rfl rfl (by omega) (roNil rfl) ?_) | (refine bs_bt (Eq.refl true) ?_) | (refine bs_bf (Eq.refl false) ?_) | (refine br_bt (Eq.refl true) ?_) | (refine br_bf (Eq.refl false) ?_) | (refine CallK.m ?_) | (refine And.intro (And.intro rfl rfl) ?_))
    refine Tri.loop (γ := Nat) (fun k => k ≤ cs.length) (fun k => [(1, V.c (.ptr 2 0)), (4, V.c (.ptr 3 0)), (6, V.c (.ptr 5 0)), (24, V.i cs.length), (25, V.i (k : Nat))])
      (fun k => [⟨5, .own 22, [.sl 4 cs.length]⟩, ⟨4, .vec 3 1, (h0L W cs k).map C.i⟩, ⟨3, .own 65, [C.i W, C.i H, .sl 0 cs.length, .mp 1]⟩, ⟨0, .ro 0, cs.map C.i⟩]) 6 (fun k => cs.length - k) 0 (R0 := [(1, some 2), (2, some 1)]) ?_ ?_ ?_
    · omega
    · skip
      refine ⟨?_, ?_, rfl, rfl, by first | exact Nat.le_of_ble_eq_true rfl | exact Nat.le_refl _ | omega⟩
      · repeat (first | exact trivial | refine And.intro (covS_syn (by first | rfl) rfl (by first | exact trivial | exact Nat.le_of_ble_eq_true rfl | exact hy | exact (fun p hp => nomatch hp) | (show (_ : Nat) < _; omega))) ?_ | refine And.intro (covS_bool rfl rfl (by first | rfl)) ?_)
      · repeat (first | exact trivial | (refine And.intro (covE_some (l := 4) rfl (Nat.le_of_ble_eq_true rfl) (wf_ints _ _) rfl ((ren_ints _ _).trans (congrArg some h0L_z.symm))) ?_) | refine And.intro (covE_nil rfl (Nat.le_of_ble_eq_true rfl) rfl rfl) ?_ | refine And.intro (covE_some rfl (Nat.le_of_ble_eq_true rfl) (by first | exact wf_ints _ _ | exact wf_bools _ _ | first | exact wf_cells _ _ | exact wf_zc _ | simp [C.wf]) rfl (by first | exact ren_ints _ _ | exact ren_bools _ _ | exact ren_shares _ _ | rfl)) ?_)
    · intro k hk
      refine vc_ok tok ?_
      by_cases hlt : k < cs.length
      · have hhl : hldI cs (k : Int) = decide (cs.getD k 0 ≠ 0) := by simp [hldI]
        have hr := row_spec W H cs.length (k : Int) 0 (by omega) (by omega) (by omega)
        have hh := holds_spec W H cs k hlt
        have hc := cost_spec W H cs k hlt
        have hck : cstI cs (k : Int) = if cs.getD k 0 > 0 then cs.getD k 0 else 0 := by simp [cstI]
        have hh0 : h0I W cs (k : Int) = if hldI cs (k : Int) = false then 0 else if (k : Int) / W = 0 then cstI cs (k : Int) else 1000000 := rfl
        have hrl := h0L_len W cs k
        rw [← hck] at hc
        obtain ⟨ck, hcke⟩ : ∃ x, x = cs.getD k 0 := ⟨_, rfl⟩
        rw [← hcke] at hh hhl
        obtain ⟨cc, hcc⟩ : ∃ cc, cc = cstI cs (k : Int) := ⟨_, rfl⟩
        rw [← hcc] at hc hh0
        by_cases h1 : ck ≠ 0
        · rw [hhl, dd_t h1, if_neg (by simp)] at hh0
          by_cases h2 : (k : Int) / W = 0
          · have hst : setL ((h0L W cs k).map C.i) (mulS ((k : Nat) : Int).toNat 1) [C.i cc] = (h0L W cs (k + 1)).map C.i := by
              rw [setL_int rfl, ← h0L_put hlt, hh0, if_pos h2]
            repeat ((conv => whnf); first | (refine And.intro (by first | omega | exact Nat.le_of_ble_eq_true rfl | (dsimp only [inK]; omega) | (simp only [mulS_eq]; omega) | (simp only [mulS_eq, setL_length]; omega) | (simp only [setL_length, List.length_map]; omega) | exact ⟨by omega, by omega, by first | exact Nat.le_of_ble_eq_true rfl | (dsimp only; omega) | (simp only [setL_length]; omega) | (simp only [setL_length, List.length_map]; omega)⟩ | exact ⟨by omega, by first | rfl | omega, by omega, Nat.le_of_ble_eq_true rfl, Nat.le_of_ble_eq_true rfl⟩ | exact ⟨rfl, rfl, rfl, Nat.le_of_ble_eq_true rfl, by first | rfl | omega | exact Nat.le_of_ble_eq_true rfl | (dsimp only; omega) | (simp; done) | (simp; omega), by first | rfl | omega | exact Nat.le_of_ble_eq_true rfl | (dsimp only; omega) | (simp; done) | (simp; omega), by omega, Nat.le_of_ble_eq_true rfl⟩ | exact Eq.refl true) ?_) | (refine Exists.intro _ (And.intro rfl ?_)) | (refine And.intro (And.intro rfl (chk_rowI _ _ _ _)) ?_) | (refine br_t (by omega) ?_) | (refine br_f (by omega) ?_) | (refine bs_t (by omega) ?_) | (refine bs_f (by omega) ?_) | (refine fun (K' : K3) hK' => ?_) | (refine hK' _ _ _ ?_; clear hK' K') | (refine draw_auto tok mixed (by kernel_rfl) ?_) | (refine CallK.val (R := []) hh (by kernel_rfl) rfl (by simp [V.wf, A.wf, C.wf]) ⟨roE_ints (l := 0) rfl (by omega) rfl (.inl rfl), trivial⟩ rfl rfl trivial ?_) | (refine bs_bf (congrArg Bool.not (dd_t h1)) ?_) | (refine br_bf (congrArg Bool.not (dd_t h1)) ?_) | (refine CallK.val (R := []) hr (by kernel_rfl) rfl (by simp [V.wf, A.wf, C.wf]) trivial rfl rfl trivial ?_) | (refine bs_t h2 ?_) | (refine br_t h2 ?_) | (refine And.intro (by refine ⟨by omega, by omega, ?_⟩; (try dsimp only); simp only [List.length_map]; omega) ?_) | (refine HD_mk (fun _ h => CallK.val (R := []) hc (by kernel_rfl) rfl (by simp [V.wf, A.wf, C.wf]) ⟨roE_ints (l := 0) rfl (by omega) rfl (.inl rfl), trivial⟩ rfl rfl trivial h) ?_) | (refine And.intro (by (try dsimp only); rw [mulS_eq]; simp only [List.length_map, Int.toNat_natCast]; omega) ?_) | (refine bs_bt (Eq.refl true) ?_) | (refine bs_bf (Eq.refl false) ?_) | (refine br_bt (Eq.refl true) ?_) | (refine br_bf (Eq.refl false) ?_) | (refine CallK.m ?_) | (refine And.intro (And.intro rfl rfl) ?_))
            refine ⟨k + 1, [], by omega, by omega, ?_⟩
            refine ⟨?_, ?_, rfl, rfl, by first | exact Nat.le_of_ble_eq_true rfl | exact Nat.le_refl _ | omega⟩
            · repeat (first | exact trivial | refine And.intro (covS_syn (by first | rfl | (refine congrArg some (congrArg V.i ?_); omega)) rfl (by first | exact trivial | exact Nat.le_of_ble_eq_true rfl | exact hy | exact (fun p hp => nomatch hp) | (show (_ : Nat) < _; omega))) ?_ | refine And.intro (covS_bool rfl rfl (by first | rfl)) ?_)
            · repeat (first | exact trivial | refine And.intro (covE_id (Nat.le_of_ble_eq_true rfl) (by first | exact wf_ints _ _ | exact wf_bools _ _ | first | exact wf_cells _ _ | exact wf_zc _ | simp [C.wf]) rfl (by first | rfl | (exact hst))) ?_)
          · have hst : setL ((h0L W cs k).map C.i) (mulS ((k : Nat) : Int).toNat 1) [C.i 1000000] = (h0L W cs (k + 1)).map C.i := by
              rw [setL_int rfl, ← h0L_put hlt, hh0, if_neg h2]
            repeat ((conv => whnf); first | (refine And.intro (by first | omega | exact Nat.le_of_ble_eq_true rfl | (dsimp only [inK]; omega) | (simp only [mulS_eq]; omega) | (simp only [mulS_eq, setL_length]; omega) | (simp only [setL_length, List.length_map]; omega) | exact ⟨by omega, by omega, by first | exact Nat.le_of_ble_eq_true rfl | (dsimp only; omega) | (simp only [setL_length]; omega) | (simp only [setL_length, List.length_map]; omega)⟩ | exact ⟨by omega, by first | rfl | omega, by omega, Nat.le_of_ble_eq_true rfl, Nat.le_of_ble_eq_true rfl⟩ | exact ⟨rfl, rfl, rfl, Nat.le_of_ble_eq_true rfl, by first | rfl | omega | exact Nat.le_of_ble_eq_true rfl | (dsimp only; omega) | (simp; done) | (simp; omega), by first | rfl | omega | exact Nat.le_of_ble_eq_true rfl | (dsimp only; omega) | (simp; done) | (simp; omega), by omega, Nat.le_of_ble_eq_true rfl⟩ | exact Eq.refl true) ?_) | (refine Exists.intro _ (And.intro rfl ?_)) | (refine And.intro (And.intro rfl (chk_rowI _ _ _ _)) ?_) | (refine br_t (by omega) ?_) | (refine br_f (by omega) ?_) | (refine bs_t (by omega) ?_) | (refine bs_f (by omega) ?_) | (refine fun (K' : K3) hK' => ?_) | (refine hK' _ _ _ ?_; clear hK' K') | (refine draw_auto tok mixed (by kernel_rfl) ?_) | (refine CallK.val (R := []) hh (by kernel_rfl) rfl (by simp [V.wf, A.wf, C.wf]) ⟨roE_ints (l := 0) rfl (by omega) rfl (.inl rfl), trivial⟩ rfl rfl trivial ?_) | (refine bs_bf (congrArg Bool.not (dd_t h1)) ?_) | (refine br_bf (congrArg Bool.not (dd_t h1)) ?_) | (refine CallK.val (R := []) hr (by kernel_rfl) rfl (by simp [V.wf, A.wf, C.wf]) trivial rfl rfl trivial ?_) | (refine bs_f h2 ?_) | (refine br_f h2 ?_) | (refine And.intro (by refine ⟨by omega, by omega, ?_⟩; (try dsimp only); simp only [List.length_map]; omega) ?_) | (refine And.intro (by (try dsimp only); rw [mulS_eq]; simp only [List.length_map, Int.toNat_natCast]; omega) ?_) | (refine bs_bt (Eq.refl true) ?_) | (refine bs_bf (Eq.refl false) ?_) | (refine br_bt (Eq.refl true) ?_) | (refine br_bf (Eq.refl false) ?_) | (refine CallK.m ?_) | (refine And.intro (And.intro rfl rfl) ?_))
            refine ⟨k + 1, [], by omega, by omega, ?_⟩
            refine ⟨?_, ?_, rfl, rfl, by first | exact Nat.le_of_ble_eq_true rfl | exact Nat.le_refl _ | omega⟩
            · repeat (first | exact trivial | refine And.intro (covS_syn (by first | rfl | (refine congrArg some (congrArg V.i ?_); omega)) rfl (by first | exact trivial | exact Nat.le_of_ble_eq_true rfl | exact hy | exact (fun p hp => nomatch hp) | (show (_ : Nat) < _; omega))) ?_ | refine And.intro (covS_bool rfl rfl (by first | rfl)) ?_)
            · repeat (first | exact trivial | refine And.intro (covE_id (Nat.le_of_ble_eq_true rfl) (by first | exact wf_ints _ _ | exact wf_bools _ _ | first | exact wf_cells _ _ | exact wf_zc _ | simp [C.wf]) rfl (by first | rfl | (exact hst))) ?_)
        · have hz : h0I W cs (k : Int) = 0 := by rw [hh0, hhl, dd_f h1, if_pos rfl]
          repeat ((conv => whnf); first | (refine And.intro (by first | omega | exact Nat.le_of_ble_eq_true rfl | (dsimp only [inK]; omega) | (simp only [mulS_eq]; omega) | (simp only [mulS_eq, setL_length]; omega) | (simp only [setL_length, List.length_map]; omega) | exact ⟨by omega, by omega, by first | exact Nat.le_of_ble_eq_true rfl | (dsimp only; omega) | (simp only [setL_length]; omega) | (simp only [setL_length, List.length_map]; omega)⟩ | exact ⟨by omega, by first | rfl | omega, by omega, Nat.le_of_ble_eq_true rfl, Nat.le_of_ble_eq_true rfl⟩ | exact ⟨rfl, rfl, rfl, Nat.le_of_ble_eq_true rfl, by first | rfl | omega | exact Nat.le_of_ble_eq_true rfl | (dsimp only; omega) | (simp; done) | (simp; omega), by first | rfl | omega | exact Nat.le_of_ble_eq_true rfl | (dsimp only; omega) | (simp; done) | (simp; omega), by omega, Nat.le_of_ble_eq_true rfl⟩ | exact Eq.refl true) ?_) | (refine Exists.intro _ (And.intro rfl ?_)) | (refine And.intro (And.intro rfl (chk_rowI _ _ _ _)) ?_) | (refine br_t (by omega) ?_) | (refine br_f (by omega) ?_) | (refine bs_t (by omega) ?_) | (refine bs_f (by omega) ?_) | (refine fun (K' : K3) hK' => ?_) | (refine hK' _ _ _ ?_; clear hK' K') | (refine draw_auto tok mixed (by kernel_rfl) ?_) | (refine CallK.val (R := []) hh (by kernel_rfl) rfl (by simp [V.wf, A.wf, C.wf]) ⟨roE_ints (l := 0) rfl (by omega) rfl (.inl rfl), trivial⟩ rfl rfl trivial ?_) | (refine bs_bt (congrArg Bool.not (dd_f h1)) ?_) | (refine br_bt (congrArg Bool.not (dd_f h1)) ?_) | (refine bs_bt (Eq.refl true) ?_) | (refine bs_bf (Eq.refl false) ?_) | (refine br_bt (Eq.refl true) ?_) | (refine br_bf (Eq.refl false) ?_) | (refine CallK.m ?_) | (refine And.intro (And.intro rfl rfl) ?_))
          refine ⟨k + 1, [], by omega, by omega, ?_⟩
          refine ⟨?_, ?_, rfl, rfl, by first | exact Nat.le_of_ble_eq_true rfl | exact Nat.le_refl _ | omega⟩
          · repeat (first | exact trivial | refine And.intro (covS_syn (by first | rfl | (refine congrArg some (congrArg V.i ?_); omega)) rfl (by first | exact trivial | exact Nat.le_of_ble_eq_true rfl | exact hy | exact (fun p hp => nomatch hp) | (show (_ : Nat) < _; omega))) ?_ | refine And.intro (covS_bool rfl rfl (by first | rfl)) ?_)
          · repeat (first | exact trivial | refine And.intro (covE_id (Nat.le_of_ble_eq_true rfl) (by first | exact wf_ints _ _ | exact wf_bools _ _ | first | exact wf_cells _ _ | exact wf_zc _ | simp [C.wf]) rfl (by first | rfl | (rw [h0L_keep hlt hz]))) ?_)
      · have hkn : k = cs.length := by omega
        subst hkn
        repeat ((conv => whnf); first | (refine And.intro (by first | omega | exact Nat.le_of_ble_eq_true rfl | (dsimp only [inK]; omega) | (simp only [mulS_eq]; omega) | (simp only [mulS_eq, setL_length]; omega) | (simp only [setL_length, List.length_map]; omega) | exact ⟨by omega, by omega, by first | exact Nat.le_of_ble_eq_true rfl | (dsimp only; omega) | (simp only [setL_length]; omega) | (simp only [setL_length, List.length_map]; omega)⟩ | exact ⟨by omega, by first | rfl | omega, by omega, Nat.le_of_ble_eq_true rfl, Nat.le_of_ble_eq_true rfl⟩ | exact ⟨rfl, rfl, rfl, Nat.le_of_ble_eq_true rfl, by first | rfl | omega | exact Nat.le_of_ble_eq_true rfl | (dsimp only; omega) | (simp; done) | (simp; omega), by first | rfl | omega | exact Nat.le_of_ble_eq_true rfl | (dsimp only; omega) | (simp; done) | (simp; omega), by omega, Nat.le_of_ble_eq_true rfl⟩ | exact Eq.refl true) ?_) | (refine Exists.intro _ (And.intro rfl ?_)) | (refine And.intro (And.intro rfl (chk_rowI _ _ _ _)) ?_) | (refine br_t (by omega) ?_) | (refine br_f (by omega) ?_) | (refine bs_t (by omega) ?_) | (refine bs_f (by omega) ?_) | (refine fun (K' : K3) hK' => ?_) | (refine hK' _ _ _ ?_; clear hK' K') | (refine draw_auto tok mixed (by kernel_rfl) ?_) | (refine bs_bt (Eq.refl true) ?_) | (refine bs_bf (Eq.refl false) ?_) | (refine br_bt (Eq.refl true) ?_) | (refine br_bf (Eq.refl false) ?_) | (refine CallK.m ?_) | (refine And.intro (And.intro rfl rfl) ?_))
        refine Tri.loop (γ := List Int × Bool) (fun g => HSt W H cs g.1 ∧ (g.2 = false → Great W H cs g.1)) (fun g => [(1, V.c (.ptr 2 0)), (4, V.c (.ptr 3 0)), (6, V.c (.ptr 5 0)), (8, V.c (.ptr 6 0))])
          (fun g => [⟨6, .own 4, [.bool g.2]⟩, ⟨5, .own 22, [.sl 4 cs.length]⟩, ⟨4, .vec 3 1, g.1.map C.i⟩, ⟨3, .own 65, [C.i W, C.i H, .sl 0 cs.length, .mp 1]⟩, ⟨0, .ro 0, cs.map C.i⟩]) 12 (fun g => (sumH g.1).toNat + (if g.2 then 1 else 0)) (h0L W cs cs.length, true) (R0 := []) ?_ ?_ ?_
        · exact ⟨h0_st hcp, fun h => by cases h⟩
        · skip
          refine ⟨?_, ?_, rfl, rfl, by first | exact Nat.le_of_ble_eq_true rfl | exact Nat.le_refl _ | omega⟩
          · repeat (first | exact trivial | refine And.intro (covS_syn (by first | rfl) rfl (by first | exact trivial | exact Nat.le_of_ble_eq_true rfl | exact hy | exact (fun p hp => nomatch hp) | (show (_ : Nat) < _; omega))) ?_ | refine And.intro (covS_bool rfl rfl (by first | rfl)) ?_)
          · repeat (first | exact trivial | (refine And.intro (covE_b1 (Nat.le_of_ble_eq_true rfl) rfl rfl rfl) ?_) | refine And.intro (covE_id (Nat.le_of_ble_eq_true rfl) (by first | exact wf_ints _ _ | exact wf_bools _ _ | first | exact wf_cells _ _ | exact wf_zc _ | simp [C.wf]) rfl (by first | rfl)) ?_)
        · rintro ⟨hs, b⟩ ⟨hst, hgr⟩
          simp only at hst hgr ⊢
          refine vc_ok tok ?_
          cases b with
          | false =>
            have hg := (hgr rfl).hts
            have hgl := hst.len
            repeat ((conv => whnf); first | (refine And.intro (by first | omega | exact Nat.le_of_ble_eq_true rfl | (dsimp only [inK]; omega) | (simp only [mulS_eq]; omega) | (simp only [mulS_eq, setL_length]; omega) | (simp only [setL_length, List.length_map]; omega) | exact ⟨by omega, by omega, by first | exact Nat.le_of_ble_eq_true rfl | (dsimp only; omega) | (simp only [setL_length]; omega) | (simp only [setL_length, List.length_map]; omega)⟩ | exact ⟨by omega, by first | rfl | omega, by omega, Nat.le_of_ble_eq_true rfl, Nat.le_of_ble_eq_true rfl⟩ | exact ⟨rfl, rfl, rfl, Nat.le_of_ble_eq_true rfl, by first | rfl | omega | exact Nat.le_of_ble_eq_true rfl | (dsimp only; omega) | (simp; done) | (simp; omega), by first | rfl | omega | exact Nat.le_of_ble_eq_true rfl | (dsimp only; omega) | (simp; done) | (simp; omega), by omega, Nat.le_of_ble_eq_true rfl⟩ | exact Eq.refl true) ?_) | (refine Exists.intro _ (And.intro rfl ?_)) | (refine And.intro (And.intro rfl (chk_rowI _ _ _ _)) ?_) | (refine br_t (by omega) ?_) | (refine br_f (by omega) ?_) | (refine bs_t (by omega) ?_) | (refine bs_f (by omega) ?_) | (refine fun (K' : K3) hK' => ?_) | (refine hK' _ _ _ ?_; clear hK' K') | (refine draw_auto tok mixed (by kernel_rfl) ?_) | (refine bs_bt (Eq.refl true) ?_) | (refine bs_bf (Eq.refl false) ?_) | (refine br_bt (Eq.refl true) ?_) | (refine br_bf (Eq.refl false) ?_) | (refine CallK.m ?_) | (refine And.intro (And.intro rfl rfl) ?_))
            rw [hg]
            exact .inr ⟨4, by rw [hgl], rfl⟩
          | true =>
            obtain ⟨ps, hps⟩ : ∃ ps : Nat → List Int × Bool, ps = fun j => passH cs (edP W H j) (hs, false) := ⟨_, rfl⟩
            have hps0 : ps 0 = (hs, false) := by rw [hps]; rfl
            have hpss : ∀ j, ps (j + 1) = (nearL W H true (j : Int)).foldl (fun st k => relH cs st (j : Int) k) (ps j) := fun j => by rw [hps]; exact passH_succ W H cs _ j
            have hpsg : ∀ j, j ≤ cs.length → HGo W H cs (hs, false) (ps j) := fun j hj => by rw [hps]; exact passH_go hcp _ (edP_ok hok hj)
            have hpse : (ps cs.length).2 = false → ps cs.length = (hs, false) ∧ Great W H cs hs := fun h => by
              rw [hps] at h ⊢
              obtain ⟨q1, q2⟩ := passH_ok hcp (edP_ok hok (Nat.le_refl _)) h
              exact ⟨q1, hst.great (edP_all q2)⟩
            clear hps hgr
            repeat ((conv => whnf); first | (refine And.intro (by first | omega | exact Nat.le_of_ble_eq_true rfl | (dsimp only [inK]; omega) | (simp only [mulS_eq]; omega) | (simp only [mulS_eq, setL_length]; omega) | (simp only [setL_length, List.length_map]; omega) | exact ⟨by omega, by omega, by first | exact Nat.le_of_ble_eq_true rfl | (dsimp only; omega) | (simp only [setL_length]; omega) | (simp only [setL_length, List.length_map]; omega)⟩ | exact ⟨by omega, by first | rfl | omega, by omega, Nat.le_of_ble_eq_true rfl, Nat.le_of_ble_eq_true rfl⟩ | exact ⟨rfl, rfl, rfl, Nat.le_of_ble_eq_true rfl, by first | rfl | omega | exact Nat.le_of_ble_eq_true rfl | (dsimp only; omega) | (simp; done) | (simp; omega), by first | rfl | omega | exact Nat.le_of_ble_eq_true rfl | (dsimp only; omega) | (simp; done) | (simp; omega), by omega, Nat.le_of_ble_eq_true rfl⟩ | exact Eq.refl true) ?_) | (refine Exists.intro _ (And.intro rfl ?_)) | (refine And.intro (And.intro rfl (chk_rowI _ _ _ _)) ?_) | (refine br_t (by omega) ?_) | (refine br_f (by omega) ?_) | (refine bs_t (by omega) ?_) | (refine bs_f (by omega) ?_) | (refine fun (K' : K3) hK' => ?_) | (refine hK' _ _ _ ?_; clear hK' K') | (refine draw_auto tok mixed (by kernel_rfl) ?_) | (refine bs_bt (Eq.refl true) ?_) | (refine bs_bf (Eq.refl false) ?_) | (refine br_bt (Eq.refl true) ?_) | (refine br_bf (Eq.refl false) ?_) | (refine CallK.m ?_) | (refine And.intro (And.intro rfl rfl) ?_))
            refine Tri.loop (γ := Nat) (fun j => j ≤ cs.length) (fun j => [(1, V.c (.ptr 2 0)), (4, V.c (.ptr 3 0)), (6, V.c (.ptr 5 0)), (8, V.c (.ptr 6 0)), (49, V.i cs.length), (50, V.i (j : Nat))])
              (fun j => [⟨6, .own 4, [.bool (ps j).2]⟩, ⟨5, .own 22, [.sl 4 cs.length]⟩, ⟨4, .vec 3 1, (ps j).1.map C.i⟩, ⟨3, .own 65, [C.i W, C.i H, .sl 0 cs.length, .mp 1]⟩, ⟨0, .ro 0, cs.map C.i⟩]) 12 (fun j => cs.length - j) 0 (R0 := []) ?_ ?_ ?_
            · omega
            · skip
              refine ⟨?_, ?_, rfl, rfl, by first | exact Nat.le_of_ble_eq_true rfl | exact Nat.le_refl _ | omega⟩
              · repeat (first | exact trivial | refine And.intro (covS_syn (by first | rfl) rfl (by first | exact trivial | exact Nat.le_of_ble_eq_true rfl | exact hy | exact (fun p hp => nomatch hp) | (show (_ : Nat) < _; omega))) ?_ | refine And.intro (covS_bool rfl rfl (by first | rfl)) ?_)
              · repeat (first | exact trivial | (refine And.intro (covE_b1 (Nat.le_of_ble_eq_true rfl) rfl rfl (congrArg Prod.snd hps0).symm) ?_) | refine And.intro (covE_id (Nat.le_of_ble_eq_true rfl) (by first | exact wf_ints _ _ | exact wf_bools _ _ | first | exact wf_cells _ _ | exact wf_zc _ | simp [C.wf]) rfl (by first | rfl | (exact congrArg (fun x : List Int × Bool => x.1.map C.i) hps0.symm))) ?_)
            · intro j hj
              refine vc_ok tok ?_
              by_cases hlt : j < cs.length
              · obtain ⟨fs, hfs⟩ : ∃ fs : List Int → List Int × Bool, fs = fun pre => pre.foldl (fun st k => relH cs st (j : Int) k) (ps j) := ⟨_, rfl⟩
                have hfs0 : fs [] = ps j := by rw [hfs]; rfl
                have hfss : ∀ pre k, fs (pre ++ [k]) = relH cs (fs pre) (j : Int) k := fun pre k => by rw [hfs]; simp
                have hfsn : fs (nearL W H true (j : Int)) = ps (j + 1) := by rw [hfs, hpss]
                have hsj := (hpsg j hj).ok hst
                have hhj := holds_spec W H cs j hlt
                have hhlj : hldI cs (j : Int) = decide (cs.getD j 0 ≠ 0) := by simp [hldI]
                rw [← hhlj] at hhj
                clear hpss hpse hfs hhlj
                repeat ((conv => whnf); first | (refine And.intro (by first | omega | exact Nat.le_of_ble_eq_true rfl | (dsimp only [inK]; omega) | (simp only [mulS_eq]; omega) | (simp only [mulS_eq, setL_length]; omega) | (simp only [setL_length, List.length_map]; omega) | exact ⟨by omega, by omega, by first | exact Nat.le_of_ble_eq_true rfl | (dsimp only; omega) | (simp only [setL_length]; omega) | (simp only [setL_length, List.length_map]; omega)⟩ | exact ⟨by omega, by first | rfl | omega, by omega, Nat.le_of_ble_eq_true rfl, Nat.le_of_ble_eq_true rfl⟩ | exact ⟨rfl, rfl, rfl, Nat.le_of_ble_eq_true rfl, by first | rfl | omega | exact Nat.le_of_ble_eq_true rfl | (dsimp only; omega) | (simp; done) | (simp; omega), by first | rfl | omega | exact Nat.le_of_ble_eq_true rfl | (dsimp only; omega) | (simp; done) | (simp; omega), by omega, Nat.le_of_ble_eq_true rfl⟩ | exact Eq.refl true) ?_) | (refine Exists.intro _ (And.intro rfl ?_)) | (refine And.intro (And.intro rfl (chk_rowI _ _ _ _)) ?_) | (refine br_t (by omega) ?_) | (refine br_f (by omega) ?_) | (refine bs_t (by omega) ?_) | (refine bs_f (by omega) ?_) | (refine fun (K' : K3) hK' => ?_) | (refine hK' _ _ _ ?_; clear hK' K') | (refine draw_auto tok mixed (by kernel_rfl) ?_) | (refine CallK.fresh (by kernel_rfl) (near_spec _ _ _ _) rfl ?_) | (refine bs_bt (Eq.refl true) ?_) | (refine bs_bf (Eq.refl false) ?_) | (refine br_bt (Eq.refl true) ?_) | (refine br_bf (Eq.refl false) ?_) | (refine CallK.m ?_) | (refine And.intro (And.intro rfl rfl) ?_))
                refine Tri.opq fun K' hK' => ?_
                refine Tri.near (R0 := []) (W := W) (H := H) (n := cs.length) (i := (j : Int)) (e := true) (fun pre => HSt W H cs (fs pre).1)
                  (fun pre => [⟨12, .own 3, [C.i (j : Int)]⟩, ⟨6, .own 4, [.bool (fs pre).2]⟩, ⟨5, .own 22, [.sl 4 cs.length]⟩, ⟨4, .vec 3 1, (fs pre).1.map C.i⟩, ⟨3, .own 65, [C.i W, C.i H, .sl 0 cs.length, .mp 1]⟩, ⟨0, .ro 0, cs.map C.i⟩])
                  (by rw [hfs0]; exact hsj) (by omega) (by omega) (by omega) (by exact rfl) (by exact rfl) (by exact rfl) ?_ ?_ ?_
                · intro oo
                  refine ⟨?_, ?_, rfl, rfl, by first | exact Nat.le_of_ble_eq_true rfl | exact Nat.le_refl _ | omega⟩
                  · repeat (first | exact trivial | refine And.intro (covS_syn (by first | rfl) rfl (by first | exact trivial | exact Nat.le_of_ble_eq_true rfl | exact hy | exact (fun p hp => nomatch hp) | (show (_ : Nat) < _; omega))) ?_ | refine And.intro (covS_bool rfl rfl (by first | rfl)) ?_)
                  · repeat (first | exact trivial | (refine And.intro (covE_b1 (b := true) (Nat.le_of_ble_eq_true rfl) rfl rfl rfl) ?_) | (refine And.intro (covE_b1 (Nat.le_of_ble_eq_true rfl) rfl rfl (congrArg Prod.snd hfs0).symm) ?_) | refine And.intro (covE_id (Nat.le_of_ble_eq_true rfl) (by first | exact wf_ints _ _ | exact wf_bools _ _ | first | exact wf_cells _ _ | exact wf_zc _ | simp [C.wf]) rfl (by first | rfl | (exact congrArg (fun x : List Int × Bool => x.1.map C.i) hfs0.symm))) ?_)
                · intro oo ob od pre post kk hsp hk0 hk1 hI cxb hcx
                  have hstep := hfss pre kk
                  have hnk : kk ∈ nearL W H true (j : Int) := by rw [hsp]; simp
                  obtain ⟨k, rfl⟩ : ∃ k : Nat, kk = k := ⟨kk.toNat, by omega⟩
                  have hkl : k < cs.length := by omega
                  have hgo := (relH_go (W := W) (H := H) hcp (a := (j : Int)) (b := (k : Int)) (by omega) (by omega) hnk (fs pre)).ok hI
                  rw [← hstep] at hgo
                  have hhk := holds_spec W H cs k hkl
                  have hhlk : hldI cs (k : Int) = decide (cs.getD k 0 ≠ 0) := by simp [hldI]
                  rw [← hhlk] at hhk
                  have hc := cost_spec W H cs k hkl
                  have hck : cstI cs (k : Int) = if cs.getD k 0 > 0 then cs.getD k 0 else 0 := by simp [cstI]
                  have hcn := hcb (k : Int)
                  rw [← hck] at hc
                  have hfl := hI.len
                  have hpj := hI.pos j (by omega) (by omega)
                  have hpk := hI.pos k (by omega) (by omega)
                  have hbj := hI.le j (by omega) (by omega)
                  have hb0 : ∀ i, h0I W cs i ≤ 1000000 := fun i => by unfold h0I; have := hcb i; split; omega; split <;> omega
                  have hb0j := hb0 j
                  have hldj := intL (l := (fs pre).1) (k := j) (by omega)
                  have hldk := intL (l := (fs pre).1) (k := k) (by omega)
                  have hej : (fs pre).1.getD j 0 = hL (fs pre).1 (j : Int) := by unfold hL; rw [Int.toNat_natCast]
                  have hek : (fs pre).1.getD k 0 = hL (fs pre).1 (k : Int) := by unfold hL; rw [Int.toNat_natCast]
                  rw [hej] at hldj
                  rw [hek] at hldk
                  have hno := relH_no (cs := cs) (st := fs pre) (a := (j : Int)) (b := (k : Int))
                  have hyes := relH_yes (cs := cs) (st := fs pre) (a := (j : Int)) (b := (k : Int))
                  rw [← hstep] at hno hyes
                  obtain ⟨cc, hcc⟩ : ∃ cc, cc = cstI cs (k : Int) := ⟨_, rfl⟩
                  rw [← hcc] at hc hcn hno hyes
                  obtain ⟨xj, hxj⟩ : ∃ x, x = hL (fs pre).1 (j : Int) := ⟨_, rfl⟩
                  obtain ⟨xk, hxk⟩ : ∃ x, x = hL (fs pre).1 (k : Int) := ⟨_, rfl⟩
                  rw [← hxj] at hldj hpj hbj hno hyes
                  rw [← hxk] at hldk hpk hno hyes
                  obtain ⟨fn, hfn⟩ : ∃ fn, fn = fs (pre ++ [(k : Int)]) := ⟨_, rfl⟩
                  obtain ⟨fb, hfb⟩ : ∃ fb, fb = fs pre := ⟨_, rfl⟩
                  rw [← hfb, ← hfn] at hno hyes
                  rw [← hfb] at hldj hldk hfl
                  rw [← hfn] at hgo
                  rw [← hfb, ← hfn]
                  refine vc_ok tok ?_
                  repeat ((conv => whnf); first | (refine And.intro (by first | omega | exact Nat.le_of_ble_eq_true rfl | (dsimp only [inK]; omega) | (simp only [mulS_eq]; omega) | (simp only [mulS_eq, setL_length]; omega) | (simp only [setL_length, List.length_map]; omega) | exact ⟨by omega, by omega, by first | exact Nat.le_of_ble_eq_true rfl | (dsimp only; omega) | (simp only [setL_length]; omega) | (simp only [setL_length, List.length_map]; omega)⟩ | exact ⟨by omega, by first | rfl | omega, by omega, Nat.le_of_ble_eq_true rfl, Nat.le_of_ble_eq_true rfl⟩ | exact ⟨rfl, rfl, rfl, Nat.le_of_ble_eq_true rfl, by first | rfl | omega | exact Nat.le_of_ble_eq_true rfl | (dsimp only; omega) | (simp; done) | (simp; omega), by first | rfl | omega | exact Nat.le_of_ble_eq_true rfl | (dsimp only; omega) | (simp; done) | (simp; omega), by omega, Nat.le_of_ble_eq_true rfl⟩ | exact Eq.refl true) ?_) | (refine Exists.intro _ (And.intro rfl ?_)) | (refine And.intro (And.intro rfl (chk_rowI _ _ _ _)) ?_) | (refine br_t (by omega) ?_) | (refine br_f (by omega) ?_) | (refine bs_t (by omega) ?_) | (refine bs_f (by omega) ?_) | (refine fun (K' : K3) hK' => ?_) | (refine hK' _ _ _ ?_; clear hK' K') | (refine draw_auto tok mixed (by kernel_rfl) ?_) | (refine And.intro (Eq.refl oo) ?_) | (refine bs_bt (Eq.refl true) ?_) | (refine bs_bf (Eq.refl false) ?_) | (refine br_bt (Eq.refl true) ?_) | (refine br_bf (Eq.refl false) ?_) | (refine CallK.m ?_) | (refine And.intro (And.intro rfl rfl) ?_))
                  refine vc_ok tok ?_
                  cases h1 : hldI cs (j : Int) with
                  | false =>
                    have e := hno (.inl h1)
                    rw [h1] at hhj
                    repeat ((conv => whnf); first | (refine And.intro (by first | omega | exact Nat.le_of_ble_eq_true rfl | (dsimp only [inK]; omega) | (simp only [mulS_eq]; omega) | (simp only [mulS_eq, setL_length]; omega) | (simp only [setL_length, List.length_map]; omega) | exact ⟨by omega, by omega, by first | exact Nat.le_of_ble_eq_true rfl | (dsimp only; omega) | (simp only [setL_length]; omega) | (simp only [setL_length, List.length_map]; omega)⟩ | exact ⟨by omega, by first | rfl | omega, by omega, Nat.le_of_ble_eq_true rfl, Nat.le_of_ble_eq_true rfl⟩ | exact ⟨rfl, rfl, rfl, Nat.le_of_ble_eq_true rfl, by first | rfl | omega | exact Nat.le_of_ble_eq_true rfl | (dsimp only; omega) | (simp; done) | (simp; omega), by first | rfl | omega | exact Nat.le_of_ble_eq_true rfl | (dsimp only; omega) | (simp; done) | (simp; omega), by omega, Nat.le_of_ble_eq_true rfl⟩ | exact Eq.refl true) ?_) | (refine Exists.intro _ (And.intro rfl ?_)) | (refine And.intro (And.intro rfl (chk_rowI _ _ _ _)) ?_) | (refine br_t (by omega) ?_) | (refine br_f (by omega) ?_) | (refine bs_t (by omega) ?_) | (refine bs_f (by omega) ?_) | (refine fun (K' : K3) hK' => ?_) | (refine hK' _ _ _ ?_; clear hK' K') | (refine draw_auto tok mixed (by kernel_rfl) ?_) | (refine HD_mk (fun _ h => CallK.val (R := []) hhj (by kernel_rfl) rfl (by simp [V.wf, A.wf, C.wf]) ⟨roE_ints (l := 0) rfl (by omega) rfl (.inl rfl), trivial⟩ rfl rfl trivial h) ?_) | (refine And.intro (Eq.refl ob) ?_) | (refine bs_bt (Eq.refl true) ?_) | (refine bs_bf (Eq.refl false) ?_) | (refine br_bt (Eq.refl true) ?_) | (refine br_bf (Eq.refl false) ?_) | (refine CallK.m ?_) | (refine And.intro (And.intro rfl rfl) ?_))
                    refine .inl ⟨rfl, hgo, [], rfl, ?_⟩
                    refine ⟨?_, ?_, rfl, rfl, by first | exact Nat.le_of_ble_eq_true rfl | exact Nat.le_refl _ | omega⟩
                    · repeat (first | exact trivial | refine And.intro (covS_syn (by first | rfl) rfl (by first | exact trivial | exact Nat.le_of_ble_eq_true rfl | exact hy | exact (fun p hp => nomatch hp) | (show (_ : Nat) < _; omega))) ?_ | refine And.intro (covS_bool rfl rfl (by first | rfl)) ?_)
                    · repeat (first | exact trivial | (refine And.intro (covE_b1 (Nat.le_of_ble_eq_true rfl) rfl rfl (congrArg Prod.snd e).symm) ?_) | refine And.intro (covE_id (Nat.le_of_ble_eq_true rfl) (by first | exact wf_ints _ _ | exact wf_bools _ _ | first | exact wf_cells _ _ | exact wf_zc _ | simp [C.wf]) rfl (by first | rfl | (exact congrArg (fun x : List Int × Bool => x.1.map C.i) e.symm))) ?_)
                  | true =>
                    rw [h1] at hhj
                    cases h2 : hldI cs (k : Int) with
                    | false =>
                      have e := hno (.inr (.inl h2))
                      rw [h2] at hhk
                      repeat ((conv => whnf); first | (refine And.intro (by first | omega | exact Nat.le_of_ble_eq_true rfl | (dsimp only [inK]; omega) | (simp only [mulS_eq]; omega) | (simp only [mulS_eq, setL_length]; omega) | (simp only [setL_length, List.length_map]; omega) | exact ⟨by omega, by omega, by first | exact Nat.le_of_ble_eq_true rfl | (dsimp only; omega) | (simp only [setL_length]; omega) | (simp only [setL_length, List.length_map]; omega)⟩ | exact ⟨by omega, by first | rfl | omega, by omega, Nat.le_of_ble_eq_true rfl, Nat.le_of_ble_eq_true rfl⟩ | exact ⟨rfl, rfl, rfl, Nat.le_of_ble_eq_true rfl, by first | rfl | omega | exact Nat.le_of_ble_eq_true rfl | (dsimp only; omega) | (simp; done) | (simp; omega), by first | rfl | omega | exact Nat.le_of_ble_eq_true rfl | (dsimp only; omega) | (simp; done) | (simp; omega), by omega, Nat.le_of_ble_eq_true rfl⟩ | exact Eq.refl true) ?_) | (refine Exists.intro _ (And.intro rfl ?_)) | (refine And.intro (And.intro rfl (chk_rowI _ _ _ _)) ?_) | (refine br_t (by omega) ?_) | (refine br_f (by omega) ?_) | (refine bs_t (by omega) ?_) | (refine bs_f (by omega) ?_) | (refine fun (K' : K3) hK' => ?_) | (refine hK' _ _ _ ?_; clear hK' K') | (refine draw_auto tok mixed (by kernel_rfl) ?_) | (refine HD_mk (fun _ h => CallK.val (R := []) hhj (by kernel_rfl) rfl (by simp [V.wf, A.wf, C.wf]) ⟨roE_ints (l := 0) rfl (by omega) rfl (.inl rfl), trivial⟩ rfl rfl trivial h) ?_) | (refine HD_mk (fun _ h => CallK.val (R := []) hhk (by kernel_rfl) rfl (by simp [V.wf, A.wf, C.wf]) ⟨roE_ints (l := 0) rfl (by omega) rfl (.inl rfl), trivial⟩ rfl rfl trivial h) ?_) | (refine And.intro (Eq.refl ob) ?_) | (refine bs_bt (Eq.refl true) ?_) | (refine bs_bf (Eq.refl false) ?_) | (refine br_bt (Eq.refl true) ?_) | (refine br_bf (Eq.refl false) ?_) | (refine CallK.m ?_) | (refine And.intro (And.intro rfl rfl) ?_))
                      refine .inl ⟨rfl, hgo, [], rfl, ?_⟩
                      refine ⟨?_, ?_, rfl, rfl, by first | exact Nat.le_of_ble_eq_true rfl | exact Nat.le_refl _ | omega⟩
                      · repeat (first | exact trivial | refine And.intro (covS_syn (by first | rfl) rfl (by first | exact trivial | exact Nat.le_of_ble_eq_true rfl | exact hy | exact (fun p hp => nomatch hp) | (show (_ : Nat) < _; omega))) ?_ | refine And.intro (covS_bool rfl rfl (by first | rfl)) ?_)
                      · repeat (first | exact trivial | (refine And.intro (covE_b1 (Nat.le_of_ble_eq_true rfl) rfl rfl (congrArg Prod.snd e).symm) ?_) | refine And.intro (covE_id (Nat.le_of_ble_eq_true rfl) (by first | exact wf_ints _ _ | exact wf_bools _ _ | first | exact wf_cells _ _ | exact wf_zc _ | simp [C.wf]) rfl (by first | rfl | (exact congrArg (fun x : List Int × Bool => x.1.map C.i) e.symm))) ?_)
                    | true =>
                      rw [h2] at hhk
                      by_cases h3 : xk > xj + cc
                      · have e := hyes h1 h2 h3
                        have hcell : setL (fb.1.map C.i) (mulS ((k : Nat) : Int).toNat 1) [C.i (xj + cc)] = fn.1.map C.i := by rw [setL_int rfl, e, Int.toNat_natCast]
                        repeat ((conv => whnf); first | (refine And.intro (by first | omega | exact Nat.le_of_ble_eq_true rfl | (dsimp only [inK]; omega) | (simp only [mulS_eq]; omega) | (simp only [mulS_eq, setL_length]; omega) | (simp only [setL_length, List.length_map]; omega) | exact ⟨by omega, by omega, by first | exact Nat.le_of_ble_eq_true rfl | (dsimp only; omega) | (simp only [setL_length]; omega) | (simp only [setL_length, List.length_map]; omega)⟩ | exact ⟨by omega, by first | rfl | omega, by omega, Nat.le_of_ble_eq_true rfl, Nat.le_of_ble_eq_true rfl⟩ | exact ⟨rfl, rfl, rfl, Nat.le_of_ble_eq_true rfl, by first | rfl | omega | exact Nat.le_of_ble_eq_true rfl | (dsimp only; omega) | (simp; done) | (simp; omega), by first | rfl | omega | exact Nat.le_of_ble_eq_true rfl | (dsimp only; omega) | (simp; done) | (simp; omega), by omega, Nat.le_of_ble_eq_true rfl⟩ | exact Eq.refl true) ?_) | (with_reducible refine ld (hldj) ?_) | (with_reducible refine ld (hldk) ?_) | (refine Exists.intro _ (And.intro rfl ?_)) | (refine And.intro (And.intro rfl (chk_rowI _ _ _ _)) ?_) | (refine br_t (by omega) ?_) | (refine br_f (by omega) ?_) | (refine bs_t (by omega) ?_) | (refine bs_f (by omega) ?_) | (refine fun (K' : K3) hK' => ?_) | (refine hK' _ _ _ ?_; clear hK' K') | (refine draw_auto tok mixed (by kernel_rfl) ?_) | (refine And.intro (by refine ⟨by omega, by omega, ?_⟩; (try dsimp only); simp only [List.length_map]; omega) ?_) | (refine HD_mk (fun _ h => CallK.val (R := []) hhj (by kernel_rfl) rfl (by simp [V.wf, A.wf, C.wf]) ⟨roE_ints (l := 0) rfl (by omega) rfl (.inl rfl), trivial⟩ rfl rfl trivial h) ?_) | (refine HD_mk (fun _ h => CallK.val (R := []) hhk (by kernel_rfl) rfl (by simp [V.wf, A.wf, C.wf]) ⟨roE_ints (l := 0) rfl (by omega) rfl (.inl rfl), trivial⟩ rfl rfl trivial h) ?_) | (refine HD_mk (fun _ h => CallK.val (R := []) hc (by kernel_rfl) rfl (by simp [V.wf, A.wf, C.wf]) ⟨roE_ints (l := 0) rfl (by omega) rfl (.inl rfl), trivial⟩ rfl rfl trivial h) ?_) | (refine bs_t h3 ?_) | (refine br_t h3 ?_) | (refine And.intro (by (try dsimp only); rw [mulS_eq]; simp only [List.length_map, Int.toNat_natCast]; omega) ?_) | (refine And.intro (Eq.refl ob) ?_) | (refine bs_bt (Eq.refl true) ?_) | (refine bs_bf (Eq.refl false) ?_) | (refine br_bt (Eq.refl true) ?_) | (refine br_bf (Eq.refl false) ?_) | (refine CallK.m ?_) | (refine And.intro (And.intro rfl rfl) ?_))
                        refine .inl ⟨rfl, hgo, [], rfl, ?_⟩
                        refine ⟨?_, ?_, rfl, rfl, by first | exact Nat.le_of_ble_eq_true rfl | exact Nat.le_refl _ | omega⟩
                        · repeat (first | exact trivial | refine And.intro (covS_syn (by first | rfl) rfl (by first | exact trivial | exact Nat.le_of_ble_eq_true rfl | exact hy | exact (fun p hp => nomatch hp) | (show (_ : Nat) < _; omega))) ?_ | refine And.intro (covS_bool rfl rfl (by first | rfl)) ?_)
                        · repeat (first | exact trivial | (refine And.intro (covE_b1 (Nat.le_of_ble_eq_true rfl) rfl rfl (congrArg Prod.snd e).symm) ?_) | refine And.intro (covE_id (Nat.le_of_ble_eq_true rfl) (by first | exact wf_ints _ _ | exact wf_bools _ _ | first | exact wf_cells _ _ | exact wf_zc _ | simp [C.wf]) rfl (by first | rfl | (exact hcell))) ?_)
                      · have e := hno (.inr (.inr h3))
                        repeat ((conv => whnf); first | (refine And.intro (by first | omega | exact Nat.le_of_ble_eq_true rfl | (dsimp only [inK]; omega) | (simp only [mulS_eq]; omega) | (simp only [mulS_eq, setL_length]; omega) | (simp only [setL_length, List.length_map]; omega) | exact ⟨by omega, by omega, by first | exact Nat.le_of_ble_eq_true rfl | (dsimp only; omega) | (simp only [setL_length]; omega) | (simp only [setL_length, List.length_map]; omega)⟩ | exact ⟨by omega, by first | rfl | omega, by omega, Nat.le_of_ble_eq_true rfl, Nat.le_of_ble_eq_true rfl⟩ | exact ⟨rfl, rfl, rfl, Nat.le_of_ble_eq_true rfl, by first | rfl | omega | exact Nat.le_of_ble_eq_true rfl | (dsimp only; omega) | (simp; done) | (simp; omega), by first | rfl | omega | exact Nat.le_of_ble_eq_true rfl | (dsimp only; omega) | (simp; done) | (simp; omega), by omega, Nat.le_of_ble_eq_true rfl⟩ | exact Eq.refl true) ?_) | (with_reducible refine ld (hldj) ?_) | (with_reducible refine ld (hldk) ?_) | (refine Exists.intro _ (And.intro rfl ?_)) | (refine And.intro (And.intro rfl (chk_rowI _ _ _ _)) ?_) | (refine br_t (by omega) ?_) | (refine br_f (by omega) ?_) | (refine bs_t (by omega) ?_) | (refine bs_f (by omega) ?_) | (refine fun (K' : K3) hK' => ?_) | (refine hK' _ _ _ ?_; clear hK' K') | (refine draw_auto tok mixed (by kernel_rfl) ?_) | (refine And.intro (by refine ⟨by omega, by omega, ?_⟩; (try dsimp only); simp only [List.length_map]; omega) ?_) | (refine HD_mk (fun _ h => CallK.val (R := []) hhj (by kernel_rfl) rfl (by simp [V.wf, A.wf, C.wf]) ⟨roE_ints (l := 0) rfl (by omega) rfl (.inl rfl), trivial⟩ rfl rfl trivial h) ?_) | (refine HD_mk (fun _ h => CallK.val (R := []) hhk (by kernel_rfl) rfl (by simp [V.wf, A.wf, C.wf]) ⟨roE_ints (l := 0) rfl (by omega) rfl (.inl rfl), trivial⟩ rfl rfl trivial h) ?_) | (refine HD_mk (fun _ h => CallK.val (R := []) hc (by kernel_rfl) rfl (by simp [V.wf, A.wf, C.wf]) ⟨roE_ints (l := 0) rfl (by omega) rfl (.inl rfl), trivial⟩ rfl rfl trivial h) ?_) | (refine bs_f h3 ?_) | (refine br_f h3 ?_) | (refine And.intro (Eq.refl ob) ?_) | (refine bs_bt (Eq.refl true) ?_) | (refine bs_bf (Eq.refl false) ?_) | (refine br_bt (Eq.refl true) ?_) | (refine br_bf (Eq.refl false) ?_) | (refine CallK.m ?_) | (refine And.intro (And.intro rfl rfl) ?_))
                        refine .inl ⟨rfl, hgo, [], rfl, ?_⟩
                        refine ⟨?_, ?_, rfl, rfl, by first | exact Nat.le_of_ble_eq_true rfl | exact Nat.le_refl _ | omega⟩
                        · repeat (first | exact trivial | refine And.intro (covS_syn (by first | rfl) rfl (by first | exact trivial | exact Nat.le_of_ble_eq_true rfl | exact hy | exact (fun p hp => nomatch hp) | (show (_ : Nat) < _; omega))) ?_ | refine And.intro (covS_bool rfl rfl (by first | rfl)) ?_)
                        · repeat (first | exact trivial | (refine And.intro (covE_b1 (Nat.le_of_ble_eq_true rfl) rfl rfl (congrArg Prod.snd e).symm) ?_) | refine And.intro (covE_id (Nat.le_of_ble_eq_true rfl) (by first | exact wf_ints _ _ | exact wf_bools _ _ | first | exact wf_cells _ _ | exact wf_zc _ | simp [C.wf]) rfl (by first | rfl | (exact congrArg (fun x : List Int × Bool => x.1.map C.i) e.symm))) ?_)
                · intro oo od hI
                  refine Or.inl ?_
                  refine And.intro rfl ?_
                  conv => whnf
                  refine hK' _ _ _ _ ?_
                  repeat ((conv => whnf); first | (refine And.intro (by first | omega | exact Nat.le_of_ble_eq_true rfl | (dsimp only [inK]; omega) | (simp only [mulS_eq]; omega) | (simp only [mulS_eq, setL_length]; omega) | (simp only [setL_length, List.length_map]; omega) | exact ⟨by omega, by omega, by first | exact Nat.le_of_ble_eq_true rfl | (dsimp only; omega) | (simp only [setL_length]; omega) | (simp only [setL_length, List.length_map]; omega)⟩ | exact ⟨by omega, by first | rfl | omega, by omega, Nat.le_of_ble_eq_true rfl, Nat.le_of_ble_eq_true rfl⟩ | exact ⟨rfl, rfl, rfl, Nat.le_of_ble_eq_true rfl, by first | rfl | omega | exact Nat.le_of_ble_eq_true rfl | (dsimp only; omega) | (simp; done) | (simp; omega), by first | rfl | omega | exact Nat.le_of_ble_eq_true rfl | (dsimp only; omega) | (simp; done) | (simp; omega), by omega, Nat.le_of_ble_eq_true rfl⟩ | exact Eq.refl true) ?_) | (refine Exists.intro _ (And.intro rfl ?_)) | (refine And.intro (And.intro rfl (chk_rowI _ _ _ _)) ?_) | (refine br_t (by omega) ?_) | (refine br_f (by omega) ?_) | (refine bs_t (by omega) ?_) | (refine bs_f (by omega) ?_) | (refine fun (K' : K3) hK' => ?_) | (refine hK' _ _ _ ?_; clear hK' K') | (refine draw_auto tok mixed (by kernel_rfl) ?_) | (refine bs_bt (Eq.refl true) ?_) | (refine bs_bf (Eq.refl false) ?_) | (refine br_bt (Eq.refl true) ?_) | (refine br_bf (Eq.refl false) ?_) | (refine CallK.m ?_) | (refine And.intro (And.intro rfl rfl) ?_))
                  refine ⟨j + 1, [], by omega, by omega, ?_⟩
                  refine ⟨?_, ?_, rfl, rfl, by first | exact Nat.le_of_ble_eq_true rfl | exact Nat.le_refl _ | omega⟩
                  · repeat (first | exact trivial | refine And.intro (covS_syn (by first | rfl | (refine congrArg some (congrArg V.i ?_); omega)) rfl (by first | exact trivial | exact Nat.le_of_ble_eq_true rfl | exact hy | exact (fun p hp => nomatch hp) | (show (_ : Nat) < _; omega))) ?_ | refine And.intro (covS_bool rfl rfl (by first | rfl)) ?_)
                  · repeat (first | exact trivial | (refine And.intro (covE_b1 (Nat.le_of_ble_eq_true rfl) rfl rfl (congrArg Prod.snd hfsn)) ?_) | refine And.intro (covE_id (Nat.le_of_ble_eq_true rfl) (by first | exact wf_ints _ _ | exact wf_bools _ _ | first | exact wf_cells _ _ | exact wf_zc _ | simp [C.wf]) rfl (by first | rfl | (exact congrArg (fun x : List Int × Bool => x.1.map C.i) hfsn))) ?_)
              · have hkn : j = cs.length := by omega
                subst hkn
                repeat ((conv => whnf); first | (refine And.intro (by first | omega | exact Nat.le_of_ble_eq_true rfl | (dsimp only [inK]; omega) | (simp only [mulS_eq]; omega) | (simp only [mulS_eq, setL_length]; omega) | (simp only [setL_length, List.length_map]; omega) | exact ⟨by omega, by omega, by first | exact Nat.le_of_ble_eq_true rfl | (dsimp only; omega) | (simp only [setL_length]; omega) | (simp only [setL_length, List.length_map]; omega)⟩ | exact ⟨by omega, by first | rfl | omega, by omega, Nat.le_of_ble_eq_true rfl, Nat.le_of_ble_eq_true rfl⟩ | exact ⟨rfl, rfl, rfl, Nat.le_of_ble_eq_true rfl, by first | rfl | omega | exact Nat.le_of_ble_eq_true rfl | (dsimp only; omega) | (simp; done) | (simp; omega), by first | rfl | omega | exact Nat.le_of_ble_eq_true rfl | (dsimp only; omega) | (simp; done) | (simp; omega), by omega, Nat.le_of_ble_eq_true rfl⟩ | exact Eq.refl true) ?_) | (refine Exists.intro _ (And.intro rfl ?_)) | (refine And.intro (And.intro rfl (chk_rowI _ _ _ _)) ?_) | (refine br_t (by omega) ?_) | (refine br_f (by omega) ?_) | (refine bs_t (by omega) ?_) | (refine bs_f (by omega) ?_) | (refine fun (K' : K3) hK' => ?_) | (refine hK' _ _ _ ?_; clear hK' K') | (refine draw_auto tok mixed (by kernel_rfl) ?_) | (refine bs_bt (Eq.refl true) ?_) | (refine bs_bf (Eq.refl false) ?_) | (refine br_bt (Eq.refl true) ?_) | (refine br_bf (Eq.refl false) ?_) | (refine CallK.m ?_) | (refine And.intro (And.intro rfl rfl) ?_))
                have hgo := hpsg cs.length (Nat.le_refl _)
                refine ⟨(ps cs.length), [(6, some 12)], ⟨hgo.ok hst, fun h => by obtain ⟨q1, q2⟩ := hpse h; rw [q1]; exact q2⟩, ?_, ?_⟩
                · have hp0 := hst.sum
                  have hp1 := (hgo.ok hst).sum
                  cases hb : (ps cs.length).2 with
                  | false => rw [(hpse hb).1]; simp
                  | true =>
                    rcases hgo.less hst hb with ⟨h, _⟩ | h
                    · cases h
                    · simp only [sumH] at *; simp only [if_true]; omega
                · skip
                  refine ⟨?_, ?_, rfl, rfl, by first | exact Nat.le_of_ble_eq_true rfl | exact Nat.le_refl _ | omega⟩
                  · repeat (first | exact trivial | refine And.intro (covS_syn (by first | rfl) rfl (by first | exact trivial | exact Nat.le_of_ble_eq_true rfl | exact hy | exact (fun p hp => nomatch hp) | (show (_ : Nat) < _; omega))) ?_ | refine And.intro (covS_bool rfl rfl (by first | rfl)) ?_)
                  · repeat (first | exact trivial | (refine And.intro (covE_bR rfl (Nat.le_of_ble_eq_true rfl) rfl rfl rfl) ?_) | refine And.intro (covE_nil rfl (Nat.le_of_ble_eq_true rfl) rfl rfl) ?_ | refine And.intro (covE_some rfl (Nat.le_of_ble_eq_true rfl) (by first | exact wf_ints _ _ | exact wf_bools _ _ | first | exact wf_cells _ _ | exact wf_zc _ | simp [C.wf]) rfl (by first | exact ren_ints _ _ | exact ren_bools _ _ | exact ren_shares _ _ | rfl)) ?_)
end Go.Proofs.Ytbhpnhcdjmcaoaa

/- Boom, plain: the program's barrier is the reference's, and is one. -/
namespace Go.Proofs.Ytbhpnhcdjmcaoaa
open Go.RowKit
set_option linter.unusedVariables false
set_option linter.unusedSimpArgs false
def nextR (W H : Int) (d : Int → Option Way) (i : Int) (rest : Way) : Option Int := (nearL W H true i).find? fun k => decide (d k = some rest)
def pathR (W H : Int) (cs : List Int) (d : Int → Option Way) : Nat → Int → List Int
  | 0, i => [i]
  | f + 1, i => match d i with
    | none => [i]
    | some w => if w.2 > 1 then (match nextR W H d i (w.1 - cstI cs i, w.2 - 1) with
      | none => [i]
      | some k => i :: pathR W H cs d f k) else [i]
def rbarO (W H : Int) (cs : List Int) : Option (List Int × Way) :=
  match wayR W H cs (bestP (wayR W H cs) W.toNat) with
  | none => none
  | some w => some (pathR W H cs (wayR W H cs) w.2.toNat (bestP (wayR W H cs) W.toNat), w)
section
variable {cost : Int → Int} {ini : Int → Bool} {nb : Int → List Int} {d : Int → Option Way}
theorem OptD.sub (h : OptD cost ini nb d) {i k : Int} {r : List Int} (hk : k ∈ nb i) (hw : isWalk ini nb (k :: r)) (ho : d i = some (valW cost (i :: k :: r))) : d k = some (valW cost (k :: r)) := by
  obtain ⟨w1, h3, h4⟩ := h.comp k r hw
  obtain ⟨l', h5, h6⟩ := h.sound k w1 h3
  obtain ⟨w2, h7, h8⟩ := h.comp i (k :: l') ⟨hk, h5⟩
  rw [ho] at h7; cases h7
  have e1 : valW cost (i :: k :: l') = addW (cost i) w1 := by show addW _ (valW cost (k :: l')) = _; rw [h6]
  have e2 : valW cost (i :: k :: r) = addW (cost i) (valW cost (k :: r)) := rfl
  rw [e1, e2] at h8
  rw [h3, leW_anti h4 (by unfold leW addW at h8; unfold leW; simp only at h8; omega)]
theorem OptD.pos (h : OptD cost ini nb d) {i : Int} {w : Way} (hw : d i = some w) : 1 ≤ w.2 := by
  obtain ⟨l, _, h2⟩ := h.sound i w hw
  have := valW_cells cost (i :: l)
  rw [h2] at this; simp at this; omega
end
section
variable {W H : Int} {cs : List Int}
theorem nbB_cond {i k : Int} (h : k ∈ nbB W H cs i) : inR cs i = true ∧ hldI cs i = true ∧ ¬ i / W = H - 1 := by
  unfold nbB at h
  split at h
  · rename_i hh; simp only [Bool.and_eq_true, Bool.not_eq_true', decide_eq_false_iff_not] at hh; exact hh
  · cases h
theorem nbR_cond {i k : Int} (h : k ∈ nbR W H cs i) : inR cs i = true ∧ hldI cs i = true ∧ k ∈ nearL W H true i := by
  unfold nbR at h
  split at h
  · rename_i hh; simp only [Bool.and_eq_true] at hh; exact ⟨hh.1, hh.2, h⟩
  · cases h
theorem nbR_mk {i k : Int} (h1 : inR cs i = true) (h2 : hldI cs i = true) (h3 : k ∈ nearL W H true i) : k ∈ nbR W H cs i := by
  unfold nbR; rw [h1, h2]; exact h3
theorem nbB_mk {i k : Int} (h1 : inR cs i = true) (h2 : hldI cs i = true) (h3 : k ∈ nearL W H true i) (h4 : ¬ i / W = H - 1) (h5 : ¬ k / W = 0) : k ∈ nbB W H cs i := by
  unfold nbB; rw [h1, h2, dd_f h4]
  exact List.mem_filter.2 ⟨h3, by simp [h5]⟩
theorem walk_BR : ∀ {l : List Int}, isWalk (iniB W H cs) (nbB W H cs) l → isWalk (iniB W H cs) (nbR W H cs) l
  | [i], h => h
  | i :: k :: r, h => ⟨by obtain ⟨h1, h2, _⟩ := nbB_cond h.1; exact nbR_mk h1 h2 (nbB_mem h.1).1, walk_BR h.2⟩
theorem iniB_cond {i : Int} (h : iniB W H cs i = true) : inR cs i = true ∧ hldI cs i = true ∧ i / W = H - 1 := by
  unfold iniB at h; simp only [Bool.and_eq_true, decide_eq_true_eq] at h; exact h
theorem walkR_cond {i : Int} {l : List Int} (h : isWalk (iniB W H cs) (nbR W H cs) (i :: l)) : inR cs i = true ∧ hldI cs i = true := by
  match l, h with
  | [], h => exact ⟨(iniB_cond h).1, (iniB_cond h).2.1⟩
  | k :: r, h => exact ⟨(nbR_cond h.1).1, (nbR_cond h.1).2.1⟩
theorem R_le_B (hok : CO W H cs) {i : Int} {w : Way} (h : wayB W H cs i = some w) : ∃ w', wayR W H cs i = some w' ∧ leW w' w := by
  obtain ⟨l, h1, h2⟩ := (wayB_opt hok).sound i w h
  obtain ⟨w', h3, h4⟩ := (wayR_opt hok).comp i l (walk_BR h1)
  exact ⟨w', h3, h2 ▸ h4⟩
theorem opt_B (hok : CO W H cs) : ∀ (l : List Int) {i : Int}, isWalk (iniB W H cs) (nbR W H cs) (i :: l) → wayR W H cs i = some (valW (cstI cs) (i :: l)) → (∀ x ∈ l, ¬ x / W = 0) → isWalk (iniB W H cs) (nbB W H cs) (i :: l)
  | [], i, h, _, _ => h
  | k :: r, i, h, ho, hr => by
    have hk := (wayR_opt hok).sub h.1 h.2 ho
    have ih := opt_B hok r h.2 hk (fun x hx => hr x (by simp [hx]))
    obtain ⟨c1, c2, c3⟩ := nbR_cond h.1
    refine ⟨nbB_mk c1 c2 c3 (fun hrow => ?_) (hr k (by simp)), ih⟩
    have hi : isWalk (iniB W H cs) (nbR W H cs) [i] := by
      show iniB W H cs i = true
      unfold iniB; rw [c1, c2, dd_t hrow]; rfl
    obtain ⟨w', g1, g2⟩ := (wayR_opt hok).comp i [] hi
    rw [ho] at g1; cases g1
    have g3 := valW_cells (cstI cs) (i :: k :: r)
    have g4 := valW_pos (fun i => (cst_bd hok.cost i).1) (k :: r)
    have e1 : valW (cstI cs) (i :: k :: r) = addW (cstI cs i) (valW (cstI cs) (k :: r)) := rfl
    have e2 : valW (cstI cs) [i] = (cstI cs i, 1) := by simp [valW, addW]
    rw [e2] at g2
    have g5 := valW_cells (cstI cs) (k :: r)
    rw [e1] at g2
    unfold leW addW at g2
    simp only [List.length_cons] at g2 g5
    omega
theorem row0_free (hok : CO W H cs) {ws : Way} (hmin : ∀ x, 0 ≤ x → x < W → ∀ u, wayR W H cs x = some u → leW ws u) {l : List Int} {i : Int} (h : isWalk (iniB W H cs) (nbR W H cs) (i :: l)) (hle : leW (valW (cstI cs) (i :: l)) ws) : ∀ x ∈ l, ¬ x / W = 0 := by
  intro x hx hr
  obtain ⟨a, b, rfl⟩ := List.append_of_mem hx
  have hs : isWalk (iniB W H cs) (nbR W H cs) (x :: b) := walk_suffix (a := i :: a) h
  have hx0 := walk_rng (n := cs.length) iniB_in (nbR_in (by have := hok.w; omega) hok.len) hs x (by simp)
  have hW := hok.w
  have hxW : x < W := by
    have h1 := Int.emod_lt_of_pos x (show 0 < W by omega)
    have h2 := Int.mul_ediv_add_emod x W
    rw [hr] at h2; omega
  obtain ⟨u, g1, g2⟩ := (wayR_opt hok).comp x b hs
  have g3 := hmin x hx0.1 hxW u g1
  have e : valW (cstI cs) (i :: (a ++ x :: b)) = ((valW (cstI cs) (i :: a)).1 + (valW (cstI cs) (x :: b)).1, (valW (cstI cs) (i :: a)).2 + (valW (cstI cs) (x :: b)).2) := valW_app (i :: a) (x :: b)
  have g4 := valW_pos (fun i => (cst_bd hok.cost i).1) (i :: a)
  have g5 := valW_cells (cstI cs) (i :: a)
  have g6 := leW_trans g3 g2
  have g7 := leW_trans hle g6
  rw [e] at g7
  unfold leW at g7
  simp only [List.length_cons] at g7 g5
  omega
theorem eq_B (hok : CO W H cs) {ws : Way} (hmin : ∀ x, 0 ≤ x → x < W → ∀ u, wayR W H cs x = some u → leW ws u) {i : Int} {v : Way} (h : wayR W H cs i = some v) (hle : leW v ws) : wayB W H cs i = some v := by
  obtain ⟨l, h1, h2⟩ := (wayR_opt hok).sound i v h
  have hf := row0_free hok hmin h1 (h2 ▸ hle)
  have hb := opt_B hok l h1 (h2 ▸ h) hf
  obtain ⟨u, g1, g2⟩ := (wayB_opt hok).comp i l hb
  obtain ⟨w', g3, g4⟩ := R_le_B hok g1
  rw [h] at g3; cases g3
  rw [g1, leW_anti (h2 ▸ g2) g4]
theorem path_eq (hok : CO W H cs) {ws : Way} (hmin : ∀ x, 0 ≤ x → x < W → ∀ u, wayR W H cs x = some u → leW ws u) : ∀ (f : Nat) {i : Int} {v : Way}, wayB W H cs i = some v → wayR W H cs i = some v → leW v ws → pathB W H cs (wayB W H cs) f i = pathR W H cs (wayR W H cs) f i
  | 0, i, v, _, _, _ => rfl
  | f + 1, i, v, hB, hR, hle => by
    simp only [pathB, pathR, hB, hR]
    by_cases h1 : v.2 > 1
    · rw [if_pos h1, if_pos h1]
      obtain ⟨l0, s1, s2⟩ := (wayR_opt hok).sound i v hR
      obtain ⟨c1, c2⟩ := walkR_cond s1
      have hci := (cst_bd hok.cost i).1
      have hle2 : leW (v.1 - cstI cs i, v.2 - 1) ws := by unfold leW at hle ⊢; simp only; omega
      have hfun : nextB W H (wayB W H cs) i (v.1 - cstI cs i, v.2 - 1) = nextR W H (wayR W H cs) i (v.1 - cstI cs i, v.2 - 1) := by
        unfold nextB nextR
        refine find_congr fun k hk => ?_
        rw [Bool.eq_iff_iff, Bool.and_eq_true, decide_eq_true_eq, decide_eq_true_eq, Bool.not_eq_true', decide_eq_false_iff_not]
        constructor
        · rintro ⟨g1, g2⟩
          obtain ⟨w', g3, g4⟩ := R_le_B hok g1
          obtain ⟨l', g5, g6⟩ := (wayR_opt hok).sound k w' g3
          obtain ⟨w2, g7, g8⟩ := (wayR_opt hok).comp i (k :: l') ⟨nbR_mk c1 c2 hk, g5⟩
          rw [hR] at g7; cases g7
          have e1 : valW (cstI cs) (i :: k :: l') = addW (cstI cs i) w' := by show addW _ (valW (cstI cs) (k :: l')) = _; rw [g6]
          rw [e1] at g8
          rw [g3, leW_anti g4 (by unfold leW addW at g8; unfold leW; simp only at g8 ⊢; omega)]
        · intro g1
          refine ⟨eq_B hok hmin g1 hle2, fun g2 => ?_⟩
          have hW := hok.w
          obtain ⟨l', g5, _⟩ := (wayR_opt hok).sound k _ g1
          have hx0 := walk_rng (n := cs.length) iniB_in (nbR_in (by omega) hok.len) g5 k (by simp)
          have hxW : k < W := by
            have h1 := Int.emod_lt_of_pos k (show 0 < W by omega)
            have h2 := Int.mul_ediv_add_emod k W
            rw [g2] at h2; omega
          have g3 := leW_trans hle (hmin k hx0.1 hxW _ g1)
          unfold leW at g3; simp only at g3; omega
      rw [hfun]
      cases hn : nextR W H (wayR W H cs) i (v.1 - cstI cs i, v.2 - 1) with
      | none => rfl
      | some k =>
        have g1 := List.find?_some hn
        have g1 := of_decide_eq_true g1
        simp only
        rw [path_eq hok hmin f (eq_B hok hmin g1 hle2) g1 hle2]
    · rw [if_neg h1, if_neg h1]
where
  find_congr {l : List Int} {p q : Int → Bool} (h : ∀ x ∈ l, p x = q x) : l.find? p = l.find? q := by
    induction l with
    | nil => rfl
    | cons x r ih =>
      rw [List.find?_cons, List.find?_cons, h x (by simp), ih (fun y hy => h y (by simp [hy]))]
theorem bar_eq (hok : CO W H cs) : barO W H cs = rbarO W H cs := by
  have hW := hok.w
  obtain ⟨w0, hw0⟩ : ∃ w0 : Nat, (w0 : Int) = W := ⟨W.toNat, by omega⟩
  have hwt : W.toNat = w0 := by omega
  unfold barO rbarO
  rw [hwt]
  have neg1 : ∀ (d : Int → Option Way), (∀ i w, d i = some w → 0 ≤ i) → d (-1) = none := fun d hd => by
    cases h : d (-1) with
    | none => rfl
    | some w => have := hd _ w h; omega
  have hBd : ∀ i w, wayB W H cs i = some w → 0 ≤ i := fun i w h => (wayB_dom hok h).1
  have hRd : ∀ i w, wayR W H cs i = some w → 0 ≤ i := fun i w h => by
    obtain ⟨l, h1, _⟩ := (wayR_opt hok).sound i w h
    exact (walk_rng (n := cs.length) iniB_in (nbR_in (by omega) hok.len) h1 i (by simp)).1
  rcases bestP_spec (wayR W H cs) w0 with ⟨h1, h2⟩ | ⟨b, h1, h2, wb, h3, h4, h5⟩
  · rw [h1, neg1 _ hRd]
    rcases bestP_spec (wayB W H cs) w0 with ⟨g1, _⟩ | ⟨b', g1, g2, wb', g3, _, _⟩
    · rw [g1, neg1 _ hBd]
    · obtain ⟨w', q1, _⟩ := R_le_B hok g3
      rw [h2 b' g2] at q1; cases q1
  · have hmin : ∀ x, 0 ≤ x → x < W → ∀ u, wayR W H cs x = some u → leW wb u := fun x hx0 hxW u hu => by
      obtain ⟨j, rfl⟩ : ∃ j : Nat, (j : Int) = x := ⟨x.toNat, by omega⟩
      exact h4 j (by omega) u hu
    have hbB := eq_B hok hmin h3 (leW_refl _)
    rcases bestP_spec (wayB W H cs) w0 with ⟨g1, g2⟩ | ⟨b', g1, g2, wb', g3, g4, g5⟩
    · rw [g2 b h2] at hbB; cases hbB
    · have k1 := g4 b h2 wb hbB
      obtain ⟨w', q1, q2⟩ := R_le_B hok g3
      have k2 := h4 b' g2 w' q1
      have e1 : wb' = wb := leW_anti k1 (leW_trans k2 q2)
      have e2 : w' = wb := leW_anti (leW_trans q2 k1) k2
      have hbb : b = b' := by
        rcases Nat.lt_trichotomy b b' with h | h | h
        · exact absurd (e1 ▸ leW_refl wb) (g5 b h wb hbB)
        · exact h
        · exact absurd (e2 ▸ leW_refl wb) (h5 b' h w' q1)
      subst hbb
      rw [h1, g1, h3, hbB]
      simp only
      rw [path_eq hok hmin _ hbB h3 (leW_refl _)]
/-- The way down is a walk of that cost, without a cell twice. -/
theorem path_walk (hok : CO W H cs) : ∀ (f : Nat) {i : Int} {w : Way}, wayB W H cs i = some w → w.2.toNat ≤ f → isWalk (iniB W H cs) (nbB W H cs) (pathB W H cs (wayB W H cs) f i) ∧ valW (cstI cs) (pathB W H cs (wayB W H cs) f i) = w ∧ (∃ r, pathB W H cs (wayB W H cs) f i = i :: r) ∧ (pathB W H cs (wayB W H cs) f i).Nodup ∧ ∀ x ∈ pathB W H cs (wayB W H cs) f i, ∃ u, wayB W H cs x = some u ∧ u.2 ≤ w.2
  | 0, i, w, hw, hf => by have := (wayB_opt hok).pos hw; omega
  | f + 1, i, w, hw, hf => by
    have hpos := (wayB_opt hok).pos hw
    obtain ⟨l, s1, s2⟩ := (wayB_opt hok).sound i w hw
    have hc := valW_cells (cstI cs) (i :: l)
    rw [s2] at hc
    by_cases h1 : 1 < w.2
    · obtain ⟨k, hk, hdk⟩ := nextB_some hok hw h1
      obtain ⟨i1, i2, ⟨r, i3⟩, i4, i5⟩ := path_walk hok f hdk (by simp only; omega)
      have hp : pathB W H cs (wayB W H cs) (f + 1) i = i :: pathB W H cs (wayB W H cs) f k := by
        simp only [pathB, hw, hk]; rw [if_pos h1]
      have hkm : k ∈ nbB W H cs i := by
        match l, s1, hc with
        | [], _, hc => simp at hc; omega
        | k' :: r', s1, _ =>
          obtain ⟨c1, c2, c3⟩ := nbB_cond s1.1
          have q1 := List.mem_of_find?_eq_some hk
          have q2 := List.find?_some hk
          simp only [Bool.and_eq_true, Bool.not_eq_true', decide_eq_false_iff_not] at q2
          exact nbB_mk c1 c2 q1 c3 q2.2
      rw [hp]
      refine ⟨by rw [i3] at i1 ⊢; exact ⟨hkm, i1⟩, ?_, ⟨_, rfl⟩, List.nodup_cons.2 ⟨fun hm => ?_, i4⟩, fun x hx => ?_⟩
      · show addW _ (valW (cstI cs) (pathB W H cs (wayB W H cs) f k)) = w
        rw [i2]; unfold addW; exact Prod.ext (by simp only; omega) (by simp only; omega)
      · obtain ⟨u, u1, u2⟩ := i5 i hm
        rw [hw] at u1; cases u1
        simp only at u2; omega
      · rcases List.mem_cons.1 hx with rfl | hx
        · exact ⟨w, hw, Int.le_refl _⟩
        · obtain ⟨u, u1, u2⟩ := i5 x hx
          exact ⟨u, u1, by simp only at u2; omega⟩
    · have hp : pathB W H cs (wayB W H cs) (f + 1) i = [i] := by simp only [pathB, hw]; rw [if_neg (by omega)]
      have hl : l = [] := by
        match l, hc with
        | [], _ => rfl
        | _ :: _, hc => simp at hc; omega
      subst hl
      rw [hp]
      exact ⟨s1, s2, ⟨[], rfl⟩, by simp, fun x hx => by rw [List.mem_singleton.1 hx]; exact ⟨w, hw, Int.le_refl _⟩⟩
theorem cellI_idx {i : Int} (hW : 0 < W) (hi : 0 ≤ i) (hn : i < W * H) : onB W H (cellI W i).1 (cellI W i).2 = true ∧ idxU W (cellI W i) = i := by
  have h1 := Int.emod_nonneg i (show W ≠ 0 by omega)
  have h2 := Int.emod_lt_of_pos i hW
  have h3 := Int.mul_ediv_add_emod i W
  have h4 : 0 ≤ i / W := Int.ediv_nonneg hi (by omega)
  have h5 : i / W < H := Int.ediv_lt_of_lt_mul hW (by rw [Int.mul_comm]; exact hn)
  refine ⟨by simp only [onB, cellI, Bool.and_eq_true]; exact ⟨dd_t h1, dd_t h2, dd_t h4, dd_t h5⟩, ?_⟩
  unfold idxU cellI
  simp only
  rw [Int.mul_comm (i / W) W]; omega
/-- A walk from the first row is a barrier. -/
theorem walk_bar (hok : CO W H cs) {l : List Int} {i : Int} (hw : isWalk (iniB W H cs) (nbB W H cs) (i :: l)) (hi : i / W = 0) (hd : (i :: l).Nodup) : BarP W H cs (cellsL W (i :: l)) := by
  have hW := hok.w
  have hin := walk_rng (n := cs.length) iniB_in (nbB_in (by omega) hok.len) hw
  have hlen := hok.len
  have hn : W * H ≤ 100 := by have := Int.mul_le_mul hok.w.2 hok.h.2 (by have := hok.h; omega) (by omega : (0:Int) ≤ 10); omega
  have hll : (cellsL W (i :: l)).length = (i :: l).length := by simp [cellsL]
  have hget : ∀ j, j < (i :: l).length → (cellsL W (i :: l)).getD j cz = cellI W ((i :: l).getD j 0) := fun j hj => by
    simp only [cellsL, List.getD_eq_getElem?_getD, List.getElem?_map, List.getElem?_eq_getElem hj]; rfl
  have hmem : ∀ j, j < (i :: l).length → (i :: l).getD j 0 ∈ (i :: l) := fun j hj => getD_mem hj
  have hci := fun j hj => cellI_idx (W := W) (H := H) (i := (i :: l).getD j 0) (by omega) (hin _ (hmem j hj)).1 (by have := (hin _ (hmem j hj)).2; omega)
  -- what each member of a walk is
  have key : ∀ (l : List Int), isWalk (iniB W H cs) (nbB W H cs) l → ∀ j, j < l.length → hldI cs (l.getD j 0) = true ∧ (0 < j → ¬ l.getD j 0 / W = 0) ∧ (l.getD j 0 / W = H - 1 ↔ j + 1 = l.length) ∧ (j + 1 < l.length → l.getD (j + 1) 0 ∈ nearL W H true (l.getD j 0)) := by
    intro l
    induction l with
    | nil => intro _ j hj; simp at hj
    | cons a r ih =>
      intro hw j hj
      match r, hw, ih with
      | [], hw, _ =>
        have : j = 0 := by simp at hj; omega
        subst this
        obtain ⟨c1, c2, c3⟩ := iniB_cond hw
        exact ⟨c2, fun h => by omega, ⟨fun _ => rfl, fun _ => c3⟩, fun h => by simp at h⟩
      | k :: r, hw, ih =>
        obtain ⟨c1, c2, c3⟩ := nbB_cond hw.1
        match j with
        | 0 => exact ⟨c2, fun h => by omega, ⟨fun h => absurd h c3, fun h => by simp at h⟩, fun _ => (nbB_mem hw.1).1⟩
        | j + 1 =>
          obtain ⟨q1, q2, q3, q4⟩ := ih hw.2 j (by simpa using hj)
          refine ⟨q1, fun _ => ?_, ⟨fun h => by have := q3.1 h; simp at this ⊢; omega, fun h => q3.2 (by simp at h ⊢; omega)⟩, fun h => q4 (by simpa using h)⟩
          by_cases hj0 : j = 0
          · subst hj0; exact (nbB_mem hw.1).2
          · exact q2 (by omega)
  have hk := key (i :: l) hw
  refine ⟨fun j hj => ?_, fun j m hj hm he => ?_, ⟨by rw [hll]; simp, ?_⟩, fun j hj => ?_, fun j hj => ?_, fun j hj => ?_, fun j hj => ?_⟩
  · rw [hll] at hj; rw [hget j hj]; exact (hci j hj).1
  · rw [hll] at hj
    rw [hget j hj, hget m (by omega)] at he
    have h1 : (i :: l).getD j 0 = (i :: l).getD m 0 := by
      rw [← (hci j hj).2, ← (hci m (by omega)).2, he]
    rw [List.getD_eq_getElem?_getD, List.getD_eq_getElem?_getD, List.getElem?_eq_getElem hj, List.getElem?_eq_getElem (show m < (i :: l).length by omega)] at h1
    exact (List.pairwise_iff_getElem.1 hd) m j (by omega) hj hm h1.symm
  · have := nodup_len cs.length _ hd hin
    rw [hll]; omega
  · rw [hll] at hj
    rw [hget (j + 1) hj, hget j (by omega)]
    have h1 := hci (j + 1) hj
    have h2 := hci j (by omega)
    refine (near_iff h1.1 h2.1).1 ?_
    rw [(idxC_mod h1.1).1, (idxC_mod h2.1).1, h1.2, h2.2]
    exact (hk j (by omega)).2.2.2 hj
  · rw [hll] at hj
    rw [hget j hj, (hci j hj).2]
    have := (hk j hj).1
    unfold hldI at this
    simpa using this
  · rw [hll] at hj
    rw [hget j hj]
    show _ / W = 0 ↔ _
    constructor
    · intro h
      by_cases hj0 : j = 0
      · exact hj0
      · exact absurd h ((hk j hj).2.1 (by omega))
    · rintro rfl; exact hi
  · rw [hll] at hj ⊢
    rw [hget j hj]
    exact (hk j hj).2.2.1
theorem walk_sum {l : List Int} (hW : 0 < W) (hin : ∀ x ∈ l, 0 ≤ x ∧ x < W * H) : sumC W cs (cellsL W l) = (valW (cstI cs) l).1 := by
  unfold sumC sumK
  rw [List.take_length]
  induction l with
  | nil => rfl
  | cons i r ih =>
    have := ih (fun x hx => hin x (by simp [hx]))
    have hi := hin i (by simp)
    have h2 := (cellI_idx (W := W) (H := H) hW hi.1 hi.2).2
    show (cstI cs (idxU W (cellI W i)) :: (cellsL W r).map _).sum = _
    rw [List.sum_cons, this, h2]
    simp only [valW, addW]; omega
/-- The barrier that is found is one, and costs what is said. -/
theorem bar_is (hok : CO W H cs) {l : List Int} {w : Way} (h : barO W H cs = some (l, w)) : BarP W H cs (cellsL W l) ∧ sumC W cs (cellsL W l) = w.1 ∧ (∀ x ∈ l, 0 ≤ x ∧ x < cs.length) ∧ l.length ≤ 100 := by
  have hW := hok.w
  have hlen := hok.len
  obtain ⟨w0, hw0⟩ : ∃ w0 : Nat, (w0 : Int) = W := ⟨W.toNat, by omega⟩
  have hwt : W.toNat = w0 := by omega
  unfold barO at h
  rw [hwt] at h
  rcases bestP_spec (wayB W H cs) w0 with ⟨g1, _⟩ | ⟨b, g1, g2, wb, g3, _, _⟩
  · rw [g1] at h
    cases hd : wayB W H cs (-1) with
    | none => rw [hd] at h; cases h
    | some u => have := (wayB_dom hok hd).1; omega
  · rw [g1, g3] at h
    cases h
    obtain ⟨p1, p2, ⟨r, p3⟩, p4, _⟩ := path_walk hok w.2.toNat g3 (Nat.le_refl _)
    have hin := walk_rng (n := cs.length) iniB_in (nbB_in (by omega) hok.len) p1
    rw [p3] at p1 p2 p4 hin ⊢
    have hbar := walk_bar hok p1 (Int.ediv_eq_zero_of_lt (by omega) (by omega)) p4
    refine ⟨hbar, by rw [walk_sum (H := H) (by omega) (fun x hx => by have := hin x hx; omega), p2], hin, ?_⟩
    have := hbar.len.2
    simpa [cellsL] using this
end
end Go.Proofs.Ytbhpnhcdjmcaoaa

/- Boom, plain: neighbours the other way round. -/
namespace Go.Proofs.Ytbhpnhcdjmcaoaa
open Go.RowKit
set_option linter.unusedVariables false
set_option linter.unusedSimpArgs false
theorem near_symm {W H : Int} {e : Bool} {i k : Int} (hW : 0 < W) (hi : 0 ≤ i) (hn : i < W * H) (h : k ∈ nearL W H e i) : i ∈ nearL W H e k := by
  have hk := near_in hW h
  obtain ⟨a1, a2⟩ := cellI_idx (W := W) (H := H) hW hi hn
  obtain ⟨b1, b2⟩ := cellI_idx (W := W) (H := H) hW hk.1 hk.2
  have e1 : idxC W H (cellI W i) = i := (idxC_mod a1).1.trans a2
  have e2 : idxC W H (cellI W k) = k := (idxC_mod b1).1.trans b2
  rw [← e1, ← e2] at h ⊢
  exact (near_iff a1 b1).2 (adj_symm ((near_iff b1 a1).1 h))
end Go.Proofs.Ytbhpnhcdjmcaoaa

/- Boom, the reference: the greatest heights. -/
namespace Go.Proofs.Ytbhpnhcdjmcaoaa
open Go.RowKit
set_option linter.unusedVariables false
set_option linter.unusedSimpArgs false
/-- The edges as the reference goes over them. -/
def edR (W H : Int) (j : Nat) : List (Int × Int) := (List.range j).flatMap fun i : Nat => (nearL W H true (i : Int)).map fun k => (k, (i : Int))
theorem edR_ok {W H : Int} {cs : List Int} (hok : CO W H cs) {j : Nat} (hj : j ≤ cs.length) : ∀ e ∈ edR W H j, (0 ≤ e.1 ∧ e.1 < cs.length) ∧ (0 ≤ e.2 ∧ e.2 < cs.length) ∧ e.2 ∈ nearL W H true e.1 := fun e he => by
  obtain ⟨i, hi, he⟩ := List.mem_flatMap.1 he
  obtain ⟨k, hk, rfl⟩ := List.mem_map.1 he
  have hi := List.mem_range.1 hi
  have hW : 0 < W := by have := hok.w; omega
  have := near_in hW hk
  have := hok.len
  exact ⟨by simp only; omega, by simp only; omega, near_symm hW (by omega) (by omega) hk⟩
theorem passR_succ (W H : Int) (cs : List Int) (st : List Int × Bool) (j : Nat) : passH cs (edR W H (j + 1)) st = (nearL W H true (j : Int)).foldl (fun st k => relH cs st k (j : Int)) (passH cs (edR W H j) st) := by
  unfold passH edR
  rw [List.range_succ, List.flatMap_append, List.foldl_append]
  simp [List.foldl_map]
theorem edR_all {W H : Int} {cs hs : List Int} (hok : CO W H cs) (h : ∀ e ∈ edR W H cs.length, hldI cs e.1 = true → hldI cs e.2 = true → hL hs e.2 ≤ hL hs e.1 + cstI cs e.2) : Feas W H cs (hL hs) := fun a b a0 a1 ha hb hn => by
  have hW : 0 < W := by have := hok.w; omega
  have hlen := hok.len
  have hbi := near_in hW hn
  refine h (a, b) (List.mem_flatMap.2 ⟨b.toNat, List.mem_range.2 (by omega), List.mem_map.2 ⟨a, ?_, ?_⟩⟩) ha hb
  · rw [show ((b.toNat : Nat) : Int) = b by omega]; exact near_symm hW a0 (by omega) hn
  · rw [show ((b.toNat : Nat) : Int) = b by omega]
set_option maxRecDepth 10000 in
set_option maxHeartbeats 8000000 in
theorem rheights_spec (W H : Int) (cs : List Int) (hl : cs.length ≤ 300) :
    Spec Try.prog 32 [chR W H cs.length] [⟨0, .ro 0, cs.map C.i⟩] 1 (fun v L' _ => intsE (htsO W H cs) (htsE W H cs) v L') := by
  have hlm : (cs.map C.i).length = cs.length := by simp
  have hva := rvalid_spec W H cs hl
  refine Spec.of tok Try.func32 rfl rfl rfl fun n0 cx => vc_ok tok ?_
  cases hv : okC W H cs with
  | false =>
    have e1 : htsO W H cs = [] := by unfold htsO; rw [hv]; rfl
    have e2 : htsE W H cs = 30 := by unfold htsE; rw [hv]; rfl
    rw [e1, e2]
    repeat ((conv => whnf); first | (refine And.intro (by first | omega | exact Nat.le_of_ble_eq_true rfl | (dsimp only [inK]; omega) | (simp only [mulS_eq]; omega) | (simp only [mulS_eq, setL_length]; omega) | (simp only [setL_length, List.length_map]; omega) | exact ⟨by omega, by omega, by first | exact Nat.le_of_ble_eq_true rfl | (dsimp only; omega) | (simp only [setL_length]; omega) | (simp only [setL_length, List.length_map]; omega)⟩ | exact ⟨by omega, by first | rfl | omega, by omega, Nat.le_of_ble_eq_true rfl, Nat.le_of_ble_eq_true rfl⟩ | exact ⟨rfl, rfl, rfl, Nat.le_of_ble_eq_true rfl, by first | rfl | omega | exact Nat.le_of_ble_eq_true rfl | (dsimp only; omega) | (simp; done) | (simp; omega), by first | rfl | omega | exact Nat.le_of_ble_eq_true rfl | (dsimp only; omega) | (simp; done) | (simp; omega), by omega, Nat.le_of_ble_eq_true rfl⟩ | exact Eq.refl true) ?_) | (refine Exists.intro _ (And.intro rfl ?_)) | (refine And.intro (And.intro rfl (chk_rowI _ _ _ _)) ?_) | (refine br_t (by omega) ?_) | (refine br_f (by omega) ?_) | (refine bs_t (by omega) ?_) | (refine bs_f (by omega) ?_) | (refine fun (K' : K3) hK' => ?_) | (refine hK' _ _ _ ?_; clear hK' K') | (refine draw_auto tok mixed (by kernel_rfl) ?_) | (refine CallK.val (R := []) hva (by kernel_rfl) rfl (by simp [V.wf, A.wf, C.wf]) ⟨roE_ints (l := 0) rfl (by omega) rfl (.inl rfl), trivial⟩ rfl rfl trivial ?_) | (refine bs_bt (congrArg Bool.not hv) ?_) | (refine br_bt (congrArg Bool.not hv) ?_) | (refine bs_bt (Eq.refl true) ?_) | (refine bs_bf (Eq.refl false) ?_) | (refine br_bt (Eq.refl true) ?_) | (refine br_bf (Eq.refl false) ?_) | (refine CallK.m ?_) | (refine And.intro (And.intro rfl rfl) ?_))
    exact .inl ⟨rfl, rfl⟩
  | true =>
    have hok := okC_iff.1 hv
    have e1 : htsO W H cs = hts W H cs := by unfold htsO; rw [hv]; rfl
    have e2 : htsE W H cs = 0 := by unfold htsE; rw [hv]; rfl
    rw [e1, e2]
    have hW := hok.w
    have hH := hok.h
    have hcn := hok.len
    have hn : (cs.length : Int) ≤ 100 := by have := Int.mul_le_mul hW.2 hH.2 (by omega) (by omega : (0:Int) ≤ 10); omega
    have hcb := cst_bd hok.cost
    have hcp : ∀ i, 0 ≤ cstI cs i := fun i => (hcb i).1
    repeat ((conv => whnf); first | (refine And.intro (by first | omega | exact Nat.le_of_ble_eq_true rfl | (dsimp only [inK]; omega) | (simp only [mulS_eq]; omega) | (simp only [mulS_eq, setL_length]; omega) | (simp only [setL_length, List.length_map]; omega) | exact ⟨by omega, by omega, by first | exact Nat.le_of_ble_eq_true rfl | (dsimp only; omega) | (simp only [setL_length]; omega) | (simp only [setL_length, List.length_map]; omega)⟩ | exact ⟨by omega, by first | rfl | omega, by omega, Nat.le_of_ble_eq_true rfl, Nat.le_of_ble_eq_true rfl⟩ | exact ⟨rfl, rfl, rfl, Nat.le_of_ble_eq_true rfl, by first | rfl | omega | exact Nat.le_of_ble_eq_true rfl | (dsimp only; omega) | (simp; done) | (simp; omega), by first | rfl | omega | exact Nat.le_of_ble_eq_true rfl | (dsimp only; omega) | (simp; done) | (simp; omega), by omega, Nat.le_of_ble_eq_true rfl⟩ | exact Eq.refl true) ?_) | (refine Exists.intro _ (And.intro rfl ?_)) | (refine And.intro (And.intro rfl (chk_rowI _ _ _ _)) ?_) | (refine br_t (by omega) ?_) | (refine br_f (by omega) ?_) | (refine bs_t (by omega) ?_) | (refine bs_f (by omega) ?_) | (refine fun (K' : K3) hK' => ?_) | (refine hK' _ _ _ ?_; clear hK' K') | (refine draw_auto tok mixed (by kernel_rfl) ?_) | (refine CallK.val (R := []) hva (by kernel_rfl) rfl (by simp [V.wf, A.wf, C.wf]) ⟨roE_ints (l := 0) rfl (by omega) rfl (.inl rfl), trivial⟩ rfl rfl trivial ?_) | (refine bs_bf (congrArg Bool.not hv) ?_) | (refine br_bf (congrArg Bool.not hv) ?_) | (refine bs_bt (Eq.refl true) ?_) | (refine bs_bf (Eq.refl false) ?_) | (refine br_bt (Eq.refl true) ?_) | (refine br_bf (Eq.refl false) ?_) | (refine CallK.m ?_) | (refine And.intro (And.intro rfl rfl) ?_))
    refine Tri.loop (γ := Nat) (fun k => k ≤ cs.length) (fun k => [(1, V.c (.ptr 1 0)), (4, V.c (.sl 2 cs.length)), (20, V.c (.sl 0 cs.length)), (21, V.i cs.length), (22, V.i (k : Nat))])
      (fun k => [⟨2, .vec 3 1, (h0L W cs k).map C.i⟩, ⟨1, .own 24, [C.i W, C.i H, .sl 0 cs.length]⟩, ⟨0, .ro 0, cs.map C.i⟩]) 3 (fun k => cs.length - k) 0 (R0 := []) ?_ ?_ ?_
    · omega
    · skip
      refine ⟨?_, ?_, rfl, rfl, by first | exact Nat.le_of_ble_eq_true rfl | exact Nat.le_refl _ | omega⟩
      · repeat (first | exact trivial | refine And.intro (covS_syn (by first | rfl) rfl (by first | exact trivial | exact Nat.le_of_ble_eq_true rfl | exact hy | exact (fun p hp => nomatch hp) | (show (_ : Nat) < _; omega))) ?_ | refine And.intro (covS_bool rfl rfl (by first | rfl)) ?_)
      · repeat (first | exact trivial | refine And.intro (covE_id (Nat.le_of_ble_eq_true rfl) (by first | exact wf_ints _ _ | exact wf_bools _ _ | first | exact wf_cells _ _ | exact wf_zc _ | simp [C.wf]) rfl (by first | rfl | (exact h0L_z))) ?_)
    · intro k hk
      refine vc_ok tok ?_
      by_cases hlt : k < cs.length
      · have hhl : hldI cs (k : Int) = decide (cs.getD k 0 ≠ 0) := by simp [hldI]
        have hld := intL hlt
        have hc := rcost_spec W H cs k hlt
        have hh0 : h0I W cs (k : Int) = if hldI cs (k : Int) = false then 0 else if (k : Int) / W = 0 then cstI cs (k : Int) else 1000000 := rfl
        have hrow : (k : Int) / W = 0 ↔ (k : Int) < W := by
          constructor
          · intro h
            have h1 := Int.emod_lt_of_pos (k : Int) (show 0 < W by omega)
            have h2 := Int.mul_ediv_add_emod (k : Int) W
            rw [h] at h2; omega
          · intro h; exact Int.ediv_eq_zero_of_lt (by omega) h
        have hrl := h0L_len W cs k
        obtain ⟨ck, hcke⟩ : ∃ x, x = cs.getD k 0 := ⟨_, rfl⟩
        rw [← hcke] at hld hhl
        obtain ⟨cc, hcc⟩ : ∃ cc, cc = cstI cs (k : Int) := ⟨_, rfl⟩
        rw [← hcc] at hc hh0
        by_cases h1 : ck = 0
        · have hz : h0I W cs (k : Int) = 0 := by rw [hh0, hhl, dd_f (fun h => h h1), if_pos rfl]
          repeat ((conv => whnf); first | (refine And.intro (by first | omega | exact Nat.le_of_ble_eq_true rfl | (dsimp only [inK]; omega) | (simp only [mulS_eq]; omega) | (simp only [mulS_eq, setL_length]; omega) | (simp only [setL_length, List.length_map]; omega) | exact ⟨by omega, by omega, by first | exact Nat.le_of_ble_eq_true rfl | (dsimp only; omega) | (simp only [setL_length]; omega) | (simp only [setL_length, List.length_map]; omega)⟩ | exact ⟨by omega, by first | rfl | omega, by omega, Nat.le_of_ble_eq_true rfl, Nat.le_of_ble_eq_true rfl⟩ | exact ⟨rfl, rfl, rfl, Nat.le_of_ble_eq_true rfl, by first | rfl | omega | exact Nat.le_of_ble_eq_true rfl | (dsimp only; omega) | (simp; done) | (simp; omega), by first | rfl | omega | exact Nat.le_of_ble_eq_true rfl | (dsimp only; omega) | (simp; done) | (simp; omega), by omega, Nat.le_of_ble_eq_true rfl⟩ | exact Eq.refl true) ?_) | (with_reducible refine ld (hld) ?_) | (refine Exists.intro _ (And.intro rfl ?_)) | (refine And.intro (And.intro rfl (chk_rowI _ _ _ _)) ?_) | (refine br_t (by omega) ?_) | (refine br_f (by omega) ?_) | (refine bs_t (by omega) ?_) | (refine bs_f (by omega) ?_) | (refine fun (K' : K3) hK' => ?_) | (refine hK' _ _ _ ?_; clear hK' K') | (refine draw_auto tok mixed (by kernel_rfl) ?_) | (refine bs_t h1 ?_) | (refine br_t h1 ?_) | (refine bs_bt (Eq.refl true) ?_) | (refine bs_bf (Eq.refl false) ?_) | (refine br_bt (Eq.refl true) ?_) | (refine br_bf (Eq.refl false) ?_) | (refine CallK.m ?_) | (refine And.intro (And.intro rfl rfl) ?_))
          refine ⟨k + 1, [], by omega, by omega, ?_⟩
          refine ⟨?_, ?_, rfl, rfl, by first | exact Nat.le_of_ble_eq_true rfl | exact Nat.le_refl _ | omega⟩
          · repeat (first | exact trivial | refine And.intro (covS_syn (by first | rfl | (refine congrArg some (congrArg V.i ?_); omega)) rfl (by first | exact trivial | exact Nat.le_of_ble_eq_true rfl | exact hy | exact (fun p hp => nomatch hp) | (show (_ : Nat) < _; omega))) ?_ | refine And.intro (covS_bool rfl rfl (by first | rfl)) ?_)
          · repeat (first | exact trivial | refine And.intro (covE_id (Nat.le_of_ble_eq_true rfl) (by first | exact wf_ints _ _ | exact wf_bools _ _ | first | exact wf_cells _ _ | exact wf_zc _ | simp [C.wf]) rfl (by first | rfl | (rw [h0L_keep hlt hz]))) ?_)
        · rw [hhl, dd_t h1, if_neg (by simp)] at hh0
          by_cases h2 : (k : Int) < W
          · have hst : setL ((h0L W cs k).map C.i) (mulS ((k : Nat) : Int).toNat 1) [C.i cc] = (h0L W cs (k + 1)).map C.i := by
              rw [setL_int rfl, ← h0L_put hlt, hh0, if_pos (hrow.2 h2)]
            repeat ((conv => whnf); first | (refine And.intro (by first | omega | exact Nat.le_of_ble_eq_true rfl | (dsimp only [inK]; omega) | (simp only [mulS_eq]; omega) | (simp only [mulS_eq, setL_length]; omega) | (simp only [setL_length, List.length_map]; omega) | exact ⟨by omega, by omega, by first | exact Nat.le_of_ble_eq_true rfl | (dsimp only; omega) | (simp only [setL_length]; omega) | (simp only [setL_length, List.length_map]; omega)⟩ | exact ⟨by omega, by first | rfl | omega, by omega, Nat.le_of_ble_eq_true rfl, Nat.le_of_ble_eq_true rfl⟩ | exact ⟨rfl, rfl, rfl, Nat.le_of_ble_eq_true rfl, by first | rfl | omega | exact Nat.le_of_ble_eq_true rfl | (dsimp only; omega) | (simp; done) | (simp; omega), by first | rfl | omega | exact Nat.le_of_ble_eq_true rfl | (dsimp only; omega) | (simp; done) | (simp; omega), by omega, Nat.le_of_ble_eq_true rfl⟩ | exact Eq.refl true) ?_) | (with_reducible refine ld (hld) ?_) | (refine Exists.intro _ (And.intro rfl ?_)) | (refine And.intro (And.intro rfl (chk_rowI _ _ _ _)) ?_) | (refine br_t (by omega) ?_) | (refine br_f (by omega) ?_) | (refine bs_t (by omega) ?_) | (refine bs_f (by omega) ?_) | (refine fun (K' : K3) hK' => ?_) | (refine hK' _ _ _ ?_; clear hK' K') | (refine draw_auto tok mixed (by kernel_rfl) ?_) | (refine bs_f h1 ?_) | (refine br_f h1 ?_) | (refine bs_t h2 ?_) | (refine br_t h2 ?_) | (refine And.intro (by refine ⟨by omega, by omega, ?_⟩; (try dsimp only); simp only [List.length_map]; omega) ?_) | (refine CallK.val (R := []) hc (by kernel_rfl) rfl (by simp [V.wf, A.wf, C.wf]) ⟨roE_ints (l := 0) rfl (by omega) rfl (.inl rfl), trivial⟩ rfl rfl trivial ?_) | (refine And.intro (by (try dsimp only); rw [mulS_eq]; simp only [List.length_map, Int.toNat_natCast]; omega) ?_) | (refine bs_bt (Eq.refl true) ?_) | (refine bs_bf (Eq.refl false) ?_) | (refine br_bt (Eq.refl true) ?_) | (refine br_bf (Eq.refl false) ?_) | (refine CallK.m ?_) | (refine And.intro (And.intro rfl rfl) ?_))
            refine ⟨k + 1, [], by omega, by omega, ?_⟩
            refine ⟨?_, ?_, rfl, rfl, by first | exact Nat.le_of_ble_eq_true rfl | exact Nat.le_refl _ | omega⟩
            · repeat (first | exact trivial | refine And.intro (covS_syn (by first | rfl | (refine congrArg some (congrArg V.i ?_); omega)) rfl (by first | exact trivial | exact Nat.le_of_ble_eq_true rfl | exact hy | exact (fun p hp => nomatch hp) | (show (_ : Nat) < _; omega))) ?_ | refine And.intro (covS_bool rfl rfl (by first | rfl)) ?_)
            · repeat (first | exact trivial | refine And.intro (covE_id (Nat.le_of_ble_eq_true rfl) (by first | exact wf_ints _ _ | exact wf_bools _ _ | first | exact wf_cells _ _ | exact wf_zc _ | simp [C.wf]) rfl (by first | rfl | (exact hst))) ?_)
          · have hst : setL ((h0L W cs k).map C.i) (mulS ((k : Nat) : Int).toNat 1) [C.i 1000000] = (h0L W cs (k + 1)).map C.i := by
              rw [setL_int rfl, ← h0L_put hlt, hh0, if_neg (fun h => h2 (hrow.1 h))]
            repeat ((conv => whnf); first | (refine And.intro (by first | omega | exact Nat.le_of_ble_eq_true rfl | (dsimp only [inK]; omega) | (simp only [mulS_eq]; omega) | (simp only [mulS_eq, setL_length]; omega) | (simp only [setL_length, List.length_map]; omega) | exact ⟨by omega, by omega, by first | exact Nat.le_of_ble_eq_true rfl | (dsimp only; omega) | (simp only [setL_length]; omega) | (simp only [setL_length, List.length_map]; omega)⟩ | exact ⟨by omega, by first | rfl | omega, by omega, Nat.le_of_ble_eq_true rfl, Nat.le_of_ble_eq_true rfl⟩ | exact ⟨rfl, rfl, rfl, Nat.le_of_ble_eq_true rfl, by first | rfl | omega | exact Nat.le_of_ble_eq_true rfl | (dsimp only; omega) | (simp; done) | (simp; omega), by first | rfl | omega | exact Nat.le_of_ble_eq_true rfl | (dsimp only; omega) | (simp; done) | (simp; omega), by omega, Nat.le_of_ble_eq_true rfl⟩ | exact Eq.refl true) ?_) | (with_reducible refine ld (hld) ?_) | (refine Exists.intro _ (And.intro rfl ?_)) | (refine And.intro (And.intro rfl (chk_rowI _ _ _ _)) ?_) | (refine br_t (by omega) ?_) | (refine br_f (by omega) ?_) | (refine bs_t (by omega) ?_) | (refine bs_f (by omega) ?_) | (refine fun (K' : K3) hK' => ?_) | (refine hK' _ _ _ ?_; clear hK' K') | (refine draw_auto tok mixed (by kernel_rfl) ?_) | (refine bs_f h1 ?_) | (refine br_f h1 ?_) | (refine bs_f h2 ?_) | (refine br_f h2 ?_) | (refine And.intro (by refine ⟨by omega, by omega, ?_⟩; (try dsimp only); simp only [List.length_map]; omega) ?_) | (refine And.intro (by (try dsimp only); rw [mulS_eq]; simp only [List.length_map, Int.toNat_natCast]; omega) ?_) | (refine bs_bt (Eq.refl true) ?_) | (refine bs_bf (Eq.refl false) ?_) | (refine br_bt (Eq.refl true) ?_) | (refine br_bf (Eq.refl false) ?_) | (refine CallK.m ?_) | (refine And.intro (And.intro rfl rfl) ?_))
            refine ⟨k + 1, [], by omega, by omega, ?_⟩
            refine ⟨?_, ?_, rfl, rfl, by first | exact Nat.le_of_ble_eq_true rfl | exact Nat.le_refl _ | omega⟩
            · repeat (first | exact trivial | refine And.intro (covS_syn (by first | rfl | (refine congrArg some (congrArg V.i ?_); omega)) rfl (by first | exact trivial | exact Nat.le_of_ble_eq_true rfl | exact hy | exact (fun p hp => nomatch hp) | (show (_ : Nat) < _; omega))) ?_ | refine And.intro (covS_bool rfl rfl (by first | rfl)) ?_)
            · repeat (first | exact trivial | refine And.intro (covE_id (Nat.le_of_ble_eq_true rfl) (by first | exact wf_ints _ _ | exact wf_bools _ _ | first | exact wf_cells _ _ | exact wf_zc _ | simp [C.wf]) rfl (by first | rfl | (exact hst))) ?_)
      · have hkn : k = cs.length := by omega
        subst hkn
        repeat ((conv => whnf); first | (refine And.intro (by first | omega | exact Nat.le_of_ble_eq_true rfl | (dsimp only [inK]; omega) | (simp only [mulS_eq]; omega) | (simp only [mulS_eq, setL_length]; omega) | (simp only [setL_length, List.length_map]; omega) | exact ⟨by omega, by omega, by first | exact Nat.le_of_ble_eq_true rfl | (dsimp only; omega) | (simp only [setL_length]; omega) | (simp only [setL_length, List.length_map]; omega)⟩ | exact ⟨by omega, by first | rfl | omega, by omega, Nat.le_of_ble_eq_true rfl, Nat.le_of_ble_eq_true rfl⟩ | exact ⟨rfl, rfl, rfl, Nat.le_of_ble_eq_true rfl, by first | rfl | omega | exact Nat.le_of_ble_eq_true rfl | (dsimp only; omega) | (simp; done) | (simp; omega), by first | rfl | omega | exact Nat.le_of_ble_eq_true rfl | (dsimp only; omega) | (simp; done) | (simp; omega), by omega, Nat.le_of_ble_eq_true rfl⟩ | exact Eq.refl true) ?_) | (refine Exists.intro _ (And.intro rfl ?_)) | (refine And.intro (And.intro rfl (chk_rowI _ _ _ _)) ?_) | (refine br_t (by omega) ?_) | (refine br_f (by omega) ?_) | (refine bs_t (by omega) ?_) | (refine bs_f (by omega) ?_) | (refine fun (K' : K3) hK' => ?_) | (refine hK' _ _ _ ?_; clear hK' K') | (refine draw_auto tok mixed (by kernel_rfl) ?_) | (refine bs_bt (Eq.refl true) ?_) | (refine bs_bf (Eq.refl false) ?_) | (refine br_bt (Eq.refl true) ?_) | (refine br_bf (Eq.refl false) ?_) | (refine CallK.m ?_) | (refine And.intro (And.intro rfl rfl) ?_))
        refine Tri.loop (γ := List Int × Bool) (fun g => HSt W H cs g.1 ∧ (g.2 = false → Great W H cs g.1)) (fun g => [(1, V.c (.ptr 1 0)), (4, V.c (.sl 2 cs.length)), (7, V.c (.bool g.2))])
          (fun g => [⟨2, .vec 3 1, g.1.map C.i⟩, ⟨1, .own 24, [C.i W, C.i H, .sl 0 cs.length]⟩, ⟨0, .ro 0, cs.map C.i⟩]) 3 (fun g => (sumH g.1).toNat + (if g.2 then 1 else 0)) (h0L W cs cs.length, true) (R0 := []) ?_ ?_ ?_
        · exact ⟨h0_st hcp, fun h => by cases h⟩
        · skip
          refine ⟨?_, ?_, rfl, rfl, by first | exact Nat.le_of_ble_eq_true rfl | exact Nat.le_refl _ | omega⟩
          · repeat (first | exact trivial | refine And.intro (covS_syn (by first | rfl) rfl (by first | exact trivial | exact Nat.le_of_ble_eq_true rfl | exact hy | exact (fun p hp => nomatch hp) | (show (_ : Nat) < _; omega))) ?_ | refine And.intro (covS_bool rfl rfl (by first | rfl)) ?_)
          · repeat (first | exact trivial | refine And.intro (covE_id (Nat.le_of_ble_eq_true rfl) (by first | exact wf_ints _ _ | exact wf_bools _ _ | first | exact wf_cells _ _ | exact wf_zc _ | simp [C.wf]) rfl (by first | rfl)) ?_)
        · rintro ⟨hs, b⟩ ⟨hst, hgr⟩
          simp only at hst hgr ⊢
          refine vc_ok tok ?_
          cases b with
          | false =>
            have hg := (hgr rfl).hts
            have hgl := hst.len
            repeat ((conv => whnf); first | (refine And.intro (by first | omega | exact Nat.le_of_ble_eq_true rfl | (dsimp only [inK]; omega) | (simp only [mulS_eq]; omega) | (simp only [mulS_eq, setL_length]; omega) | (simp only [setL_length, List.length_map]; omega) | exact ⟨by omega, by omega, by first | exact Nat.le_of_ble_eq_true rfl | (dsimp only; omega) | (simp only [setL_length]; omega) | (simp only [setL_length, List.length_map]; omega)⟩ | exact ⟨by omega, by first | rfl | omega, by omega, Nat.le_of_ble_eq_true rfl, Nat.le_of_ble_eq_true rfl⟩ | exact ⟨rfl, rfl, rfl, Nat.le_of_ble_eq_true rfl, by first | rfl | omega | exact Nat.le_of_ble_eq_true rfl | (dsimp only; omega) | (simp; done) | (simp; omega), by first | rfl | omega | exact Nat.le_of_ble_eq_true rfl | (dsimp only; omega) | (simp; done) | (simp; omega), by omega, Nat.le_of_ble_eq_true rfl⟩ | exact Eq.refl true) ?_) | (refine Exists.intro _ (And.intro rfl ?_)) | (refine And.intro (And.intro rfl (chk_rowI _ _ _ _)) ?_) | (refine br_t (by omega) ?_) | (refine br_f (by omega) ?_) | (refine bs_t (by omega) ?_) | (refine bs_f (by omega) ?_) | (refine fun (K' : K3) hK' => ?_) | (refine hK' _ _ _ ?_; clear hK' K') | (refine draw_auto tok mixed (by kernel_rfl) ?_) | (refine bs_bt (Eq.refl true) ?_) | (refine bs_bf (Eq.refl false) ?_) | (refine br_bt (Eq.refl true) ?_) | (refine br_bf (Eq.refl false) ?_) | (refine CallK.m ?_) | (refine And.intro (And.intro rfl rfl) ?_))
            rw [hg]
            exact .inr ⟨2, by rw [hgl], rfl⟩
          | true =>
            obtain ⟨ps, hps⟩ : ∃ ps : Nat → List Int × Bool, ps = fun j => passH cs (edR W H j) (hs, false) := ⟨_, rfl⟩
            have hps0 : ps 0 = (hs, false) := by rw [hps]; rfl
            have hpss : ∀ j, ps (j + 1) = (nearL W H true (j : Int)).foldl (fun st k => relH cs st k (j : Int)) (ps j) := fun j => by rw [hps]; exact passR_succ W H cs _ j
            have hpsg : ∀ j, j ≤ cs.length → HGo W H cs (hs, false) (ps j) := fun j hj => by rw [hps]; exact passH_go hcp _ (edR_ok hok hj)
            have hpse : (ps cs.length).2 = false → ps cs.length = (hs, false) ∧ Great W H cs hs := fun h => by
              rw [hps] at h ⊢
              obtain ⟨q1, q2⟩ := passH_ok hcp (edR_ok hok (Nat.le_refl _)) h
              exact ⟨q1, hst.great (edR_all hok q2)⟩
            clear hps hgr
            repeat ((conv => whnf); first | (refine And.intro (by first | omega | exact Nat.le_of_ble_eq_true rfl | (dsimp only [inK]; omega) | (simp only [mulS_eq]; omega) | (simp only [mulS_eq, setL_length]; omega) | (simp only [setL_length, List.length_map]; omega) | exact ⟨by omega, by omega, by first | exact Nat.le_of_ble_eq_true rfl | (dsimp only; omega) | (simp only [setL_length]; omega) | (simp only [setL_length, List.length_map]; omega)⟩ | exact ⟨by omega, by first | rfl | omega, by omega, Nat.le_of_ble_eq_true rfl, Nat.le_of_ble_eq_true rfl⟩ | exact ⟨rfl, rfl, rfl, Nat.le_of_ble_eq_true rfl, by first | rfl | omega | exact Nat.le_of_ble_eq_true rfl | (dsimp only; omega) | (simp; done) | (simp; omega), by first | rfl | omega | exact Nat.le_of_ble_eq_true rfl | (dsimp only; omega) | (simp; done) | (simp; omega), by omega, Nat.le_of_ble_eq_true rfl⟩ | exact Eq.refl true) ?_) | (refine Exists.intro _ (And.intro rfl ?_)) | (refine And.intro (And.intro rfl (chk_rowI _ _ _ _)) ?_) | (refine br_t (by omega) ?_) | (refine br_f (by omega) ?_) | (refine bs_t (by omega) ?_) | (refine bs_f (by omega) ?_) | (refine fun (K' : K3) hK' => ?_) | (refine hK' _ _ _ ?_; clear hK' K') | (refine draw_auto tok mixed (by kernel_rfl) ?_) | (refine bs_bt (Eq.refl true) ?_) | (refine bs_bf (Eq.refl false) ?_) | (refine br_bt (Eq.refl true) ?_) | (refine br_bf (Eq.refl false) ?_) | (refine CallK.m ?_) | (refine And.intro (And.intro rfl rfl) ?_))
            refine Tri.loop (γ := Nat) (fun j => j ≤ cs.length) (fun j => [(1, V.c (.ptr 1 0)), (4, V.c (.sl 2 cs.length)), (7, V.c (.bool (ps j).2)), (47, V.c (.sl 0 cs.length)), (48, V.i cs.length), (49, V.i (j : Nat))])
              (fun j => [⟨2, .vec 3 1, (ps j).1.map C.i⟩, ⟨1, .own 24, [C.i W, C.i H, .sl 0 cs.length]⟩, ⟨0, .ro 0, cs.map C.i⟩]) 3 (fun j => cs.length - j) 0 (R0 := []) ?_ ?_ ?_
            · omega
            · skip
              refine ⟨?_, ?_, rfl, rfl, by first | exact Nat.le_of_ble_eq_true rfl | exact Nat.le_refl _ | omega⟩
              · repeat (first | exact trivial | refine And.intro (covS_syn (by first | rfl) rfl (by first | exact trivial | exact Nat.le_of_ble_eq_true rfl | exact hy | exact (fun p hp => nomatch hp) | (show (_ : Nat) < _; omega))) ?_ | refine And.intro (covS_bool rfl rfl (by first | rfl | (exact (congrArg Prod.snd hps0).symm))) ?_)
              · repeat (first | exact trivial | refine And.intro (covE_id (Nat.le_of_ble_eq_true rfl) (by first | exact wf_ints _ _ | exact wf_bools _ _ | first | exact wf_cells _ _ | exact wf_zc _ | simp [C.wf]) rfl (by first | rfl | (exact congrArg (fun x : List Int × Bool => x.1.map C.i) hps0.symm))) ?_)
            · intro j hj
              refine vc_ok tok ?_
              by_cases hlt : j < cs.length
              · have hbe := beside_spec W H cs.length (j : Int) true (by omega) (by omega) (by omega)
                have hne := fun x (hx : x ∈ nearL W H true (j : Int)) => near_in (W := W) (by omega) hx
                have hsy := fun x (hx : x ∈ nearL W H true (j : Int)) => near_symm (W := W) (by omega) (by omega) (by omega) hx
                have hlen := near_len W H true (j : Int)
                have hldj := intL hlt
                have hrc := rcost_spec W H cs j hlt
                have hhj : hldI cs (j : Int) = decide (cs.getD j 0 ≠ 0) := by simp [hldI]
                have hcn := hcb (j : Int)
                have hsj := (hpsg j hj).ok hst
                obtain ⟨cj, hcj⟩ : ∃ cj, cj = cs.getD j 0 := ⟨_, rfl⟩
                rw [← hcj] at hldj hhj
                obtain ⟨nl, hnl⟩ : ∃ nl, nl = nearL W H true (j : Int) := ⟨_, rfl⟩
                obtain ⟨fs, hfs⟩ : ∃ fs : Nat → List Int × Bool, fs = fun m => (nl.take m).foldl (fun st k => relH cs st k (j : Int)) (ps j) := ⟨_, rfl⟩
                have hfs0 : fs 0 = ps j := by rw [hfs]; rfl
                have hfsn : fs nl.length = ps (j + 1) := by rw [hfs]; simp only [List.take_length]; rw [hnl, hpss]
                have hfss : ∀ m, m < nl.length → fs (m + 1) = relH cs (fs m) (nl.getD m 0) (j : Int) := fun m hm => by rw [hfs]; exact foldl_take _ _ _ hm
                rw [← hnl] at hbe hne hlen hsy
                clear hfs hpss hpse hcj
                repeat ((conv => whnf); first | (refine And.intro (by first | omega | exact Nat.le_of_ble_eq_true rfl | (dsimp only [inK]; omega) | (simp only [mulS_eq]; omega) | (simp only [mulS_eq, setL_length]; omega) | (simp only [setL_length, List.length_map]; omega) | exact ⟨by omega, by omega, by first | exact Nat.le_of_ble_eq_true rfl | (dsimp only; omega) | (simp only [setL_length]; omega) | (simp only [setL_length, List.length_map]; omega)⟩ | exact ⟨by omega, by first | rfl | omega, by omega, Nat.le_of_ble_eq_true rfl, Nat.le_of_ble_eq_true rfl⟩ | exact ⟨rfl, rfl, rfl, Nat.le_of_ble_eq_true rfl, by first | rfl | omega | exact Nat.le_of_ble_eq_true rfl | (dsimp only; omega) | (simp; done) | (simp; omega), by first | rfl | omega | exact Nat.le_of_ble_eq_true rfl | (dsimp only; omega) | (simp; done) | (simp; omega), by omega, Nat.le_of_ble_eq_true rfl⟩ | exact Eq.refl true) ?_) | (with_reducible refine ld (hldj) ?_) | (refine Exists.intro _ (And.intro rfl ?_)) | (refine And.intro (And.intro rfl (chk_rowI _ _ _ _)) ?_) | (refine br_t (by omega) ?_) | (refine br_f (by omega) ?_) | (refine bs_t (by omega) ?_) | (refine bs_f (by omega) ?_) | (refine fun (K' : K3) hK' => ?_) | (refine hK' _ _ _ ?_; clear hK' K') | (refine draw_auto tok mixed (by kernel_rfl) ?_) | (refine CallK.den (vs := [V.agg [C.i W, C.i H, C.sl 0 cs.length], V.i (j : Int), V.c (.bool true)]) (fun ρ => rfl) (by simp [V.wf, A.wf, C.wf]) (CallK.intsR (R := []) hbe (by kernel_rfl) rfl (by simp [V.wf, A.wf, C.wf]) trivial rfl ?_)) | (refine bs_bt (Eq.refl true) ?_) | (refine bs_bf (Eq.refl false) ?_) | (refine br_bt (Eq.refl true) ?_) | (refine br_bf (Eq.refl false) ?_) | (refine CallK.m ?_) | (refine And.intro (And.intro rfl rfl) ?_))
                refine Tri.loop (γ := Nat) (fun m => m ≤ nl.length ∧ HSt W H cs (fs m).1) (fun m => [(1, V.c (.ptr 1 0)), (4, V.c (.sl 2 cs.length)), (7, V.c (.bool (fs m).2)), (8, V.i (j : Int)), (9, V.i cj), (47, V.c (.sl 0 cs.length)), (48, V.i cs.length), (49, V.i (j : Nat)), (56, V.c (.sl 3 nl.length)), (57, V.i nl.length), (58, V.i (m : Nat))])
                  (fun m => [⟨3, .vec 3 1, nl.map C.i⟩, ⟨2, .vec 3 1, (fs m).1.map C.i⟩, ⟨1, .own 24, [C.i W, C.i H, .sl 0 cs.length]⟩, ⟨0, .ro 0, cs.map C.i⟩]) 4 (fun m => nl.length - m) 0 (R0 := []) ?_ ?_ ?_
                · exact ⟨by omega, by rw [hfs0]; exact hsj⟩
                · skip
                  refine ⟨?_, ?_, rfl, rfl, by first | exact Nat.le_of_ble_eq_true rfl | exact Nat.le_refl _ | omega⟩
                  · repeat (first | exact trivial | refine And.intro (covS_syn (by first | rfl) rfl (by first | exact trivial | exact Nat.le_of_ble_eq_true rfl | exact hy | exact (fun p hp => nomatch hp) | (show (_ : Nat) < _; omega))) ?_ | refine And.intro (covS_bool rfl rfl (by first | rfl | (exact (congrArg Prod.snd hfs0).symm))) ?_)
                  · repeat (first | exact trivial | refine And.intro (covE_id (Nat.le_of_ble_eq_true rfl) (by first | exact wf_ints _ _ | exact wf_bools _ _ | first | exact wf_cells _ _ | exact wf_zc _ | simp [C.wf]) rfl (by first | rfl | (exact congrArg (fun x : List Int × Bool => x.1.map C.i) hfs0.symm))) ?_)
                · rintro m ⟨hm, hI⟩
                  refine vc_ok tok ?_
                  by_cases hml : m < nl.length
                  · have hstep := hfss m hml
                    have hldm := intL hml
                    have hkm := getD_mem hml
                    have hkk := hne _ hkm
                    have hks := hsy _ hkm
                    obtain ⟨k, hke⟩ : ∃ k : Nat, (k : Int) = nl.getD m 0 := ⟨(nl.getD m 0).toNat, by omega⟩
                    rw [← hke] at hstep hldm hkk hks
                    have hkl : k < cs.length := by omega
                    have hgo := (relH_go (W := W) (H := H) hcp (a := (k : Int)) (b := (j : Int)) (by omega) (by omega) hks (fs m)).ok hI
                    rw [← hstep] at hgo
                    have hldk := intL hkl
                    have hhk : hldI cs (k : Int) = decide (cs.getD k 0 ≠ 0) := by simp [hldI]
                    obtain ⟨ck, hck⟩ : ∃ ck, ck = cs.getD k 0 := ⟨_, rfl⟩
                    rw [← hck] at hldk hhk
                    have hfl := hI.len
                    have hpk := hI.pos k (by omega) (by omega)
                    have hpj := hI.pos j (by omega) (by omega)
                    have hbk := hI.le k (by omega) (by omega)
                    have hb0 : ∀ i, h0I W cs i ≤ 1000000 := fun i => by unfold h0I; have := hcb i; split; omega; split <;> omega
                    have hb0k := hb0 k
                    have hlxj := intL (l := (fs m).1) (k := j) (by omega)
                    have hlxk := intL (l := (fs m).1) (k := k) (by omega)
                    have hej : (fs m).1.getD j 0 = hL (fs m).1 (j : Int) := by unfold hL; rw [Int.toNat_natCast]
                    have hek : (fs m).1.getD k 0 = hL (fs m).1 (k : Int) := by unfold hL; rw [Int.toNat_natCast]
                    rw [hej] at hlxj
                    rw [hek] at hlxk
                    have hno := relH_no (cs := cs) (st := fs m) (a := (k : Int)) (b := (j : Int))
                    have hyes := relH_yes (cs := cs) (st := fs m) (a := (k : Int)) (b := (j : Int))
                    rw [← hstep] at hno hyes
                    rw [hhk, hhj] at hno hyes
                    obtain ⟨cc, hcc⟩ : ∃ cc, cc = cstI cs (j : Int) := ⟨_, rfl⟩
                    have hrc' := hrc
                    have hcn' := hcn
                    rw [← hcc] at hrc' hcn' hno hyes
                    obtain ⟨xj, hxj⟩ : ∃ x, x = hL (fs m).1 (j : Int) := ⟨_, rfl⟩
                    obtain ⟨xk, hxk⟩ : ∃ x, x = hL (fs m).1 (k : Int) := ⟨_, rfl⟩
                    rw [← hxj] at hlxj hpj hno hyes
                    rw [← hxk] at hlxk hpk hbk hno hyes
                    obtain ⟨fn, hfn⟩ : ∃ fn, fn = fs (m + 1) := ⟨_, rfl⟩
                    obtain ⟨fb, hfb⟩ : ∃ fb, fb = fs m := ⟨_, rfl⟩
                    rw [← hfb, ← hfn] at hno hyes
                    rw [← hfb] at hlxj hlxk hfl
                    rw [← hfn] at hgo
                    rw [← hfb]
                    by_cases h1 : cj ≠ 0
                    · by_cases h2 : ck ≠ 0
                      · by_cases h3 : xk + cc < xj
                        · have e := hyes (dd_t h2) (dd_t h1) h3
                          have hcell : setL (fb.1.map C.i) (mulS ((j : Nat) : Int).toNat 1) [C.i (xk + cc)] = fn.1.map C.i := by rw [setL_int rfl, e, Int.toNat_natCast]
                          repeat ((conv => whnf); first | (refine And.intro (by first | omega | exact Nat.le_of_ble_eq_true rfl | (dsimp only [inK]; omega) | (simp only [mulS_eq]; omega) | (simp only [mulS_eq, setL_length]; omega) | (simp only [setL_length, List.length_map]; omega) | exact ⟨by omega, by omega, by first | exact Nat.le_of_ble_eq_true rfl | (dsimp only; omega) | (simp only [setL_length]; omega) | (simp only [setL_length, List.length_map]; omega)⟩ | exact ⟨by omega, by first | rfl | omega, by omega, Nat.le_of_ble_eq_true rfl, Nat.le_of_ble_eq_true rfl⟩ | exact ⟨rfl, rfl, rfl, Nat.le_of_ble_eq_true rfl, by first | rfl | omega | exact Nat.le_of_ble_eq_true rfl | (dsimp only; omega) | (simp; done) | (simp; omega), by first | rfl | omega | exact Nat.le_of_ble_eq_true rfl | (dsimp only; omega) | (simp; done) | (simp; omega), by omega, Nat.le_of_ble_eq_true rfl⟩ | exact Eq.refl true) ?_) | (with_reducible refine ld (hldm) ?_) | (with_reducible refine ld (hldk) ?_) | (with_reducible refine ld (hlxj) ?_) | (with_reducible refine ld (hlxk) ?_) | (refine Exists.intro _ (And.intro rfl ?_)) | (refine And.intro (And.intro rfl (chk_rowI _ _ _ _)) ?_) | (refine br_t (by omega) ?_) | (refine br_f (by omega) ?_) | (refine bs_t (by omega) ?_) | (refine bs_f (by omega) ?_) | (refine fun (K' : K3) hK' => ?_) | (refine hK' _ _ _ ?_; clear hK' K') | (refine draw_auto tok mixed (by kernel_rfl) ?_) | (refine And.intro (by refine ⟨by omega, by omega, ?_⟩; (try dsimp only); simp only [List.length_map]; omega) ?_) | (refine bs_bt (nd_t h1) ?_) | (refine br_bt (nd_t h1) ?_) | (refine bs_t h1 ?_) | (refine br_t h1 ?_) | (refine bs_bt (nd_t h2) ?_) | (refine br_bt (nd_t h2) ?_) | (refine bs_t h2 ?_) | (refine br_t h2 ?_) | (refine HD_mk (fun _ h => CallK.val (R := []) hrc' (by kernel_rfl) rfl (by simp [V.wf, A.wf, C.wf]) ⟨roE_ints (l := 0) rfl (by omega) rfl (.inl rfl), trivial⟩ rfl rfl trivial h) ?_) | (refine bs_t h3 ?_) | (refine br_t h3 ?_) | (refine And.intro (by (try dsimp only); rw [mulS_eq]; simp only [List.length_map, Int.toNat_natCast]; omega) ?_) | (refine bs_bt (Eq.refl true) ?_) | (refine bs_bf (Eq.refl false) ?_) | (refine br_bt (Eq.refl true) ?_) | (refine br_bf (Eq.refl false) ?_) | (refine CallK.m ?_) | (refine And.intro (And.intro rfl rfl) ?_))
                          refine ⟨m + 1, [], ⟨by omega, by rw [← hfn]; exact hgo⟩, by omega, ?_⟩
                          rw [← hfn]
                          refine ⟨?_, ?_, rfl, rfl, by first | exact Nat.le_of_ble_eq_true rfl | exact Nat.le_refl _ | omega⟩
                          · repeat (first | exact trivial | refine And.intro (covS_syn (by first | rfl | (refine congrArg some (congrArg V.i ?_); omega)) rfl (by first | exact trivial | exact Nat.le_of_ble_eq_true rfl | exact hy | exact (fun p hp => nomatch hp) | (show (_ : Nat) < _; omega))) ?_ | refine And.intro (covS_bool rfl rfl (by first | rfl | (exact (congrArg Prod.snd e).symm))) ?_)
                          · repeat (first | exact trivial | refine And.intro (covE_id (Nat.le_of_ble_eq_true rfl) (by first | exact wf_ints _ _ | exact wf_bools _ _ | first | exact wf_cells _ _ | exact wf_zc _ | simp [C.wf]) rfl (by first | rfl | (exact hcell))) ?_)
                        · have e := hno (.inr (.inr h3))
                          repeat ((conv => whnf); first | (refine And.intro (by first | omega | exact Nat.le_of_ble_eq_true rfl | (dsimp only [inK]; omega) | (simp only [mulS_eq]; omega) | (simp only [mulS_eq, setL_length]; omega) | (simp only [setL_length, List.length_map]; omega) | exact ⟨by omega, by omega, by first | exact Nat.le_of_ble_eq_true rfl | (dsimp only; omega) | (simp only [setL_length]; omega) | (simp only [setL_length, List.length_map]; omega)⟩ | exact ⟨by omega, by first | rfl | omega, by omega, Nat.le_of_ble_eq_true rfl, Nat.le_of_ble_eq_true rfl⟩ | exact ⟨rfl, rfl, rfl, Nat.le_of_ble_eq_true rfl, by first | rfl | omega | exact Nat.le_of_ble_eq_true rfl | (dsimp only; omega) | (simp; done) | (simp; omega), by first | rfl | omega | exact Nat.le_of_ble_eq_true rfl | (dsimp only; omega) | (simp; done) | (simp; omega), by omega, Nat.le_of_ble_eq_true rfl⟩ | exact Eq.refl true) ?_) | (with_reducible refine ld (hldm) ?_) | (with_reducible refine ld (hldk) ?_) | (with_reducible refine ld (hlxj) ?_) | (with_reducible refine ld (hlxk) ?_) | (refine Exists.intro _ (And.intro rfl ?_)) | (refine And.intro (And.intro rfl (chk_rowI _ _ _ _)) ?_) | (refine br_t (by omega) ?_) | (refine br_f (by omega) ?_) | (refine bs_t (by omega) ?_) | (refine bs_f (by omega) ?_) | (refine fun (K' : K3) hK' => ?_) | (refine hK' _ _ _ ?_; clear hK' K') | (refine draw_auto tok mixed (by kernel_rfl) ?_) | (refine And.intro (by refine ⟨by omega, by omega, ?_⟩; (try dsimp only); simp only [List.length_map]; omega) ?_) | (refine bs_bt (nd_t h1) ?_) | (refine br_bt (nd_t h1) ?_) | (refine bs_t h1 ?_) | (refine br_t h1 ?_) | (refine bs_bt (nd_t h2) ?_) | (refine br_bt (nd_t h2) ?_) | (refine bs_t h2 ?_) | (refine br_t h2 ?_) | (refine HD_mk (fun _ h => CallK.val (R := []) hrc' (by kernel_rfl) rfl (by simp [V.wf, A.wf, C.wf]) ⟨roE_ints (l := 0) rfl (by omega) rfl (.inl rfl), trivial⟩ rfl rfl trivial h) ?_) | (refine bs_f h3 ?_) | (refine br_f h3 ?_) | (refine bs_bt (Eq.refl true) ?_) | (refine bs_bf (Eq.refl false) ?_) | (refine br_bt (Eq.refl true) ?_) | (refine br_bf (Eq.refl false) ?_) | (refine CallK.m ?_) | (refine And.intro (And.intro rfl rfl) ?_))
                          refine ⟨m + 1, [], ⟨by omega, by rw [← hfn]; exact hgo⟩, by omega, ?_⟩
                          rw [← hfn]
                          refine ⟨?_, ?_, rfl, rfl, by first | exact Nat.le_of_ble_eq_true rfl | exact Nat.le_refl _ | omega⟩
                          · repeat (first | exact trivial | refine And.intro (covS_syn (by first | rfl | (refine congrArg some (congrArg V.i ?_); omega)) rfl (by first | exact trivial | exact Nat.le_of_ble_eq_true rfl | exact hy | exact (fun p hp => nomatch hp) | (show (_ : Nat) < _; omega))) ?_ | refine And.intro (covS_bool rfl rfl (by first | rfl | (exact (congrArg Prod.snd e).symm))) ?_)
                          · repeat (first | exact trivial | refine And.intro (covE_id (Nat.le_of_ble_eq_true rfl) (by first | exact wf_ints _ _ | exact wf_bools _ _ | first | exact wf_cells _ _ | exact wf_zc _ | simp [C.wf]) rfl (by first | rfl | (exact congrArg (fun x : List Int × Bool => x.1.map C.i) e.symm))) ?_)
                      · have e := hno (.inl (dd_f h2))
                        repeat ((conv => whnf); first | (refine And.intro (by first | omega | exact Nat.le_of_ble_eq_true rfl | (dsimp only [inK]; omega) | (simp only [mulS_eq]; omega) | (simp only [mulS_eq, setL_length]; omega) | (simp only [setL_length, List.length_map]; omega) | exact ⟨by omega, by omega, by first | exact Nat.le_of_ble_eq_true rfl | (dsimp only; omega) | (simp only [setL_length]; omega) | (simp only [setL_length, List.length_map]; omega)⟩ | exact ⟨by omega, by first | rfl | omega, by omega, Nat.le_of_ble_eq_true rfl, Nat.le_of_ble_eq_true rfl⟩ | exact ⟨rfl, rfl, rfl, Nat.le_of_ble_eq_true rfl, by first | rfl | omega | exact Nat.le_of_ble_eq_true rfl | (dsimp only; omega) | (simp; done) | (simp; omega), by first | rfl | omega | exact Nat.le_of_ble_eq_true rfl | (dsimp only; omega) | (simp; done) | (simp; omega), by omega, Nat.le_of_ble_eq_true rfl⟩ | exact Eq.refl true) ?_) | (with_reducible refine ld (hldm) ?_) | (with_reducible refine ld (hldk) ?_) | (with_reducible refine ld (hlxj) ?_) | (with_reducible refine ld (hlxk) ?_) | (refine Exists.intro _ (And.intro rfl ?_)) | (refine And.intro (And.intro rfl (chk_rowI _ _ _ _)) ?_) | (refine br_t (by omega) ?_) | (refine br_f (by omega) ?_) | (refine bs_t (by omega) ?_) | (refine bs_f (by omega) ?_) | (refine fun (K' : K3) hK' => ?_) | (refine hK' _ _ _ ?_; clear hK' K') | (refine draw_auto tok mixed (by kernel_rfl) ?_) | (refine And.intro (by refine ⟨by omega, by omega, ?_⟩; (try dsimp only); simp only [List.length_map]; omega) ?_) | (refine bs_bt (nd_t h1) ?_) | (refine br_bt (nd_t h1) ?_) | (refine bs_t h1 ?_) | (refine br_t h1 ?_) | (refine bs_bf (nd_f (Classical.byContradiction h2)) ?_) | (refine br_bf (nd_f (Classical.byContradiction h2)) ?_) | (refine bs_f h2 ?_) | (refine br_f h2 ?_) | (refine bs_bt (Eq.refl true) ?_) | (refine bs_bf (Eq.refl false) ?_) | (refine br_bt (Eq.refl true) ?_) | (refine br_bf (Eq.refl false) ?_) | (refine CallK.m ?_) | (refine And.intro (And.intro rfl rfl) ?_))
                        refine ⟨m + 1, [], ⟨by omega, by rw [← hfn]; exact hgo⟩, by omega, ?_⟩
                        rw [← hfn]
                        refine ⟨?_, ?_, rfl, rfl, by first | exact Nat.le_of_ble_eq_true rfl | exact Nat.le_refl _ | omega⟩
                        · repeat (first | exact trivial | refine And.intro (covS_syn (by first | rfl | (refine congrArg some (congrArg V.i ?_); omega)) rfl (by first | exact trivial | exact Nat.le_of_ble_eq_true rfl | exact hy | exact (fun p hp => nomatch hp) | (show (_ : Nat) < _; omega))) ?_ | refine And.intro (covS_bool rfl rfl (by first | rfl | (exact (congrArg Prod.snd e).symm))) ?_)
                        · repeat (first | exact trivial | refine And.intro (covE_id (Nat.le_of_ble_eq_true rfl) (by first | exact wf_ints _ _ | exact wf_bools _ _ | first | exact wf_cells _ _ | exact wf_zc _ | simp [C.wf]) rfl (by first | rfl | (exact congrArg (fun x : List Int × Bool => x.1.map C.i) e.symm))) ?_)
                    · have e := hno (.inr (.inl (dd_f h1)))
                      repeat ((conv => whnf); first | (refine And.intro (by first | omega | exact Nat.le_of_ble_eq_true rfl | (dsimp only [inK]; omega) | (simp only [mulS_eq]; omega) | (simp only [mulS_eq, setL_length]; omega) | (simp only [setL_length, List.length_map]; omega) | exact ⟨by omega, by omega, by first | exact Nat.le_of_ble_eq_true rfl | (dsimp only; omega) | (simp only [setL_length]; omega) | (simp only [setL_length, List.length_map]; omega)⟩ | exact ⟨by omega, by first | rfl | omega, by omega, Nat.le_of_ble_eq_true rfl, Nat.le_of_ble_eq_true rfl⟩ | exact ⟨rfl, rfl, rfl, Nat.le_of_ble_eq_true rfl, by first | rfl | omega | exact Nat.le_of_ble_eq_true rfl | (dsimp only; omega) | (simp; done) | (simp; omega), by first | rfl | omega | exact Nat.le_of_ble_eq_true rfl | (dsimp only; omega) | (simp; done) | (simp; omega), by omega, Nat.le_of_ble_eq_true rfl⟩ | exact Eq.refl true) ?_) | (with_reducible refine ld (hldm) ?_) | (refine Exists.intro _ (And.intro rfl ?_)) | (refine And.intro (And.intro rfl (chk_rowI _ _ _ _)) ?_) | (refine br_t (by omega) ?_) | (refine br_f (by omega) ?_) | (refine bs_t (by omega) ?_) | (refine bs_f (by omega) ?_) | (refine fun (K' : K3) hK' => ?_) | (refine hK' _ _ _ ?_; clear hK' K') | (refine draw_auto tok mixed (by kernel_rfl) ?_) | (refine And.intro (by refine ⟨by omega, by omega, ?_⟩; (try dsimp only); simp only [List.length_map]; omega) ?_) | (refine bs_bf (nd_f (Classical.byContradiction h1)) ?_) | (refine br_bf (nd_f (Classical.byContradiction h1)) ?_) | (refine bs_f h1 ?_) | (refine br_f h1 ?_) | (refine bs_bt (Eq.refl true) ?_) | (refine bs_bf (Eq.refl false) ?_) | (refine br_bt (Eq.refl true) ?_) | (refine br_bf (Eq.refl false) ?_) | (refine CallK.m ?_) | (refine And.intro (And.intro rfl rfl) ?_))
                      refine ⟨m + 1, [], ⟨by omega, by rw [← hfn]; exact hgo⟩, by omega, ?_⟩
                      rw [← hfn]
                      refine ⟨?_, ?_, rfl, rfl, by first | exact Nat.le_of_ble_eq_true rfl | exact Nat.le_refl _ | omega⟩
                      · repeat (first | exact trivial | refine And.intro (covS_syn (by first | rfl | (refine congrArg some (congrArg V.i ?_); omega)) rfl (by first | exact trivial | exact Nat.le_of_ble_eq_true rfl | exact hy | exact (fun p hp => nomatch hp) | (show (_ : Nat) < _; omega))) ?_ | refine And.intro (covS_bool rfl rfl (by first | rfl | (exact (congrArg Prod.snd e).symm))) ?_)
                      · repeat (first | exact trivial | refine And.intro (covE_id (Nat.le_of_ble_eq_true rfl) (by first | exact wf_ints _ _ | exact wf_bools _ _ | first | exact wf_cells _ _ | exact wf_zc _ | simp [C.wf]) rfl (by first | rfl | (exact congrArg (fun x : List Int × Bool => x.1.map C.i) e.symm))) ?_)
                  · have hme : m = nl.length := by omega
                    subst hme
                    repeat ((conv => whnf); first | (refine And.intro (by first | omega | exact Nat.le_of_ble_eq_true rfl | (dsimp only [inK]; omega) | (simp only [mulS_eq]; omega) | (simp only [mulS_eq, setL_length]; omega) | (simp only [setL_length, List.length_map]; omega) | exact ⟨by omega, by omega, by first | exact Nat.le_of_ble_eq_true rfl | (dsimp only; omega) | (simp only [setL_length]; omega) | (simp only [setL_length, List.length_map]; omega)⟩ | exact ⟨by omega, by first | rfl | omega, by omega, Nat.le_of_ble_eq_true rfl, Nat.le_of_ble_eq_true rfl⟩ | exact ⟨rfl, rfl, rfl, Nat.le_of_ble_eq_true rfl, by first | rfl | omega | exact Nat.le_of_ble_eq_true rfl | (dsimp only; omega) | (simp; done) | (simp; omega), by first | rfl | omega | exact Nat.le_of_ble_eq_true rfl | (dsimp only; omega) | (simp; done) | (simp; omega), by omega, Nat.le_of_ble_eq_true rfl⟩ | exact Eq.refl true) ?_) | (refine Exists.intro _ (And.intro rfl ?_)) | (refine And.intro (And.intro rfl (chk_rowI _ _ _ _)) ?_) | (refine br_t (by omega) ?_) | (refine br_f (by omega) ?_) | (refine bs_t (by omega) ?_) | (refine bs_f (by omega) ?_) | (refine fun (K' : K3) hK' => ?_) | (refine hK' _ _ _ ?_; clear hK' K') | (refine draw_auto tok mixed (by kernel_rfl) ?_) | (refine bs_bt (Eq.refl true) ?_) | (refine bs_bf (Eq.refl false) ?_) | (refine br_bt (Eq.refl true) ?_) | (refine br_bf (Eq.refl false) ?_) | (refine CallK.m ?_) | (refine And.intro (And.intro rfl rfl) ?_))
                    refine ⟨j + 1, [], by omega, by omega, ?_⟩
                    refine ⟨?_, ?_, rfl, rfl, by first | exact Nat.le_of_ble_eq_true rfl | exact Nat.le_refl _ | omega⟩
                    · repeat (first | exact trivial | refine And.intro (covS_syn (by first | rfl | (refine congrArg some (congrArg V.i ?_); omega)) rfl (by first | exact trivial | exact Nat.le_of_ble_eq_true rfl | exact hy | exact (fun p hp => nomatch hp) | (show (_ : Nat) < _; omega))) ?_ | refine And.intro (covS_bool rfl rfl (by first | rfl | (exact congrArg Prod.snd hfsn))) ?_)
                    · repeat (first | exact trivial | refine And.intro (covE_id (Nat.le_of_ble_eq_true rfl) (by first | exact wf_ints _ _ | exact wf_bools _ _ | first | exact wf_cells _ _ | exact wf_zc _ | simp [C.wf]) rfl (by first | rfl | (exact congrArg (fun x : List Int × Bool => x.1.map C.i) hfsn))) ?_)
              · have hkn : j = cs.length := by omega
                subst hkn
                repeat ((conv => whnf); first | (refine And.intro (by first | omega | exact Nat.le_of_ble_eq_true rfl | (dsimp only [inK]; omega) | (simp only [mulS_eq]; omega) | (simp only [mulS_eq, setL_length]; omega) | (simp only [setL_length, List.length_map]; omega) | exact ⟨by omega, by omega, by first | exact Nat.le_of_ble_eq_true rfl | (dsimp only; omega) | (simp only [setL_length]; omega) | (simp only [setL_length, List.length_map]; omega)⟩ | exact ⟨by omega, by first | rfl | omega, by omega, Nat.le_of_ble_eq_true rfl, Nat.le_of_ble_eq_true rfl⟩ | exact ⟨rfl, rfl, rfl, Nat.le_of_ble_eq_true rfl, by first | rfl | omega | exact Nat.le_of_ble_eq_true rfl | (dsimp only; omega) | (simp; done) | (simp; omega), by first | rfl | omega | exact Nat.le_of_ble_eq_true rfl | (dsimp only; omega) | (simp; done) | (simp; omega), by omega, Nat.le_of_ble_eq_true rfl⟩ | exact Eq.refl true) ?_) | (refine Exists.intro _ (And.intro rfl ?_)) | (refine And.intro (And.intro rfl (chk_rowI _ _ _ _)) ?_) | (refine br_t (by omega) ?_) | (refine br_f (by omega) ?_) | (refine bs_t (by omega) ?_) | (refine bs_f (by omega) ?_) | (refine fun (K' : K3) hK' => ?_) | (refine hK' _ _ _ ?_; clear hK' K') | (refine draw_auto tok mixed (by kernel_rfl) ?_) | (refine bs_bt (Eq.refl true) ?_) | (refine bs_bf (Eq.refl false) ?_) | (refine br_bt (Eq.refl true) ?_) | (refine br_bf (Eq.refl false) ?_) | (refine CallK.m ?_) | (refine And.intro (And.intro rfl rfl) ?_))
                have hgo := hpsg cs.length (Nat.le_refl _)
                refine ⟨(ps cs.length), [], ⟨hgo.ok hst, fun h => by obtain ⟨q1, q2⟩ := hpse h; rw [q1]; exact q2⟩, ?_, ?_⟩
                · have hp0 := hst.sum
                  have hp1 := (hgo.ok hst).sum
                  cases hb : (ps cs.length).2 with
                  | false => rw [(hpse hb).1]; simp
                  | true =>
                    rcases hgo.less hst hb with ⟨h, _⟩ | h
                    · cases h
                    · simp only [sumH] at *; simp only [if_true]; omega
                · skip
                  refine ⟨?_, ?_, rfl, rfl, by first | exact Nat.le_of_ble_eq_true rfl | exact Nat.le_refl _ | omega⟩
                  · repeat (first | exact trivial | refine And.intro (covS_syn (by first | rfl) rfl (by first | exact trivial | exact Nat.le_of_ble_eq_true rfl | exact hy | exact (fun p hp => nomatch hp) | (show (_ : Nat) < _; omega))) ?_ | refine And.intro (covS_bool rfl rfl (by first | rfl)) ?_)
                  · repeat (first | exact trivial | refine And.intro (covE_id (Nat.le_of_ble_eq_true rfl) (by first | exact wf_ints _ _ | exact wf_bools _ _ | first | exact wf_cells _ _ | exact wf_zc _ | simp [C.wf]) rfl (by first | rfl)) ?_)
end Go.Proofs.Ytbhpnhcdjmcaoaa

/- Boom: a range over the neighbours of a cell of a chart whose booms lie anywhere. -/
namespace Go.Proofs.Ytbhpnhcdjmcaoaa
open Go.RowKit
set_option linter.unusedVariables false
set_option linter.unusedSimpArgs false
/-- What lies there within the range: the cell, the record, what the neighbours were asked with, and the caller's. -/
abbrev ownNM (ml : Nat) (W H : Int) (n : Nat) (i : Int) (e : Bool) (oo : Obj) (L : List E) : List E :=
  ⟨40, .own 57, [C.i (i % W), C.i (i / W)]⟩ :: ⟨16, .obj oo, []⟩ :: ⟨15, .own 4, [.bool e]⟩ :: ⟨14, .own 3, [C.i i]⟩ :: ⟨13, .own 65, [C.i W, C.i H, .sl 0 n, .mp ml]⟩ :: L
abbrev ownSM (ml : Nat) (W H : Int) (n : Nat) (i : Int) (e : Bool) (oo : Obj) (L : List E) : List E :=
  ⟨16, .obj oo, []⟩ :: ⟨15, .own 4, [.bool e]⟩ :: ⟨14, .own 3, [C.i i]⟩ :: ⟨13, .own 65, [C.i W, C.i H, .sl 0 n, .mp ml]⟩ :: L
theorem MOK.ownM {ml : Nat} {W H : Int} {n : Nat} {i : Int} {e : Bool} {oo : Obj} {L : List E} (h : MOK 40 (ownSM ml W H n i e oo L)) : MOK 41 (ownNM ml W H n i e oo L) := by
  refine ⟨fun x hx => ?_, ?_⟩
  · rcases List.mem_cons.1 hx with rfl | hx
    · exact ⟨by show 40 < 41; omega, fun c hc => by simp only [List.mem_cons, List.not_mem_nil, or_false] at hc; rcases hc with rfl | rfl <;> trivial⟩
    · have := h.1 x hx; exact ⟨by omega, fun c hc => C.wf_mono (by omega) (this.2 c hc)⟩
  · show injB [] (_ :: ownSM ml W H n i e oo L) = true
    rw [injB, Bool.and_eq_true]
    refine ⟨List.all_eq_true.2 fun x hx => ?_, h.2⟩
    have h1 : x.lab < 40 := (h.1 x hx).1
    have h2 : Nat.beq x.lab 40 = false := by
      cases hb : Nat.beq x.lab 40 with
      | false => rfl
      | true => have := Nat.eq_of_beq_eq_true hb; omega
    have h3 : Nat.beq 40 x.lab = false := by
      cases hb : Nat.beq 40 x.lab with
      | false => rfl
      | true => have := Nat.eq_of_beq_eq_true hb; omega
    simp only [renL, h2, h3]; rfl
set_option maxRecDepth 10000 in
set_option maxHeartbeats 4000000 in
theorem Tri.nearM {n0 : Nat} {cx : Cx} {N na : Nat} {ml : Nat} {W H : Int} {n : Nat} {i : Int} {e : Bool} {g : Operand} {ps : Array Tmp} {asg bd : Code} {K : Kt} {s : S} {Ls : List E} {R0 : Rn} (I : List Int → Prop) (L' : List Int → List E) (hI0 : I [])
    (hW : 0 < W ∧ W ≤ 10) (hH : 0 < H ∧ H ≤ 10) (hi : 0 ≤ i ∧ i ≤ 1000)
    (hg : ev s g = some (V.c (.fn 104 [(13, 0), (14, 0), (15, 0)]))) (hps : (ps.toList.all fun p => Nat.blt p N) = true) (hp1 : ps.toList.length = 1)
    (h0 : ∀ oo : Obj, Enter R0 17 40 [] (⟨16, .obj oo, []⟩ :: Ls) [] (ownSM ml W H n i e oo (L' [])))
    (body : ∀ (oo ob : Obj) (od : Code → Obj) (pre post : List Int) (k : Int), nearL W H e i = pre ++ k :: post → 0 ≤ k → k < W * H → I pre →
      Rnd Try.prog n0 cx N s ps asg bd 16 oo ob od [V.i k] (ownNM ml W H n i e oo (L' pre)) 41 (fun v L2 nx2 => (v = V.c .tt ∧ I (pre ++ [k]) ∧ ∃ R, renL R 40 = some 40 ∧ Enter R 17 41 [] L2 [] (ownNM ml W H n i e oo (L' (pre ++ [k])))) ∨ (v = V.c .ff ∧ EndK 16 oo od K s L2 nx2)))
    (hend : ∀ (oo : Obj) (od : Code → Obj), I (nearL W H e i) → EndK 16 oo od K s (ownNM ml W H n i e oo (L' (nearL W H e i))) 41) :
    Tri Try.prog n0 cx N na (.rangeFunc g ps asg bd) K s Ls 16 := by
  refine Tri.rangeFunc tok hg (by kernel_rfl) (by exact rfl) (by exact rfl) (by exact rfl) (by exact rfl) (by exact rfl) hps ?_
  intro y cxi oo ob od hy hY
  have hfix : ∀ {R : Rn} {l : Nat}, fixB R 17 = true → l < 17 → renL R l = some l := fun h hl => fixB_spec h hl
  have hptr : ∀ {R : Rn} {l o : Nat}, renL R l = some l → V.ren R (V.c (.ptr l o)) = some (V.c (.ptr l o)) := fun {R l o} h => by simp only [V.ren, A.ren, C.ren, V.c, h]
  have hE0 := h0 oo
  refine Tri.enter (R := R0) (nx' := 40) (s' := enterS (V.c (.v y) :: [(13, 0), (14, 0), (15, 0)].map ptrV) 0) (L' := ownSM ml W H n i e oo (L' [])) ?_ ⟨?_, hE0.l, hE0.inj, hE0.fix, hE0.na⟩
  rotate_left
  · refine And.intro (covS_syn rfl rfl hy) (And.intro (covS_syn (hptr (hfix hE0.fix (by omega))).symm rfl (by show 13 < 40; omega)) (And.intro (covS_syn (hptr (hfix hE0.fix (by omega))).symm rfl (by show 14 < 40; omega)) (And.intro (covS_syn (hptr (hfix hE0.fix (by omega))).symm rfl (by show 15 < 40; omega)) trivial)))
  have hm0 : MOK 41 (ownNM ml W H n i e oo (L' [])) := hE0.mok.ownM
  have hx0 : 0 ≤ i % W := Int.emod_nonneg _ (by omega)
  have hx1 : i % W < W := Int.emod_lt_of_pos _ (by omega)
  have hy0 : 0 ≤ i / W := Int.ediv_nonneg hi.1 (by omega)
  have hy1 : i / W ≤ 1000 := Int.le_trans (Int.ediv_le_self _ hi.1) (by omega)
  have hWH : W * H ≤ 100 := by have := Int.mul_le_mul hW.2 hH.2 (by omega) (by omega : (0:Int) ≤ 10); omega
  have hno : ∀ x ∈ L' [], x.lab ≠ 40 := fun x hx => by have := (hE0.mok.1 x (by simp [hx])).1; omega
  clear h0 hE0
  refine vc_ok tok ?_
  repeat ((conv => whnf); first | (refine And.intro (by first | omega | exact Nat.le_of_ble_eq_true rfl | (dsimp only [inK]; omega) | (simp only [mulS_eq]; omega) | (simp only [mulS_eq, setL_length]; omega) | (simp only [setL_length, List.length_map]; omega) | exact ⟨by omega, by omega, by first | exact Nat.le_of_ble_eq_true rfl | (dsimp only; omega) | (simp only [setL_length]; omega) | (simp only [setL_length, List.length_map]; omega)⟩ | exact ⟨by omega, by first | rfl | omega, by omega, Nat.le_of_ble_eq_true rfl, Nat.le_of_ble_eq_true rfl⟩ | exact ⟨rfl, rfl, rfl, Nat.le_of_ble_eq_true rfl, by first | rfl | omega | exact Nat.le_of_ble_eq_true rfl | (dsimp only; omega) | (simp; done) | (simp; omega), by first | rfl | omega | exact Nat.le_of_ble_eq_true rfl | (dsimp only; omega) | (simp; done) | (simp; omega), by omega, Nat.le_of_ble_eq_true rfl⟩ | exact Eq.refl true) ?_) | (refine Exists.intro _ (And.intro rfl ?_)) | (refine And.intro (And.intro rfl (chk_rowI _ _ _ _)) ?_) | (refine br_t (by omega) ?_) | (refine br_f (by omega) ?_) | (refine bs_t (by omega) ?_) | (refine bs_f (by omega) ?_) | (refine fun (K' : K3) hK' => ?_) | (refine hK' _ _ _ ?_; clear hK' K') | (refine draw_auto tok mixed (by kernel_rfl) ?_) | (refine CallK.val (R := [(1, some ml)]) (cell_spec W H n i (by omega) (by omega) (by omega)) (by kernel_rfl) rfl (by simp [V.wf, A.wf, C.wf]) trivial rfl rfl (by simp [V.wf, A.wf, C.wf]) ?_) | (with_reducible refine updK_no hno ?_) | (refine bs_bt (Eq.refl true) ?_) | (refine bs_bf (Eq.refl false) ?_) | (refine br_bt (Eq.refl true) ?_) | (refine br_bf (Eq.refl false) ?_) | (refine CallK.m ?_) | (refine And.intro (And.intro rfl rfl) ?_))
  refine Tri.loop (γ := Nat) (fun a => a ≤ 3 ∧ MOK 41 (ownNM ml W H n i e oo (L' (candP W H e i (3 * a)))) ∧ I (candP W H e i (3 * a))) (fun a => [(0, V.c (.v y)), (1, V.c (.ptr 13 0)), (2, V.c (.ptr 14 0)), (3, V.c (.ptr 15 0)), (5, V.c (.ptr 40 0)), (6, V.i ((a : Int) - 1))])
    (fun a => ownNM ml W H n i e oo (L' (candP W H e i (3 * a)))) 41 (fun a => 3 - a) 0 (R0 := []) ?_ ?_ ?_
  · exact ⟨by omega, hm0, hI0⟩
  · refine ⟨?_, hm0.cov, hm0.2, rfl, Nat.le_of_ble_eq_true rfl⟩
    repeat (first | exact trivial | refine And.intro (covS_syn (by first | rfl) rfl (by first | exact trivial | exact Nat.le_of_ble_eq_true rfl | exact hy)) ?_)
  · rintro a ⟨ha, hma, hIa⟩
    refine vc_ok tok ?_
    by_cases ha3 : a < 3
    · repeat ((conv => whnf); first | (refine And.intro (by first | omega | exact Nat.le_of_ble_eq_true rfl | (dsimp only [inK]; omega) | (simp only [mulS_eq]; omega) | (simp only [mulS_eq, setL_length]; omega) | (simp only [setL_length, List.length_map]; omega) | exact ⟨by omega, by omega, by first | exact Nat.le_of_ble_eq_true rfl | (dsimp only; omega) | (simp only [setL_length]; omega) | (simp only [setL_length, List.length_map]; omega)⟩ | exact ⟨by omega, by first | rfl | omega, by omega, Nat.le_of_ble_eq_true rfl, Nat.le_of_ble_eq_true rfl⟩ | exact ⟨rfl, rfl, rfl, Nat.le_of_ble_eq_true rfl, by first | rfl | omega | exact Nat.le_of_ble_eq_true rfl | (dsimp only; omega) | (simp; done) | (simp; omega), by first | rfl | omega | exact Nat.le_of_ble_eq_true rfl | (dsimp only; omega) | (simp; done) | (simp; omega), by omega, Nat.le_of_ble_eq_true rfl⟩ | exact Eq.refl true) ?_) | (refine Exists.intro _ (And.intro rfl ?_)) | (refine And.intro (And.intro rfl (chk_rowI _ _ _ _)) ?_) | (refine br_t (by omega) ?_) | (refine br_f (by omega) ?_) | (refine bs_t (by omega) ?_) | (refine bs_f (by omega) ?_) | (refine fun (K' : K3) hK' => ?_) | (refine hK' _ _ _ ?_; clear hK' K') | (refine draw_auto tok mixed (by kernel_rfl) ?_) | (refine bs_bt (Eq.refl true) ?_) | (refine bs_bf (Eq.refl false) ?_) | (refine br_bt (Eq.refl true) ?_) | (refine br_bf (Eq.refl false) ?_) | (refine CallK.m ?_) | (refine And.intro (And.intro rfl rfl) ?_))
      refine Tri.loop (γ := Nat) (fun b => b ≤ 3 ∧ MOK 41 (ownNM ml W H n i e oo (L' (candP W H e i (3 * a + b)))) ∧ I (candP W H e i (3 * a + b))) (fun b => [(0, V.c (.v y)), (1, V.c (.ptr 13 0)), (2, V.c (.ptr 14 0)), (3, V.c (.ptr 15 0)), (5, V.c (.ptr 40 0)), (6, V.i ((a : Int) - 1)), (7, V.i ((b : Int) - 1))])
        (fun b => ownNM ml W H n i e oo (L' (candP W H e i (3 * a + b)))) 41 (fun b => 3 - b) 0 (R0 := []) ?_ ?_ ?_
      · exact ⟨by omega, hma, hIa⟩
      · refine ⟨?_, hma.cov, hma.2, rfl, Nat.le_of_ble_eq_true rfl⟩
        repeat (first | exact trivial | refine And.intro (covS_syn (by first | rfl) rfl (by first | exact trivial | exact Nat.le_of_ble_eq_true rfl | exact hy)) ?_)
      · rintro b ⟨hb, hmb, hIb⟩
        refine vc_ok tok ?_
        by_cases hb3 : b < 3
        · -- the round's end where nothing was handed out
          have stay : ∀ {s2 : S}, candP W H e i (3 * a + (b + 1)) = candP W H e i (3 * a + b) → covS [] 41 s2 [(0, V.c (.v y)), (1, V.c (.ptr 13 0)), (2, V.c (.ptr 14 0)), (3, V.c (.ptr 15 0)), (5, V.c (.ptr 40 0)), (6, V.i ((a : Int) - 1)), (7, V.i (((b + 1 : Nat) : Int) - 1))] →
              ∃ g' R, (g' ≤ 3 ∧ MOK 41 (ownNM ml W H n i e oo (L' (candP W H e i (3 * a + g')))) ∧ I (candP W H e i (3 * a + g'))) ∧ 3 - g' < 3 - b ∧ Enter R 17 41 s2 (ownNM ml W H n i e oo (L' (candP W H e i (3 * a + b)))) [(0, V.c (.v y)), (1, V.c (.ptr 13 0)), (2, V.c (.ptr 14 0)), (3, V.c (.ptr 15 0)), (5, V.c (.ptr 40 0)), (6, V.i ((a : Int) - 1)), (7, V.i ((g' : Int) - 1))] (ownNM ml W H n i e oo (L' (candP W H e i (3 * a + g')))) := fun {s2} hst hS => by
            refine ⟨b + 1, [], ⟨by omega, by rw [hst]; exact hmb, by rw [hst]; exact hIb⟩, by omega, ⟨hS, by rw [hst]; exact hmb.cov, by rw [hst]; exact hmb.2, rfl, Nat.le_of_ble_eq_true rfl⟩⟩
          by_cases hs : (b = 1 ∧ a = 1) ∨ (e = false ∧ b ≠ 1 ∧ a ≠ 1)
          · have hst := candP_none hb3 (cand_skip (W := W) (H := H) (e := e) (x := i % W) (y := i / W) hs)
            rcases hs with ⟨hb1, ha1⟩ | ⟨he, hb1, ha1⟩
            · repeat ((conv => whnf); first | (refine And.intro (by first | omega | exact Nat.le_of_ble_eq_true rfl | (dsimp only [inK]; omega) | (simp only [mulS_eq]; omega) | (simp only [mulS_eq, setL_length]; omega) | (simp only [setL_length, List.length_map]; omega) | exact ⟨by omega, by omega, by first | exact Nat.le_of_ble_eq_true rfl | (dsimp only; omega) | (simp only [setL_length]; omega) | (simp only [setL_length, List.length_map]; omega)⟩ | exact ⟨by omega, by first | rfl | omega, by omega, Nat.le_of_ble_eq_true rfl, Nat.le_of_ble_eq_true rfl⟩ | exact ⟨rfl, rfl, rfl, Nat.le_of_ble_eq_true rfl, by first | rfl | omega | exact Nat.le_of_ble_eq_true rfl | (dsimp only; omega) | (simp; done) | (simp; omega), by first | rfl | omega | exact Nat.le_of_ble_eq_true rfl | (dsimp only; omega) | (simp; done) | (simp; omega), by omega, Nat.le_of_ble_eq_true rfl⟩ | exact Eq.refl true) ?_) | (refine Exists.intro _ (And.intro rfl ?_)) | (refine And.intro (And.intro rfl (chk_rowI _ _ _ _)) ?_) | (refine br_t (by omega) ?_) | (refine br_f (by omega) ?_) | (refine bs_t (by omega) ?_) | (refine bs_f (by omega) ?_) | (refine fun (K' : K3) hK' => ?_) | (refine hK' _ _ _ ?_; clear hK' K') | (refine draw_auto tok mixed (by kernel_rfl) ?_) | (refine bs_t (by omega) ?_) | (refine bs_f (by omega) ?_) | (refine bs_bt (Eq.refl true) ?_) | (refine bs_bf (Eq.refl false) ?_) | (refine br_bt (Eq.refl true) ?_) | (refine br_bf (Eq.refl false) ?_) | (refine CallK.m ?_) | (refine And.intro (And.intro rfl rfl) ?_))
              refine stay hst ?_
              repeat (first | exact trivial | refine And.intro (covS_syn (by first | rfl | (refine congrArg some (congrArg V.i ?_); omega)) rfl (by first | exact trivial | exact Nat.le_of_ble_eq_true rfl | exact hy)) ?_)
            · repeat ((conv => whnf); first | (refine And.intro (by first | omega | exact Nat.le_of_ble_eq_true rfl | (dsimp only [inK]; omega) | (simp only [mulS_eq]; omega) | (simp only [mulS_eq, setL_length]; omega) | (simp only [setL_length, List.length_map]; omega) | exact ⟨by omega, by omega, by first | exact Nat.le_of_ble_eq_true rfl | (dsimp only; omega) | (simp only [setL_length]; omega) | (simp only [setL_length, List.length_map]; omega)⟩ | exact ⟨by omega, by first | rfl | omega, by omega, Nat.le_of_ble_eq_true rfl, Nat.le_of_ble_eq_true rfl⟩ | exact ⟨rfl, rfl, rfl, Nat.le_of_ble_eq_true rfl, by first | rfl | omega | exact Nat.le_of_ble_eq_true rfl | (dsimp only; omega) | (simp; done) | (simp; omega), by first | rfl | omega | exact Nat.le_of_ble_eq_true rfl | (dsimp only; omega) | (simp; done) | (simp; omega), by omega, Nat.le_of_ble_eq_true rfl⟩ | exact Eq.refl true) ?_) | (refine Exists.intro _ (And.intro rfl ?_)) | (refine And.intro (And.intro rfl (chk_rowI _ _ _ _)) ?_) | (refine br_t (by omega) ?_) | (refine br_f (by omega) ?_) | (refine bs_t (by omega) ?_) | (refine bs_f (by omega) ?_) | (refine fun (K' : K3) hK' => ?_) | (refine hK' _ _ _ ?_; clear hK' K') | (refine draw_auto tok mixed (by kernel_rfl) ?_) | (refine bs_t (by omega) ?_) | (refine bs_f (by omega) ?_) | (refine br_bt (by simp [he]) ?_) | (refine bs_bf (by simp [he]) ?_) | (refine bs_bt (Eq.refl true) ?_) | (refine bs_bf (Eq.refl false) ?_) | (refine br_bt (Eq.refl true) ?_) | (refine br_bf (Eq.refl false) ?_) | (refine CallK.m ?_) | (refine And.intro (And.intro rfl rfl) ?_))
              refine stay hst ?_
              repeat (first | exact trivial | refine And.intro (covS_syn (by first | rfl | (refine congrArg some (congrArg V.i ?_); omega)) rfl (by first | exact trivial | exact Nat.le_of_ble_eq_true rfl | exact hy)) ?_)
          · obtain ⟨kk, hkk⟩ : ∃ kk, kk = idxI W H (i % W + ((b : Int) - 1)) (i / W + ((a : Int) - 1)) := ⟨_, rfl⟩
            have hcase : (b = 1 ∧ a ≠ 1) ∨ (b ≠ 1 ∧ (e = true ∨ a = 1)) := by
              by_cases q : b = 1
              · exact .inl ⟨q, fun q2 => hs (.inl ⟨q, q2⟩)⟩
              · refine .inr ⟨q, ?_⟩
                cases e with
                | true => exact .inl rfl
                | false => exact .inr (Classical.byContradiction fun q3 => hs (.inr ⟨rfl, q, q3⟩))
            have hix := index_spec W H n (i % W + ((b : Int) - 1)) (i / W + ((a : Int) - 1)) (by omega) (by omega)
            rw [← hkk] at hix
            have hk100 : kk ≤ 1000 := by
              by_cases hq : kk ≥ 0
              · have := (idxI_lt hW.1 (hkk ▸ hq)).1; rw [hkk]; omega
              · omega
            by_cases hin2 : kk ≥ 0
            · have hc := cand_in (x := i % W) (y := i / W) hs (by rw [← hkk]; exact hin2)
              rw [← hkk] at hc
              obtain ⟨post, hsp⟩ := candP_split ha3 hb3 hc
              have hnew := candP_some hb3 hc
              have hkl : kk < W * H := by rw [hkk] at hin2 ⊢; exact (idxI_lt hW.1 hin2).1
              have hbody := body oo ob od _ post kk hsp hin2 hkl hIb
              rw [← hnew] at hbody
              have go : ∀ {s2 : S} {L2 : List E} {R : Rn}, I (candP W H e i (3 * a + (b + 1))) → renL R 40 = some 40 → Enter R 17 41 [] L2 [] (ownNM ml W H n i e oo (L' (candP W H e i (3 * a + (b + 1))))) → (fixB R 17 = true → covS R 41 s2 [(0, V.c (.v y)), (1, V.c (.ptr 13 0)), (2, V.c (.ptr 14 0)), (3, V.c (.ptr 15 0)), (5, V.c (.ptr 40 0)), (6, V.i ((a : Int) - 1)), (7, V.i (((b + 1 : Nat) : Int) - 1))]) →
                  ∃ g' R, (g' ≤ 3 ∧ MOK 41 (ownNM ml W H n i e oo (L' (candP W H e i (3 * a + g')))) ∧ I (candP W H e i (3 * a + g'))) ∧ 3 - g' < 3 - b ∧ Enter R 17 41 s2 L2 [(0, V.c (.v y)), (1, V.c (.ptr 13 0)), (2, V.c (.ptr 14 0)), (3, V.c (.ptr 15 0)), (5, V.c (.ptr 40 0)), (6, V.i ((a : Int) - 1)), (7, V.i ((g' : Int) - 1))] (ownNM ml W H n i e oo (L' (candP W H e i (3 * a + g')))) := fun {s2 L2 R} hI h1 h2 h3 =>
                ⟨b + 1, R, ⟨by omega, h2.mok, hI⟩, by omega, ⟨h3 h2.fix, h2.l, h2.inj, h2.fix, h2.na⟩⟩
              clear body hend hma hmb stay hm0 hsp hnew hc hkk
              cases e <;> rcases hcase with ⟨q1, q2⟩ | ⟨q1, q2 | q2⟩ <;> (try cases q2)
              all_goals
                repeat ((conv => whnf); first | (refine And.intro (by first | omega | exact Nat.le_of_ble_eq_true rfl | (dsimp only [inK]; omega) | (simp only [mulS_eq]; omega) | (simp only [mulS_eq, setL_length]; omega) | (simp only [setL_length, List.length_map]; omega) | exact ⟨by omega, by omega, by first | exact Nat.le_of_ble_eq_true rfl | (dsimp only; omega) | (simp only [setL_length]; omega) | (simp only [setL_length, List.length_map]; omega)⟩ | exact ⟨by omega, by first | rfl | omega, by omega, Nat.le_of_ble_eq_true rfl, Nat.le_of_ble_eq_true rfl⟩ | exact ⟨rfl, rfl, rfl, Nat.le_of_ble_eq_true rfl, by first | rfl | omega | exact Nat.le_of_ble_eq_true rfl | (dsimp only; omega) | (simp; done) | (simp; omega), by first | rfl | omega | exact Nat.le_of_ble_eq_true rfl | (dsimp only; omega) | (simp; done) | (simp; omega), by omega, Nat.le_of_ble_eq_true rfl⟩ | exact Eq.refl true) ?_) | (refine Exists.intro _ (And.intro rfl ?_)) | (refine And.intro (And.intro rfl (chk_rowI _ _ _ _)) ?_) | (refine br_t (by omega) ?_) | (refine br_f (by omega) ?_) | (refine bs_t (by omega) ?_) | (refine bs_f (by omega) ?_) | (refine fun (K' : K3) hK' => ?_) | (refine hK' _ _ _ ?_; clear hK' K') | (refine draw_auto tok mixed (by kernel_rfl) ?_) | (refine CallK.val (R := [(1, some ml)]) hix (by kernel_rfl) rfl (by simp [V.wf, A.wf, C.wf]) trivial rfl rfl trivial ?_) | (refine bs_bt (Eq.refl true) ?_) | (refine bs_bf (Eq.refl false) ?_) | (refine br_bt (Eq.refl true) ?_) | (refine br_bf (Eq.refl false) ?_) | (refine CallK.m ?_) | (refine And.intro (And.intro rfl rfl) ?_))
                refine hY _ _ _ _ (Nat.le_of_ble_eq_true rfl) hp1.symm ⟨rfl, trivial⟩ (hbody.mono ?_)
                rintro v L2 nx2 (⟨rfl, hI, R, hR40, hE⟩ | ⟨rfl, hE⟩)
                · repeat ((conv => whnf); first | (refine And.intro (by first | omega | exact Nat.le_of_ble_eq_true rfl | (dsimp only [inK]; omega) | (simp only [mulS_eq]; omega) | (simp only [mulS_eq, setL_length]; omega) | (simp only [setL_length, List.length_map]; omega) | exact ⟨by omega, by omega, by first | exact Nat.le_of_ble_eq_true rfl | (dsimp only; omega) | (simp only [setL_length]; omega) | (simp only [setL_length, List.length_map]; omega)⟩ | exact ⟨by omega, by first | rfl | omega, by omega, Nat.le_of_ble_eq_true rfl, Nat.le_of_ble_eq_true rfl⟩ | exact ⟨rfl, rfl, rfl, Nat.le_of_ble_eq_true rfl, by first | rfl | omega | exact Nat.le_of_ble_eq_true rfl | (dsimp only; omega) | (simp; done) | (simp; omega), by first | rfl | omega | exact Nat.le_of_ble_eq_true rfl | (dsimp only; omega) | (simp; done) | (simp; omega), by omega, Nat.le_of_ble_eq_true rfl⟩ | exact Eq.refl true) ?_) | (refine Exists.intro _ (And.intro rfl ?_)) | (refine And.intro (And.intro rfl (chk_rowI _ _ _ _)) ?_) | (refine br_t (by omega) ?_) | (refine br_f (by omega) ?_) | (refine bs_t (by omega) ?_) | (refine bs_f (by omega) ?_) | (refine fun (K' : K3) hK' => ?_) | (refine hK' _ _ _ ?_; clear hK' K') | (refine draw_auto tok mixed (by kernel_rfl) ?_) | (refine bs_bt (Eq.refl true) ?_) | (refine bs_bf (Eq.refl false) ?_) | (refine br_bt (Eq.refl true) ?_) | (refine br_bf (Eq.refl false) ?_) | (refine CallK.m ?_) | (refine And.intro (And.intro rfl rfl) ?_))
                  refine go hI hR40 hE fun hf => ?_
                  repeat (first | exact trivial | refine And.intro (covS_syn (by first | rfl | exact (hptr (hfix hf (by omega))).symm | exact (hptr hR40).symm | (refine congrArg some (congrArg V.i ?_); omega)) rfl (by first | exact trivial | exact Nat.le_of_ble_eq_true rfl | exact hy)) ?_)
                · repeat ((conv => whnf); first | (refine And.intro (by first | omega | exact Nat.le_of_ble_eq_true rfl | (dsimp only [inK]; omega) | (simp only [mulS_eq]; omega) | (simp only [mulS_eq, setL_length]; omega) | (simp only [setL_length, List.length_map]; omega) | exact ⟨by omega, by omega, by first | exact Nat.le_of_ble_eq_true rfl | (dsimp only; omega) | (simp only [setL_length]; omega) | (simp only [setL_length, List.length_map]; omega)⟩ | exact ⟨by omega, by first | rfl | omega, by omega, Nat.le_of_ble_eq_true rfl, Nat.le_of_ble_eq_true rfl⟩ | exact ⟨rfl, rfl, rfl, Nat.le_of_ble_eq_true rfl, by first | rfl | omega | exact Nat.le_of_ble_eq_true rfl | (dsimp only; omega) | (simp; done) | (simp; omega), by first | rfl | omega | exact Nat.le_of_ble_eq_true rfl | (dsimp only; omega) | (simp; done) | (simp; omega), by omega, Nat.le_of_ble_eq_true rfl⟩ | exact Eq.refl true) ?_) | (refine Exists.intro _ (And.intro rfl ?_)) | (refine And.intro (And.intro rfl (chk_rowI _ _ _ _)) ?_) | (refine br_t (by omega) ?_) | (refine br_f (by omega) ?_) | (refine bs_t (by omega) ?_) | (refine bs_f (by omega) ?_) | (refine fun (K' : K3) hK' => ?_) | (refine hK' _ _ _ ?_; clear hK' K') | (refine draw_auto tok mixed (by kernel_rfl) ?_) | (refine bs_bt (Eq.refl true) ?_) | (refine bs_bf (Eq.refl false) ?_) | (refine br_bt (Eq.refl true) ?_) | (refine br_bf (Eq.refl false) ?_) | (refine CallK.m ?_) | (refine And.intro (And.intro rfl rfl) ?_))
                  exact hE
            · have hst := candP_none hb3 (cand_out (e := e) (x := i % W) (y := i / W) (by rw [← hkk]; exact hin2))
              clear body hend hma hm0
              cases e <;> rcases hcase with ⟨q1, q2⟩ | ⟨q1, q2 | q2⟩ <;> (try cases q2)
              all_goals
                repeat ((conv => whnf); first | (refine And.intro (by first | omega | exact Nat.le_of_ble_eq_true rfl | (dsimp only [inK]; omega) | (simp only [mulS_eq]; omega) | (simp only [mulS_eq, setL_length]; omega) | (simp only [setL_length, List.length_map]; omega) | exact ⟨by omega, by omega, by first | exact Nat.le_of_ble_eq_true rfl | (dsimp only; omega) | (simp only [setL_length]; omega) | (simp only [setL_length, List.length_map]; omega)⟩ | exact ⟨by omega, by first | rfl | omega, by omega, Nat.le_of_ble_eq_true rfl, Nat.le_of_ble_eq_true rfl⟩ | exact ⟨rfl, rfl, rfl, Nat.le_of_ble_eq_true rfl, by first | rfl | omega | exact Nat.le_of_ble_eq_true rfl | (dsimp only; omega) | (simp; done) | (simp; omega), by first | rfl | omega | exact Nat.le_of_ble_eq_true rfl | (dsimp only; omega) | (simp; done) | (simp; omega), by omega, Nat.le_of_ble_eq_true rfl⟩ | exact Eq.refl true) ?_) | (refine Exists.intro _ (And.intro rfl ?_)) | (refine And.intro (And.intro rfl (chk_rowI _ _ _ _)) ?_) | (refine br_t (by omega) ?_) | (refine br_f (by omega) ?_) | (refine bs_t (by omega) ?_) | (refine bs_f (by omega) ?_) | (refine fun (K' : K3) hK' => ?_) | (refine hK' _ _ _ ?_; clear hK' K') | (refine draw_auto tok mixed (by kernel_rfl) ?_) | (refine CallK.val (R := [(1, some ml)]) hix (by kernel_rfl) rfl (by simp [V.wf, A.wf, C.wf]) trivial rfl rfl trivial ?_) | (refine bs_bt (Eq.refl true) ?_) | (refine bs_bf (Eq.refl false) ?_) | (refine br_bt (Eq.refl true) ?_) | (refine br_bf (Eq.refl false) ?_) | (refine CallK.m ?_) | (refine And.intro (And.intro rfl rfl) ?_))
                refine stay hst ?_
                repeat (first | exact trivial | refine And.intro (covS_syn (by first | rfl | (refine congrArg some (congrArg V.i ?_); omega)) rfl (by first | exact trivial | exact Nat.le_of_ble_eq_true rfl | exact hy)) ?_)
        · have hb3' : b = 3 := by omega
          subst hb3'
          have h3 : 3 * a + 3 = 3 * (a + 1) := by omega
          repeat ((conv => whnf); first | (refine And.intro (by first | omega | exact Nat.le_of_ble_eq_true rfl | (dsimp only [inK]; omega) | (simp only [mulS_eq]; omega) | (simp only [mulS_eq, setL_length]; omega) | (simp only [setL_length, List.length_map]; omega) | exact ⟨by omega, by omega, by first | exact Nat.le_of_ble_eq_true rfl | (dsimp only; omega) | (simp only [setL_length]; omega) | (simp only [setL_length, List.length_map]; omega)⟩ | exact ⟨by omega, by first | rfl | omega, by omega, Nat.le_of_ble_eq_true rfl, Nat.le_of_ble_eq_true rfl⟩ | exact ⟨rfl, rfl, rfl, Nat.le_of_ble_eq_true rfl, by first | rfl | omega | exact Nat.le_of_ble_eq_true rfl | (dsimp only; omega) | (simp; done) | (simp; omega), by first | rfl | omega | exact Nat.le_of_ble_eq_true rfl | (dsimp only; omega) | (simp; done) | (simp; omega), by omega, Nat.le_of_ble_eq_true rfl⟩ | exact Eq.refl true) ?_) | (refine Exists.intro _ (And.intro rfl ?_)) | (refine And.intro (And.intro rfl (chk_rowI _ _ _ _)) ?_) | (refine br_t (by omega) ?_) | (refine br_f (by omega) ?_) | (refine bs_t (by omega) ?_) | (refine bs_f (by omega) ?_) | (refine fun (K' : K3) hK' => ?_) | (refine hK' _ _ _ ?_; clear hK' K') | (refine draw_auto tok mixed (by kernel_rfl) ?_) | (refine bs_bt (Eq.refl true) ?_) | (refine bs_bf (Eq.refl false) ?_) | (refine br_bt (Eq.refl true) ?_) | (refine br_bf (Eq.refl false) ?_) | (refine CallK.m ?_) | (refine And.intro (And.intro rfl rfl) ?_))
          refine ⟨a + 1, [], ⟨by omega, h3 ▸ hmb, h3 ▸ hIb⟩, by omega, ?_, h3 ▸ hmb.cov, h3 ▸ hmb.2, rfl, Nat.le_of_ble_eq_true rfl⟩
          repeat (first | exact trivial | refine And.intro (covS_syn (by first | rfl | (refine congrArg some (congrArg V.i ?_); omega)) rfl (by first | exact trivial | exact Nat.le_of_ble_eq_true rfl | exact hy)) ?_)
    · have ha3' : a = 3 := by omega
      subst ha3'
      repeat ((conv => whnf); first | (refine And.intro (by first | omega | exact Nat.le_of_ble_eq_true rfl | (dsimp only [inK]; omega) | (simp only [mulS_eq]; omega) | (simp only [mulS_eq, setL_length]; omega) | (simp only [setL_length, List.length_map]; omega) | exact ⟨by omega, by omega, by first | exact Nat.le_of_ble_eq_true rfl | (dsimp only; omega) | (simp only [setL_length]; omega) | (simp only [setL_length, List.length_map]; omega)⟩ | exact ⟨by omega, by first | rfl | omega, by omega, Nat.le_of_ble_eq_true rfl, Nat.le_of_ble_eq_true rfl⟩ | exact ⟨rfl, rfl, rfl, Nat.le_of_ble_eq_true rfl, by first | rfl | omega | exact Nat.le_of_ble_eq_true rfl | (dsimp only; omega) | (simp; done) | (simp; omega), by first | rfl | omega | exact Nat.le_of_ble_eq_true rfl | (dsimp only; omega) | (simp; done) | (simp; omega), by omega, Nat.le_of_ble_eq_true rfl⟩ | exact Eq.refl true) ?_) | (refine Exists.intro _ (And.intro rfl ?_)) | (refine And.intro (And.intro rfl (chk_rowI _ _ _ _)) ?_) | (refine br_t (by omega) ?_) | (refine br_f (by omega) ?_) | (refine bs_t (by omega) ?_) | (refine bs_f (by omega) ?_) | (refine fun (K' : K3) hK' => ?_) | (refine hK' _ _ _ ?_; clear hK' K') | (refine draw_auto tok mixed (by kernel_rfl) ?_) | (refine bs_bt (Eq.refl true) ?_) | (refine bs_bf (Eq.refl false) ?_) | (refine br_bt (Eq.refl true) ?_) | (refine br_bf (Eq.refl false) ?_) | (refine CallK.m ?_) | (refine And.intro (And.intro rfl rfl) ?_))
      exact hend oo od hIa
end Go.Proofs.Ytbhpnhcdjmcaoaa

