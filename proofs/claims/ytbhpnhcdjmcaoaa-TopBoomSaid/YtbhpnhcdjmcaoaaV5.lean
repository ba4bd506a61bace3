/- Texts of the proof, part 5: P5, KA, P6, R6, P8, H2, NR2, H3, H4, P9, P12, P13, KB, P16, P14. -/
import Derived.Test.YtbhpnhcdjmcaoaaV4
import Derived.WalkKit
import Derived.Below
import Derived.Laws.OwnMore
import Derived.Maps.AppendAt
import Derived.Laws.IdiomCopy
import Derived.Laws.CopyRow
import Derived.IntWalk
import Derived.StillTail
import Derived.Scope
import Derived.ChangeKeysEq
import Derived.Laws.Small
import Derived.OrdersIn
import Derived.TacticsIn
import Derived.OwnWalkIn
import Derived.RangeFuncNested
import Derived.RangeFuncLeaves
import Derived.RangeFuncRecord
import Derived.Maps.Keyed
import Derived.Maps.RangeRun
import Derived.DeepKeys4
import Derived.Test.YtbhpnhcdjmcaoaaRows
import Derived.KernelRfl
import Derived.ProofKit
import Derived.OpenShut
import Derived.Lib.SmallJoins
import Derived.Deep.Slices
/- Boom, plain: what a barrier is. -/
namespace Go.Proofs.Ytbhpnhcdjmcaoaa
open Go.RowKit
set_option linter.unusedVariables false
set_option linter.unusedSimpArgs false
def adj (e : Bool) (p q : Cell) : Prop := (-1 ≤ p.1 - q.1 ∧ p.1 - q.1 ≤ 1) ∧ (-1 ≤ p.2 - q.2 ∧ p.2 - q.2 ≤ 1) ∧ ¬ (p.1 = q.1 ∧ p.2 = q.2) ∧ (e = true ∨ p.1 = q.1 ∨ p.2 = q.2)
theorem four_iff (x y u v : Int) : fourB x y u v = true ↔ adj false (x, y) (u, v) := by
  unfold fourB mx adj
  rw [decide_eq_true_eq]
  simp only [Bool.false_eq_true, false_or]
  split <;> split <;> omega
theorem eight_iff (x y u v : Int) : eightB x y u v = true ↔ adj true (x, y) (u, v) := by
  unfold eightB mx adj
  rw [decide_eq_true_eq]
  simp only [true_or, and_true]
  split <;> split <;> split <;> omega
theorem adj_mono {e : Bool} {p q : Cell} (h : adj false p q) : adj e p q := ⟨h.1, h.2.1, h.2.2.1, .inr (h.2.2.2.resolve_left (by simp))⟩
theorem step_iff {W H : Int} {e : Bool} {p q : Cell} : stepB W H e p q = true ↔ adj e p q := by
  unfold stepB
  rw [Bool.or_eq_true, Bool.and_eq_true, four_iff, eight_iff]
  constructor
  · rintro (h | ⟨rfl, h⟩)
    · exact adj_mono h
    · exact h
  · intro h
    cases e with
    | true => exact .inr ⟨rfl, h⟩
    | false => exact .inl h
theorem adj_symm {e : Bool} {p q : Cell} (h : adj e p q) : adj e q p := by
  obtain ⟨h1, h2, h3, h4⟩ := h
  exact ⟨by omega, by omega, fun hh => h3 ⟨hh.1.symm, hh.2.symm⟩, h4.imp id (Or.imp Eq.symm Eq.symm)⟩
theorem idxC_mod {W H : Int} {p : Cell} (h : onB W H p.1 p.2 = true) : idxC W H p = idxU W p ∧ idxC W H p % W = p.1 ∧ idxC W H p / W = p.2 := by
  have ho := onB_t h
  have h1 := idxI_on h
  have e : idxC W H p = idxU W p := h1.1
  have e2 : idxC W H p = p.1 + p.2 * W := by rw [e]; unfold idxU; omega
  have hm : p.1 % W = p.1 := Int.emod_eq_of_lt ho.1.1 ho.1.2
  have hd : p.1 / W = 0 := Int.ediv_eq_zero_of_lt ho.1.1 ho.1.2
  refine ⟨e, ?_, ?_⟩
  · rw [e2, Int.add_mul_emod_self_right, hm]
  · rw [e2, Int.add_mul_ediv_right _ _ (by omega), hd]; omega
theorem idxC_inj {W H : Int} {p q : Cell} (hp : onB W H p.1 p.2 = true) (hq : onB W H q.1 q.2 = true) (h : idxC W H p = idxC W H q) : p = q := by
  obtain ⟨_, p1, p2⟩ := idxC_mod hp
  obtain ⟨_, q1, q2⟩ := idxC_mod hq
  exact Prod.ext (by rw [← p1, h, q1]) (by rw [← p2, h, q2])
theorem near_iff {W H : Int} {e : Bool} {p q : Cell} (hp : onB W H p.1 p.2 = true) (hq : onB W H q.1 q.2 = true) : idxC W H p ∈ nearL W H e (idxC W H q) ↔ adj e p q := by
  obtain ⟨_, q1, q2⟩ := idxC_mod hq
  have hpo := onB_t hp
  unfold nearL
  rw [List.mem_filterMap]
  constructor
  · rintro ⟨j, hj, hc⟩
    have hj9 := List.mem_range.1 hj
    unfold candJ cand at hc
    rw [q1, q2] at hc
    split at hc
    · cases hc
    · rename_i hs
      split at hc
      · rename_i hx
        have hx2 := idxI_lt (show 0 < W by omega) hx
        have hr : onB W H (q.1 + ((j % 3 : Nat) : Int) - 1) (q.2 + ((j / 3 : Nat) : Int) - 1) = true := by
          simp only [onB, Bool.and_eq_true, decide_eq_true_eq]; omega
        have := idxC_inj (p := (q.1 + ((j % 3 : Nat) : Int) - 1, q.2 + ((j / 3 : Nat) : Int) - 1)) (q := p) hr hp (by
          injection hc with hc
          rw [← hc]
          show idxI W H _ _ = idxI W H _ _
          congr 1 <;> omega)
        rw [← this]
        have ha : j / 3 < 3 := by omega
        have hb : j % 3 < 3 := by omega
        generalize j / 3 = a at *
        generalize j % 3 = b at *
        refine ⟨by simp only; omega, by simp only; omega, fun hh => hs (.inl ?_), ?_⟩
        · simp only at hh; omega
        · cases e with
          | true => exact .inl rfl
          | false =>
            right
            by_cases hb1 : b = 1
            · left; simp only; omega
            · by_cases ha1 : a = 1
              · right; simp only; omega
              · exact absurd (.inr ⟨rfl, hb1, ha1⟩) hs
      · cases hc
  · rintro ⟨h1, h2, h3, h4⟩
    refine ⟨3 * (p.2 - q.2 + 1).toNat + (p.1 - q.1 + 1).toNat, List.mem_range.2 (by omega), ?_⟩
    have ha : (3 * (p.2 - q.2 + 1).toNat + (p.1 - q.1 + 1).toNat) / 3 = (p.2 - q.2 + 1).toNat := by omega
    have hb : (3 * (p.2 - q.2 + 1).toNat + (p.1 - q.1 + 1).toNat) % 3 = (p.1 - q.1 + 1).toNat := by omega
    have e1 : q.1 + (((p.1 - q.1 + 1).toNat : Int) - 1) = p.1 := by omega
    have e2 : q.2 + (((p.2 - q.2 + 1).toNat : Int) - 1) = p.2 := by omega
    have hx := idxI_on hp
    unfold candJ cand
    rw [q1, q2, ha, hb, e1, e2, if_neg, if_pos hx.2]
    · rfl
    · rintro (⟨g1, g2⟩ | ⟨g1, g2, g3⟩)
      · exact h3 ⟨by omega, by omega⟩
      · rcases h4 with h4 | h4 | h4
        · rw [g1] at h4; cases h4
        · omega
        · omega
/-- A barrier. -/
structure BarP (W H : Int) (cs : List Int) (l : List Cell) : Prop where
  on : ∀ j, j < l.length → onB W H (l.getD j cz).1 (l.getD j cz).2 = true
  nd : ∀ j i, j < l.length → i < j → ¬ l.getD j cz = l.getD i cz
  len : 1 ≤ l.length ∧ l.length ≤ 100
  adj : ∀ j, j + 1 < l.length → adj true (l.getD (j + 1) cz) (l.getD j cz)
  hold : ∀ j, j < l.length → ¬ cs.getD (idxU W (l.getD j cz)).toNat 0 = 0
  top : ∀ j, j < l.length → ((l.getD j cz).2 = 0 ↔ j = 0)
  bot : ∀ j, j < l.length → ((l.getD j cz).2 = H - 1 ↔ j + 1 = l.length)
theorem bne_dec {p q : Prop} [Decidable p] [Decidable q] : (decide p != decide q) = false ↔ (p ↔ q) := by
  by_cases hp : p <;> by_cases hq : q <;> simp [hp, hq]
theorem wayOk_iff {W H : Int} {l : List Cell} {e : Bool} {k : Nat} (hk : k < l.length) : wayOk W H l e k = true ↔ onB W H (l.getD k cz).1 (l.getD k cz).2 = true ∧ (k = 0 ∨ adj e (l.getD k cz) (l.getD (k - 1) cz)) ∧ ∀ i, i < k → ¬ l.getD k cz = l.getD i cz := by
  unfold wayOk
  rw [Bool.and_eq_true, Bool.and_eq_true, Bool.or_eq_true, decide_eq_true_eq, step_iff, Bool.not_eq_true']
  constructor
  · rintro ⟨h1, h2, h3⟩
    refine ⟨h1, h2, fun i hi h => ?_⟩
    rw [any_take hi (by omega) h] at h3; cases h3
  · rintro ⟨h1, h2, h3⟩
    exact ⟨h1, h2, any_none (by omega) h3⟩
theorem isWay_iff {W H : Int} {l : List Cell} {e : Bool} : isWayB W H l e = true ↔ (∀ j, j < l.length → onB W H (l.getD j cz).1 (l.getD j cz).2 = true) ∧ (∀ j i, j < l.length → i < j → ¬ l.getD j cz = l.getD i cz) ∧ (1 ≤ l.length ∧ l.length ≤ 100) ∧ ∀ j, j + 1 < l.length → adj e (l.getD (j + 1) cz) (l.getD j cz) := by
  unfold isWayB isWayK
  rw [Bool.and_eq_true, Bool.and_eq_true, List.all_eq_true, decide_eq_true_eq, decide_eq_true_eq]
  constructor
  · rintro ⟨h1, h2, h3⟩
    have key := fun j (hj : j < l.length) => (wayOk_iff hj).1 (h1 j (by simpa using hj))
    refine ⟨fun j hj => (key j hj).1, fun j i hj hi => (key j hj).2.2 i hi, by omega, fun j hj => ?_⟩
    have := (key (j + 1) hj).2.1
    simpa using this
  · rintro ⟨h1, h2, h3, h4⟩
    refine ⟨fun j hj => ?_, by omega, by omega⟩
    have hj := List.mem_range.1 hj
    refine (wayOk_iff hj).2 ⟨h1 j hj, ?_, fun i hi => h2 j i hj hi⟩
    match j, hj with
    | 0, _ => exact .inl rfl
    | j + 1, hj => exact .inr (h4 j hj)
theorem barOk_iff {W H : Int} {cs : List Int} {l : List Cell} {k : Nat} : barOk W H cs l k = true ↔ ¬ cs.getD (idxU W (l.getD k cz)).toNat 0 = 0 ∧ ((l.getD k cz).2 = 0 ↔ k = 0) ∧ ((l.getD k cz).2 = H - 1 ↔ k + 1 = l.length) := by
  unfold barOk
  rw [Bool.not_eq_true', Bool.or_eq_false_iff, Bool.or_eq_false_iff, decide_eq_false_iff_not, bne_dec, bne_dec]
  constructor
  · rintro ⟨h1, h2, h3⟩
    exact ⟨h1, by omega, by omega⟩
  · rintro ⟨h1, h2, h3⟩
    exact ⟨h1, by omega, by omega⟩
theorem isBar_iff {W H : Int} {cs : List Int} {l : List Cell} : isBarB W H cs l = true ↔ BarP W H cs l := by
  unfold isBarB barOkK
  rw [Bool.and_eq_true, Bool.and_eq_true, isWay_iff, List.all_eq_true, Bool.not_eq_true', decide_eq_false_iff_not]
  constructor
  · rintro ⟨h0, ⟨h1, h2, h3, h4⟩, h5⟩
    have key := fun j (hj : j < l.length) => barOk_iff.1 (h5 j (by simpa using hj))
    exact ⟨h1, h2, h3, h4, fun j hj => (key j hj).1, fun j hj => (key j hj).2.1, fun j hj => (key j hj).2.2⟩
  · rintro ⟨h1, h2, h3, h4, h5, h6, h7⟩
    refine ⟨by omega, ⟨h1, h2, h3, h4⟩, fun j hj => ?_⟩
    have hj := List.mem_range.1 hj
    exact barOk_iff.2 ⟨h5 j hj, h6 j hj, h7 j hj⟩
theorem hasI_iff {l : List Int} {x : Int} : hasI l x = true ↔ x ∈ l := by
  unfold hasI
  rw [List.any_eq_true]
  constructor
  · rintro ⟨y, h1, h2⟩; rw [of_decide_eq_true h2]; exact h1
  · intro h; exact ⟨x, h, dd_t rfl⟩
theorem idx_on {W H : Int} {p : Cell} (h : idxC W H p ≥ 0) (hW : 0 < W) : onB W H p.1 p.2 = true := by
  have := idxI_lt hW h
  simp only [onB, Bool.and_eq_true, decide_eq_true_eq]; omega
theorem listOk_iff {W H : Int} {l : List Cell} (hW : 0 < W) : listOkK W H l l.length = true ↔ (∀ j, j < l.length → onB W H (l.getD j cz).1 (l.getD j cz).2 = true) ∧ (∀ j i, j < l.length → i < j → ¬ l.getD j cz = l.getD i cz) := by
  unfold listOkK
  rw [List.all_eq_true]
  have key : ∀ j, listOk W H l j = true ↔ idxC W H (l.getD j cz) ≥ 0 ∧ ¬ idxC W H (l.getD j cz) ∈ listI W H (l.take j) := fun j => by
    unfold listOk
    rw [Bool.not_eq_true', Bool.or_eq_false_iff, decide_eq_false_iff_not, ← Bool.not_eq_true, hasI_iff]
    constructor
    · rintro ⟨a, b⟩; exact ⟨by omega, b⟩
    · rintro ⟨a, b⟩; exact ⟨by omega, b⟩
  constructor
  · intro h
    have h1 : ∀ j, j < l.length → onB W H (l.getD j cz).1 (l.getD j cz).2 = true := fun j hj => idx_on ((key j).1 (h j (by simpa using hj))).1 hW
    refine ⟨h1, fun j i hj hi he => ((key j).1 (h j (by simpa using hj))).2 ?_⟩
    rw [he]
    refine List.mem_map.2 ⟨l.getD i cz, ?_, rfl⟩
    rw [List.getD_eq_getElem?_getD, List.getElem?_eq_getElem (by omega)]
    exact List.mem_take_iff_getElem.2 ⟨i, by omega, rfl⟩
  · rintro ⟨h1, h2⟩ j hj
    have hj := List.mem_range.1 hj
    refine (key j).2 ⟨(idxI_on (h1 j hj)).2, fun hm => ?_⟩
    obtain ⟨q, hq, he⟩ := List.mem_map.1 hm
    obtain ⟨i, hi, rfl⟩ := List.mem_take_iff_getElem.1 hq
    have hg : l.getD i cz = l[i] := by rw [List.getD_eq_getElem?_getD, List.getElem?_eq_getElem (by omega)]; rfl
    rw [← hg] at he
    exact h2 j i hj (by omega) (idxC_inj (h1 j hj) (h1 i (by omega)) he.symm)
theorem foll_iff {W H : Int} {e : Bool} {l : List Cell} (hon : ∀ j, j < l.length → onB W H (l.getD j cz).1 (l.getD j cz).2 = true) : follB W H e (listI W H l) l.length = true ↔ ∀ j, j + 1 < l.length → adj e (l.getD (j + 1) cz) (l.getD j cz) := by
  unfold follB
  rw [List.all_eq_true]
  constructor
  · intro h j hj
    have := h j (List.mem_range.2 (by omega))
    rw [List.contains_iff_mem, listI_get hj, listI_get (by omega)] at this
    exact (near_iff (hon _ hj) (hon _ (by omega))).1 this
  · intro h j hj
    have hj := List.mem_range.1 hj
    rw [List.contains_iff_mem, listI_get (by omega), listI_get (by omega)]
    exact (near_iff (hon _ (by omega)) (hon _ (by omega))).2 (h j (by omega))
theorem pbarOk_iff {W H : Int} {cs : List Int} {l : List Cell} {k : Nat} (hk : k < l.length) (hon : onB W H (l.getD k cz).1 (l.getD k cz).2 = true) : pbarOk W H cs (listI W H l) k = true ↔ ¬ cs.getD (idxU W (l.getD k cz)).toNat 0 = 0 ∧ ((l.getD k cz).2 = 0 ↔ k = 0) ∧ ((l.getD k cz).2 = H - 1 ↔ k + 1 = l.length) := by
  obtain ⟨h1, _, h3⟩ := idxC_mod hon
  unfold pbarOk
  rw [listI_len, listI_get hk, h3, h1, Bool.not_eq_true', Bool.or_eq_false_iff, Bool.or_eq_false_iff, bne_dec, bne_dec, Bool.not_eq_false', decide_eq_true_eq]
  constructor
  · rintro ⟨h1, h2, h3⟩
    exact ⟨h1, by omega, by omega⟩
  · rintro ⟨h1, h2, h3⟩
    exact ⟨h1, by omega, by omega⟩
theorem pIsBar_iff {W H : Int} {cs : List Int} {l : List Cell} (hW : 0 < W) : pIsBar W H cs l = true ↔ BarP W H cs l := by
  unfold pIsBar isBarP lenOk pbarOkK
  rw [Bool.and_eq_true, Bool.and_eq_true, Bool.and_eq_true, listOk_iff hW, List.all_eq_true, decide_eq_true_eq, listI_len]
  constructor
  · rintro ⟨⟨h1, h2⟩, h3, h4, h5⟩
    have key := fun j (hj : j < l.length) => (pbarOk_iff hj (h1 j hj)).1 (h4 j (by simpa using hj))
    exact ⟨h1, h2, by omega, (foll_iff h1).1 h5, fun j hj => (key j hj).1, fun j hj => (key j hj).2.1, fun j hj => (key j hj).2.2⟩
  · rintro ⟨h1, h2, h3, h4, h5, h6, h7⟩
    refine ⟨⟨h1, h2⟩, by omega, fun j hj => ?_, (foll_iff h1).2 h4⟩
    have hj := List.mem_range.1 hj
    exact (pbarOk_iff hj (h1 j hj)).2 ⟨h5 j hj, h6 j hj, h7 j hj⟩
theorem psum_eq {W H : Int} {cs : List Int} {l : List Cell} (hon : ∀ j, j < l.length → onB W H (l.getD j cz).1 (l.getD j cz).2 = true) : psum cs (listI W H l) = sumC W cs l := by
  unfold psum psumK sumC sumK
  rw [List.take_length, List.take_length]
  unfold listI
  rw [List.map_map]
  congr 1
  refine List.map_congr_left fun p hp => ?_
  obtain ⟨j, hj, rfl⟩ := List.mem_iff_getElem.1 hp
  have := hon j hj
  rw [List.getD_eq_getElem?_getD, List.getElem?_eq_getElem hj] at this
  simp only [Function.comp]
  have h2 : onB W H l[j].1 l[j].2 = true := this
  rw [(idxC_mod h2).1]
end Go.Proofs.Ytbhpnhcdjmcaoaa

/- Boom: callees of the laws. -/
namespace Go.Proofs.Ytbhpnhcdjmcaoaa
open Go.RowKit
set_option linter.unusedVariables false
set_option linter.unusedSimpArgs false
section
variable {P : Program} {n0 nx nac : Nat} {f : FuncId} {vs vs' : List V} {Lc L : List E} {R : Rn} {K : V → List E → Nat → Prop}
theorem CallK.intsE {l : List Int} {Er : Int} (spec : Spec P f vs Lc nac (fun v L' _ => intsE l Er v L')) (hok : callB P f = true)
    (hv : renVs R vs = some vs') (hvw : ∀ v ∈ vs, v.wf nac) (hL : roL R nac L Lc) (hLc : injB [] Lc = true)
    (hK : K (V.tup [A.c (.sl nx l.length), A.c (C.i Er)]) [⟨nx, .vec 3 1, l.map C.i⟩] (nx + 1)) : CallK P n0 f vs' L nx K := by
  refine CallK.mk' hok spec hv hvw hL hLc ?_
  rintro v L' nx' hw ⟨o, rfl, ⟨rfl, rfl⟩ | ⟨lab, rfl, hf⟩⟩
  · refine ⟨V.tup [A.c (.sl nx 0), A.c (C.i Er)], [⟨nx, .vec 3 1, []⟩], nx + 1, [(nx, none)], ⟨Nat.le_succ _, ?_, ?_, ⟨covE_nil (renL_one _ _) (Nat.lt_succ_self nx) rfl rfl, trivial⟩, rfl, ?_⟩, hK⟩
    · simp [V.ren, A.ren, C.ren, renL_one, C.i, seqO]
    · simp [V.chk, A.chk, C.chk, inLab_one, C.i]
    · simp only [List.all_cons, List.all_nil, Bool.and_true, inLab_one, Kd.isRo, Bool.not_false]
  · refine ⟨V.tup [A.c (.sl nx l.length), A.c (C.i Er)], [⟨nx, .vec 3 1, l.map C.i⟩], nx + 1, [(nx, some lab)], ⟨Nat.le_succ _, ?_, ?_, ⟨covE_some (renL_one _ _) (Nat.lt_succ_self nx) (wf_ints _ _) hf (ren_ints _ _), trivial⟩, rfl, ?_⟩, hK⟩
    · simp [V.ren, A.ren, C.ren, renL_one, C.i, seqO]
    · simp [V.chk, A.chk, C.chk, inLab_one, C.i]
    · simp only [List.all_cons, List.all_nil, Bool.and_true, inLab_one, Kd.isRo, Bool.not_false, Bool.true_and]
      exact chk_ints _ _
end
theorem hts_len (W H : Int) (cs : List Int) (hl : cs.length ≤ 300) : (htsO W H cs).length ≤ 300 := by
  unfold htsO
  split
  · unfold hts
    split
    · rename_i h
      have := (Classical.choose_spec h).len
      omega
    · simp
  · simp
theorem cheapN {W H : Int} {cs : List Int} (hl : cs.length ≤ 300) (hv : okC W H cs = true) (h : barO W H cs = none) : Spec Try.prog 18 [chR W H cs.length] [⟨0, .ro 0, cs.map C.i⟩] 2 (Is (V.tup [A.c (C.i 0), A.c (C.i 5)])) := by
  have := cheapest_spec W H cs hl
  rw [hv, h] at this
  exact this
theorem cheapS {W H : Int} {cs : List Int} {l : List Int} {w : Way} (hl : cs.length ≤ 300) (hv : okC W H cs = true) (h : barO W H cs = some (l, w)) : Spec Try.prog 18 [chR W H cs.length] [⟨0, .ro 0, cs.map C.i⟩] 2 (Is (V.tup [A.c (C.i w.1), A.c (C.i 0)])) := by
  have := cheapest_spec W H cs hl
  rw [hv, h] at this
  exact this
end Go.Proofs.Ytbhpnhcdjmcaoaa

/- Boom, plain: the program's barrier is the reference's, and is one. -/
namespace Go.Proofs.Ytbhpnhcdjmcaoaa
open Go.RowKit
set_option linter.unusedVariables false
set_option linter.unusedSimpArgs false
def nextR (W H : Int) (d : Int → Option Way) (i : Int) (rest : Way) : Option Int := (nearL W H true i).find? fun k => decide (d k = some rest)
def pathR (W H : Int) (cs : List Int) (d : Int → Option Way) : Nat → Int → List Int
  | 0, i => [i]
  | f + 1, i => match d i with
    | none => [i]
    | some w => if w.2 > 1 then (match nextR W H d i (w.1 - cstI cs i, w.2 - 1) with
      | none => [i]
      | some k => i :: pathR W H cs d f k) else [i]
def rbarO (W H : Int) (cs : List Int) : Option (List Int × Way) :=
  match wayR W H cs (bestP (wayR W H cs) W.toNat) with
  | none => none
  | some w => some (pathR W H cs (wayR W H cs) w.2.toNat (bestP (wayR W H cs) W.toNat), w)
section
variable {cost : Int → Int} {ini : Int → Bool} {nb : Int → List Int} {d : Int → Option Way}
theorem OptD.sub (h : OptD cost ini nb d) {i k : Int} {r : List Int} (hk : k ∈ nb i) (hw : isWalk ini nb (k :: r)) (ho : d i = some (valW cost (i :: k :: r))) : d k = some (valW cost (k :: r)) := by
  obtain ⟨w1, h3, h4⟩ := h.comp k r hw
  obtain ⟨l', h5, h6⟩ := h.sound k w1 h3
  obtain ⟨w2, h7, h8⟩ := h.comp i (k :: l') ⟨hk, h5⟩
  rw [ho] at h7; cases h7
  have e1 : valW cost (i :: k :: l') = addW (cost i) w1 := by show addW _ (valW cost (k :: l')) = _; rw [h6]
  have e2 : valW cost (i :: k :: r) = addW (cost i) (valW cost (k :: r)) := rfl
  rw [e1, e2] at h8
  rw [h3, leW_anti h4 (by unfold leW addW at h8; unfold leW; simp only at h8; omega)]
theorem OptD.pos (h : OptD cost ini nb d) {i : Int} {w : Way} (hw : d i = some w) : 1 ≤ w.2 := by
  obtain ⟨l, _, h2⟩ := h.sound i w hw
  have := valW_cells cost (i :: l)
  rw [h2] at this; simp at this; omega
end
section
variable {W H : Int} {cs : List Int}
theorem nbB_cond {i k : Int} (h : k ∈ nbB W H cs i) : inR cs i = true ∧ hldI cs i = true ∧ ¬ i / W = H - 1 := by
  unfold nbB at h
  split at h
  · rename_i hh; simp only [Bool.and_eq_true, Bool.not_eq_true', decide_eq_false_iff_not] at hh; exact hh
  · cases h
theorem nbR_cond {i k : Int} (h : k ∈ nbR W H cs i) : inR cs i = true ∧ hldI cs i = true ∧ k ∈ nearL W H true i := by
  unfold nbR at h
  split at h
  · rename_i hh; simp only [Bool.and_eq_true] at hh; exact ⟨hh.1, hh.2, h⟩
  · cases h
theorem nbR_mk {i k : Int} (h1 : inR cs i = true) (h2 : hldI cs i = true) (h3 : k ∈ nearL W H true i) : k ∈ nbR W H cs i := by
  unfold nbR; rw [h1, h2]; exact h3
theorem nbB_mk {i k : Int} (h1 : inR cs i = true) (h2 : hldI cs i = true) (h3 : k ∈ nearL W H true i) (h4 : ¬ i / W = H - 1) (h5 : ¬ k / W = 0) : k ∈ nbB W H cs i := by
  unfold nbB; rw [h1, h2, dd_f h4]
  exact List.mem_filter.2 ⟨h3, by simp [h5]⟩
theorem walk_BR : ∀ {l : List Int}, isWalk (iniB W H cs) (nbB W H cs) l → isWalk (iniB W H cs) (nbR W H cs) l
  | [i], h => h
  | i :: k :: r, h => ⟨by obtain ⟨h1, h2, _⟩ := nbB_cond h.1; exact nbR_mk h1 h2 (nbB_mem h.1).1, walk_BR h.2⟩
theorem iniB_cond {i : Int} (h : iniB W H cs i = true) : inR cs i = true ∧ hldI cs i = true ∧ i / W = H - 1 := by
  unfold iniB at h; simp only [Bool.and_eq_true, decide_eq_true_eq] at h; exact h
theorem walkR_cond {i : Int} {l : List Int} (h : isWalk (iniB W H cs) (nbR W H cs) (i :: l)) : inR cs i = true ∧ hldI cs i = true := by
  match l, h with
  | [], h => exact ⟨(iniB_cond h).1, (iniB_cond h).2.1⟩
  | k :: r, h => exact ⟨(nbR_cond h.1).1, (nbR_cond h.1).2.1⟩
theorem R_le_B (hok : CO W H cs) {i : Int} {w : Way} (h : wayB W H cs i = some w) : ∃ w', wayR W H cs i = some w' ∧ leW w' w := by
  obtain ⟨l, h1, h2⟩ := (wayB_opt hok).sound i w h
  obtain ⟨w', h3, h4⟩ := (wayR_opt hok).comp i l (walk_BR h1)
  exact ⟨w', h3, h2 ▸ h4⟩
theorem opt_B (hok : CO W H cs) : ∀ (l : List Int) {i : Int}, isWalk (iniB W H cs) (nbR W H cs) (i :: l) → wayR W H cs i = some (valW (cstI cs) (i :: l)) → (∀ x ∈ l, ¬ x / W = 0) → isWalk (iniB W H cs) (nbB W H cs) (i :: l)
  | [], i, h, _, _ => h
  | k :: r, i, h, ho, hr => by
    have hk := (wayR_opt hok).sub h.1 h.2 ho
    have ih := opt_B hok r h.2 hk (fun x hx => hr x (by simp [hx]))
    obtain ⟨c1, c2, c3⟩ := nbR_cond h.1
    refine ⟨nbB_mk c1 c2 c3 (fun hrow => ?_) (hr k (by simp)), ih⟩
    have hi : isWalk (iniB W H cs) (nbR W H cs) [i] := by
      show iniB W H cs i = true
      unfold iniB; rw [c1, c2, dd_t hrow]; rfl
    obtain ⟨w', g1, g2⟩ := (wayR_opt hok).comp i [] hi
    rw [ho] at g1; cases g1
    have g3 := valW_cells (cstI cs) (i :: k :: r)
    have g4 := valW_pos (fun i => (cst_bd hok.cost i).1) (k :: r)
    have e1 : valW (cstI cs) (i :: k :: r) = addW (cstI cs i) (valW (cstI cs) (k :: r)) := rfl
    have e2 : valW (cstI cs) [i] = (cstI cs i, 1) := by simp [valW, addW]
    rw [e2] at g2
    have g5 := valW_cells (cstI cs) (k :: r)
    rw [e1] at g2
    unfold leW addW at g2
    simp only [List.length_cons] at g2 g5
    omega
theorem row0_free (hok : CO W H cs) {ws : Way} (hmin : ∀ x, 0 ≤ x → x < W → ∀ u, wayR W H cs x = some u → leW ws u) {l : List Int} {i : Int} (h : isWalk (iniB W H cs) (nbR W H cs) (i :: l)) (hle : leW (valW (cstI cs) (i :: l)) ws) : ∀ x ∈ l, ¬ x / W = 0 := by
  intro x hx hr
  obtain ⟨a, b, rfl⟩ := List.append_of_mem hx
  have hs : isWalk (iniB W H cs) (nbR W H cs) (x :: b) := walk_suffix (a := i :: a) h
  have hx0 := walk_rng (n := cs.length) iniB_in (nbR_in (by have := hok.w; omega) hok.len) hs x (by simp)
  have hW := hok.w
  have hxW : x < W := by
    have h1 := Int.emod_lt_of_pos x (show 0 < W by omega)
    have h2 := Int.mul_ediv_add_emod x W
    rw [hr] at h2; omega
  obtain ⟨u, g1, g2⟩ := (wayR_opt hok).comp x b hs
  have g3 := hmin x hx0.1 hxW u g1
  have e : valW (cstI cs) (i :: (a ++ x :: b)) = ((valW (cstI cs) (i :: a)).1 + (valW (cstI cs) (x :: b)).1, (valW (cstI cs) (i :: a)).2 + (valW (cstI cs) (x :: b)).2) := valW_app (i :: a) (x :: b)
  have g4 := valW_pos (fun i => (cst_bd hok.cost i).1) (i :: a)
  have g5 := valW_cells (cstI cs) (i :: a)
  have g6 := leW_trans g3 g2
  have g7 := leW_trans hle g6
  rw [e] at g7
  unfold leW at g7
  simp only [List.length_cons] at g7 g5
  omega
theorem eq_B (hok : CO W H cs) {ws : Way} (hmin : ∀ x, 0 ≤ x → x < W → ∀ u, wayR W H cs x = some u → leW ws u) {i : Int} {v : Way} (h : wayR W H cs i = some v) (hle : leW v ws) : wayB W H cs i = some v := by
  obtain ⟨l, h1, h2⟩ := (wayR_opt hok).sound i v h
  have hf := row0_free hok hmin h1 (h2 ▸ hle)
  have hb := opt_B hok l h1 (h2 ▸ h) hf
  obtain ⟨u, g1, g2⟩ := (wayB_opt hok).comp i l hb
  obtain ⟨w', g3, g4⟩ := R_le_B hok g1
  rw [h] at g3; cases g3
  rw [g1, leW_anti (h2 ▸ g2) g4]
theorem path_eq (hok : CO W H cs) {ws : Way} (hmin : ∀ x, 0 ≤ x → x < W → ∀ u, wayR W H cs x = some u → leW ws u) : ∀ (f : Nat) {i : Int} {v : Way}, wayB W H cs i = some v → wayR W H cs i = some v → leW v ws → pathB W H cs (wayB W H cs) f i = pathR W H cs (wayR W H cs) f i
  | 0, i, v, _, _, _ => rfl
  | f + 1, i, v, hB, hR, hle => by
    simp only [pathB, pathR, hB, hR]
    by_cases h1 : v.2 > 1
    · rw [if_pos h1, if_pos h1]
      obtain ⟨l0, s1, s2⟩ := (wayR_opt hok).sound i v hR
      obtain ⟨c1, c2⟩ := walkR_cond s1
      have hci := (cst_bd hok.cost i).1
      have hle2 : leW (v.1 - cstI cs i, v.2 - 1) ws := by unfold leW at hle ⊢; simp only; omega
      have hfun : nextB W H (wayB W H cs) i (v.1 - cstI cs i, v.2 - 1) = nextR W H (wayR W H cs) i (v.1 - cstI cs i, v.2 - 1) := by
        unfold nextB nextR
        refine find_congr fun k hk => ?_
        rw [Bool.eq_iff_iff, Bool.and_eq_true, decide_eq_true_eq, decide_eq_true_eq, Bool.not_eq_true', decide_eq_false_iff_not]
        constructor
        · rintro ⟨g1, g2⟩
          obtain ⟨w', g3, g4⟩ := R_le_B hok g1
          obtain ⟨l', g5, g6⟩ := (wayR_opt hok).sound k w' g3
          obtain ⟨w2, g7, g8⟩ := (wayR_opt hok).comp i (k :: l') ⟨nbR_mk c1 c2 hk, g5⟩
          rw [hR] at g7; cases g7
          have e1 : valW (cstI cs) (i :: k :: l') = addW (cstI cs i) w' := by show addW _ (valW (cstI cs) (k :: l')) = _; rw [g6]
          rw [e1] at g8
          rw [g3, leW_anti g4 (by unfold leW addW at g8; unfold leW; simp only at g8 ⊢; omega)]
        · intro g1
          refine ⟨eq_B hok hmin g1 hle2, fun g2 => ?_⟩
          have hW := hok.w
          obtain ⟨l', g5, _⟩ := (wayR_opt hok).sound k _ g1
          have hx0 := walk_rng (n := cs.length) iniB_in (nbR_in (by omega) hok.len) g5 k (by simp)
          have hxW : k < W := by
            have h1 := Int.emod_lt_of_pos k (show 0 < W by omega)
            have h2 := Int.mul_ediv_add_emod k W
            rw [g2] at h2; omega
          have g3 := leW_trans hle (hmin k hx0.1 hxW _ g1)
          unfold leW at g3; simp only at g3; omega
      rw [hfun]
      cases hn : nextR W H (wayR W H cs) i (v.1 - cstI cs i, v.2 - 1) with
      | none => rfl
      | some k =>
        have g1 := List.find?_some hn
        have g1 := of_decide_eq_true g1
        simp only
        rw [path_eq hok hmin f (eq_B hok hmin g1 hle2) g1 hle2]
    · rw [if_neg h1, if_neg h1]
where
  find_congr {l : List Int} {p q : Int → Bool} (h : ∀ x ∈ l, p x = q x) : l.find? p = l.find? q := by
    induction l with
    | nil => rfl
    | cons x r ih =>
      rw [List.find?_cons, List.find?_cons, h x (by simp), ih (fun y hy => h y (by simp [hy]))]
theorem bar_eq (hok : CO W H cs) : barO W H cs = rbarO W H cs := by
  have hW := hok.w
  obtain ⟨w0, hw0⟩ : ∃ w0 : Nat, (w0 : Int) = W := ⟨W.toNat, by omega⟩
  have hwt : W.toNat = w0 := by omega
  unfold barO rbarO
  rw [hwt]
  have neg1 : ∀ (d : Int → Option Way), (∀ i w, d i = some w → 0 ≤ i) → d (-1) = none := fun d hd => by
    cases h : d (-1) with
    | none => rfl
    | some w => have := hd _ w h; omega
  have hBd : ∀ i w, wayB W H cs i = some w → 0 ≤ i := fun i w h => (wayB_dom hok h).1
  have hRd : ∀ i w, wayR W H cs i = some w → 0 ≤ i := fun i w h => by
    obtain ⟨l, h1, _⟩ := (wayR_opt hok).sound i w h
    exact (walk_rng (n := cs.length) iniB_in (nbR_in (by omega) hok.len) h1 i (by simp)).1
  rcases bestP_spec (wayR W H cs) w0 with ⟨h1, h2⟩ | ⟨b, h1, h2, wb, h3, h4, h5⟩
  · rw [h1, neg1 _ hRd]
    rcases bestP_spec (wayB W H cs) w0 with ⟨g1, _⟩ | ⟨b', g1, g2, wb', g3, _, _⟩
    · rw [g1, neg1 _ hBd]
    · obtain ⟨w', q1, _⟩ := R_le_B hok g3
      rw [h2 b' g2] at q1; cases q1
  · have hmin : ∀ x, 0 ≤ x → x < W → ∀ u, wayR W H cs x = some u → leW wb u := fun x hx0 hxW u hu => by
      obtain ⟨j, rfl⟩ : ∃ j : Nat, (j : Int) = x := ⟨x.toNat, by omega⟩
      exact h4 j (by omega) u hu
    have hbB := eq_B hok hmin h3 (leW_refl _)
    rcases bestP_spec (wayB W H cs) w0 with ⟨g1, g2⟩ | ⟨b', g1, g2, wb', g3, g4, g5⟩
    · rw [g2 b h2] at hbB; cases hbB
    · have k1 := g4 b h2 wb hbB
      obtain ⟨w', q1, q2⟩ := R_le_B hok g3
      have k2 := h4 b' g2 w' q1
      have e1 : wb' = wb := leW_anti k1 (leW_trans k2 q2)
      have e2 : w' = wb := leW_anti (leW_trans q2 k1) k2
      have hbb : b = b' := by
        rcases Nat.lt_trichotomy b b' with h | h | h
        · exact absurd (e1 ▸ leW_refl wb) (g5 b h wb hbB)
        · exact h
        · exact absurd (e2 ▸ leW_refl wb) (h5 b' h w' q1)
      subst hbb
      rw [h1, g1, h3, hbB]
      simp only
      rw [path_eq hok hmin _ hbB h3 (leW_refl _)]
/-- The way down is a walk of that cost, without a cell twice. -/
theorem path_walk (hok : CO W H cs) : ∀ (f : Nat) {i : Int} {w : Way}, wayB W H cs i = some w → w.2.toNat ≤ f → isWalk (iniB W H cs) (nbB W H cs) (pathB W H cs (wayB W H cs) f i) ∧ valW (cstI cs) (pathB W H cs (wayB W H cs) f i) = w ∧ (∃ r, pathB W H cs (wayB W H cs) f i = i :: r) ∧ (pathB W H cs (wayB W H cs) f i).Nodup ∧ ∀ x ∈ pathB W H cs (wayB W H cs) f i, ∃ u, wayB W H cs x = some u ∧ u.2 ≤ w.2
  | 0, i, w, hw, hf => by have := (wayB_opt hok).pos hw; omega
  | f + 1, i, w, hw, hf => by
    have hpos := (wayB_opt hok).pos hw
    obtain ⟨l, s1, s2⟩ := (wayB_opt hok).sound i w hw
    have hc := valW_cells (cstI cs) (i :: l)
    rw [s2] at hc
    by_cases h1 : 1 < w.2
    · obtain ⟨k, hk, hdk⟩ := nextB_some hok hw h1
      obtain ⟨i1, i2, ⟨r, i3⟩, i4, i5⟩ := path_walk hok f hdk (by simp only; omega)
      have hp : pathB W H cs (wayB W H cs) (f + 1) i = i :: pathB W H cs (wayB W H cs) f k := by
        simp only [pathB, hw, hk]; rw [if_pos h1]
      have hkm : k ∈ nbB W H cs i := by
        match l, s1, hc with
        | [], _, hc => simp at hc; omega
        | k' :: r', s1, _ =>
          obtain ⟨c1, c2, c3⟩ := nbB_cond s1.1
          have q1 := List.mem_of_find?_eq_some hk
          have q2 := List.find?_some hk
          simp only [Bool.and_eq_true, Bool.not_eq_true', decide_eq_false_iff_not] at q2
          exact nbB_mk c1 c2 q1 c3 q2.2
      rw [hp]
      refine ⟨by rw [i3] at i1 ⊢; exact ⟨hkm, i1⟩, ?_, ⟨_, rfl⟩, List.nodup_cons.2 ⟨fun hm => ?_, i4⟩, fun x hx => ?_⟩
      · show addW _ (valW (cstI cs) (pathB W H cs (wayB W H cs) f k)) = w
        rw [i2]; unfold addW; exact Prod.ext (by simp only; omega) (by simp only; omega)
      · obtain ⟨u, u1, u2⟩ := i5 i hm
        rw [hw] at u1; cases u1
        simp only at u2; omega
      · rcases List.mem_cons.1 hx with rfl | hx
        · exact ⟨w, hw, Int.le_refl _⟩
        · obtain ⟨u, u1, u2⟩ := i5 x hx
          exact ⟨u, u1, by simp only at u2; omega⟩
    · have hp : pathB W H cs (wayB W H cs) (f + 1) i = [i] := by simp only [pathB, hw]; rw [if_neg (by omega)]
      have hl : l = [] := by
        match l, hc with
        | [], _ => rfl
        | _ :: _, hc => simp at hc; omega
      subst hl
      rw [hp]
      exact ⟨s1, s2, ⟨[], rfl⟩, by simp, fun x hx => by rw [List.mem_singleton.1 hx]; exact ⟨w, hw, Int.le_refl _⟩⟩
theorem cellI_idx {i : Int} (hW : 0 < W) (hi : 0 ≤ i) (hn : i < W * H) : onB W H (cellI W i).1 (cellI W i).2 = true ∧ idxU W (cellI W i) = i := by
  have h1 := Int.emod_nonneg i (show W ≠ 0 by omega)
  have h2 := Int.emod_lt_of_pos i hW
  have h3 := Int.mul_ediv_add_emod i W
  have h4 : 0 ≤ i / W := Int.ediv_nonneg hi (by omega)
  have h5 : i / W < H := Int.ediv_lt_of_lt_mul hW (by rw [Int.mul_comm]; exact hn)
  refine ⟨by simp only [onB, cellI, Bool.and_eq_true]; exact ⟨dd_t h1, dd_t h2, dd_t h4, dd_t h5⟩, ?_⟩
  unfold idxU cellI
  simp only
  rw [Int.mul_comm (i / W) W]; omega
/-- A walk from the first row is a barrier. -/
theorem walk_bar (hok : CO W H cs) {l : List Int} {i : Int} (hw : isWalk (iniB W H cs) (nbB W H cs) (i :: l)) (hi : i / W = 0) (hd : (i :: l).Nodup) : BarP W H cs (cellsL W (i :: l)) := by
  have hW := hok.w
  have hin := walk_rng (n := cs.length) iniB_in (nbB_in (by omega) hok.len) hw
  have hlen := hok.len
  have hn : W * H ≤ 100 := by have := Int.mul_le_mul hok.w.2 hok.h.2 (by have := hok.h; omega) (by omega : (0:Int) ≤ 10); omega
  have hll : (cellsL W (i :: l)).length = (i :: l).length := by simp [cellsL]
  have hget : ∀ j, j < (i :: l).length → (cellsL W (i :: l)).getD j cz = cellI W ((i :: l).getD j 0) := fun j hj => by
    simp only [cellsL, List.getD_eq_getElem?_getD, List.getElem?_map, List.getElem?_eq_getElem hj]; rfl
  have hmem : ∀ j, j < (i :: l).length → (i :: l).getD j 0 ∈ (i :: l) := fun j hj => getD_mem hj
  have hci := fun j hj => cellI_idx (W := W) (H := H) (i := (i :: l).getD j 0) (by omega) (hin _ (hmem j hj)).1 (by have := (hin _ (hmem j hj)).2; omega)
  -- what each member of a walk is
  have key : ∀ (l : List Int), isWalk (iniB W H cs) (nbB W H cs) l → ∀ j, j < l.length → hldI cs (l.getD j 0) = true ∧ (0 < j → ¬ l.getD j 0 / W = 0) ∧ (l.getD j 0 / W = H - 1 ↔ j + 1 = l.length) ∧ (j + 1 < l.length → l.getD (j + 1) 0 ∈ nearL W H true (l.getD j 0)) := by
    intro l
    induction l with
    | nil => intro _ j hj; simp at hj
    | cons a r ih =>
      intro hw j hj
      match r, hw, ih with
      | [], hw, _ =>
        have : j = 0 := by simp at hj; omega
        subst this
        obtain ⟨c1, c2, c3⟩ := iniB_cond hw
        exact ⟨c2, fun h => by omega, ⟨fun _ => rfl, fun _ => c3⟩, fun h => by simp at h⟩
      | k :: r, hw, ih =>
        obtain ⟨c1, c2, c3⟩ := nbB_cond hw.1
        match j with
        | 0 => exact ⟨c2, fun h => by omega, ⟨fun h => absurd h c3, fun h => by simp at h⟩, fun _ => (nbB_mem hw.1).1⟩
        | j + 1 =>
          obtain ⟨q1, q2, q3, q4⟩ := ih hw.2 j (by simpa using hj)
          refine ⟨q1, fun _ => ?_, ⟨fun h => by have := q3.1 h; simp at this ⊢; omega, fun h => q3.2 (by simp at h ⊢; omega)⟩, fun h => q4 (by simpa using h)⟩
          by_cases hj0 : j = 0
          · subst hj0; exact (nbB_mem hw.1).2
          · exact q2 (by omega)
  have hk := key (i :: l) hw
  refine ⟨fun j hj => ?_, fun j m hj hm he => ?_, ⟨by rw [hll]; simp, ?_⟩, fun j hj => ?_, fun j hj => ?_, fun j hj => ?_, fun j hj => ?_⟩
  · rw [hll] at hj; rw [hget j hj]; exact (hci j hj).1
  · rw [hll] at hj
    rw [hget j hj, hget m (by omega)] at he
    have h1 : (i :: l).getD j 0 = (i :: l).getD m 0 := by
      rw [← (hci j hj).2, ← (hci m (by omega)).2, he]
    rw [List.getD_eq_getElem?_getD, List.getD_eq_getElem?_getD, List.getElem?_eq_getElem hj, List.getElem?_eq_getElem (show m < (i :: l).length by omega)] at h1
    exact (List.pairwise_iff_getElem.1 hd) m j (by omega) hj hm h1.symm
  · have := nodup_len cs.length _ hd hin
    rw [hll]; omega
  · rw [hll] at hj
    rw [hget (j + 1) hj, hget j (by omega)]
    have h1 := hci (j + 1) hj
    have h2 := hci j (by omega)
    refine (near_iff h1.1 h2.1).1 ?_
    rw [(idxC_mod h1.1).1, (idxC_mod h2.1).1, h1.2, h2.2]
    exact (hk j (by omega)).2.2.2 hj
  · rw [hll] at hj
    rw [hget j hj, (hci j hj).2]
    have := (hk j hj).1
    unfold hldI at this
    simpa using this
  · rw [hll] at hj
    rw [hget j hj]
    show _ / W = 0 ↔ _
    constructor
    · intro h
      by_cases hj0 : j = 0
      · exact hj0
      · exact absurd h ((hk j hj).2.1 (by omega))
    · rintro rfl; exact hi
  · rw [hll] at hj ⊢
    rw [hget j hj]
    exact (hk j hj).2.2.1
theorem walk_sum {l : List Int} (hW : 0 < W) (hin : ∀ x ∈ l, 0 ≤ x ∧ x < W * H) : sumC W cs (cellsL W l) = (valW (cstI cs) l).1 := by
  unfold sumC sumK
  rw [List.take_length]
  induction l with
  | nil => rfl
  | cons i r ih =>
    have := ih (fun x hx => hin x (by simp [hx]))
    have hi := hin i (by simp)
    have h2 := (cellI_idx (W := W) (H := H) hW hi.1 hi.2).2
    show (cstI cs (idxU W (cellI W i)) :: (cellsL W r).map _).sum = _
    rw [List.sum_cons, this, h2]
    simp only [valW, addW]; omega
/-- The barrier that is found is one, and costs what is said. -/
theorem bar_is (hok : CO W H cs) {l : List Int} {w : Way} (h : barO W H cs = some (l, w)) : BarP W H cs (cellsL W l) ∧ sumC W cs (cellsL W l) = w.1 ∧ (∀ x ∈ l, 0 ≤ x ∧ x < cs.length) ∧ l.length ≤ 100 := by
  have hW := hok.w
  have hlen := hok.len
  obtain ⟨w0, hw0⟩ : ∃ w0 : Nat, (w0 : Int) = W := ⟨W.toNat, by omega⟩
  have hwt : W.toNat = w0 := by omega
  unfold barO at h
  rw [hwt] at h
  rcases bestP_spec (wayB W H cs) w0 with ⟨g1, _⟩ | ⟨b, g1, g2, wb, g3, _, _⟩
  · rw [g1] at h
    cases hd : wayB W H cs (-1) with
    | none => rw [hd] at h; cases h
    | some u => have := (wayB_dom hok hd).1; omega
  · rw [g1, g3] at h
    cases h
    obtain ⟨p1, p2, ⟨r, p3⟩, p4, _⟩ := path_walk hok w.2.toNat g3 (Nat.le_refl _)
    have hin := walk_rng (n := cs.length) iniB_in (nbB_in (by omega) hok.len) p1
    rw [p3] at p1 p2 p4 hin ⊢
    have hbar := walk_bar hok p1 (Int.ediv_eq_zero_of_lt (by omega) (by omega)) p4
    refine ⟨hbar, by rw [walk_sum (H := H) (by omega) (fun x hx => by have := hin x hx; omega), p2], hin, ?_⟩
    have := hbar.len.2
    simpa [cellsL] using this
end
end Go.Proofs.Ytbhpnhcdjmcaoaa

/- Boom: Barrier, the program's and the reference's; lists of cells that are the same. -/
namespace Go.Proofs.Ytbhpnhcdjmcaoaa
open Go.RowKit
set_option linter.unusedVariables false
set_option linter.unusedSimpArgs false
def barC (W H : Int) (cs : List Int) : List Cell := if okC W H cs then (match barO W H cs with | none => [] | some (l, _) => cellsL W l) else []
def barE (W H : Int) (cs : List Int) : Int := if okC W H cs then (match barO W H cs with | none => 5 | some _ => 0) else 30
theorem barC_some {W H : Int} {cs : List Int} {l : List Int} {w : Way} (hv : okC W H cs = true) (h : barO W H cs = some (l, w)) : barC W H cs = cellsL W l ∧ barE W H cs = 0 := by
  unfold barC barE; rw [hv, h]; exact ⟨rfl, rfl⟩
theorem barC_none {W H : Int} {cs : List Int} (hv : okC W H cs = true) (h : barO W H cs = none) : barC W H cs = [] ∧ barE W H cs = 5 := by
  unfold barC barE; rw [hv, h]; exact ⟨rfl, rfl⟩
theorem barC_bad {W H : Int} {cs : List Int} (hv : okC W H cs = false) : barC W H cs = [] ∧ barE W H cs = 30 := by
  unfold barC barE; rw [hv]; exact ⟨rfl, rfl⟩
set_option maxHeartbeats 4000000 in
theorem pBarrier_spec (W H : Int) (cs : List Int) (hl : cs.length ≤ 300) :
    Spec Try.prog 20 [chR W H cs.length] [⟨0, .ro 0, cs.map C.i⟩] 2 (fun v L' _ => cellsE (barC W H cs) (barE W H cs) v L') := by
  refine Spec.of tok Try.func20 rfl rfl rfl fun n0 cx => vc_ok tok ?_
  cases hv : okC W H cs with
  | false =>
    obtain ⟨e1, e2⟩ := barC_bad hv
    rw [e1, e2]
    repeat ((conv => whnf); first | (refine And.intro (by first | omega | exact Nat.le_of_ble_eq_true rfl) ?_) | refine Exists.intro _ (And.intro rfl ?_) | refine br_t (by omega) ?_ | refine fun (K' : K3) hK' => ?_ | (refine hK' _ _ _ ?_; clear hK' K') | refine CallK.newNo (a := 0) (bs := []) (R := [(1, none)]) 30 hl (by simp) (.inl ⟨hv, rfl⟩) rfl rfl (roNil rfl) ?_ | refine CallK.m ?_)
    exact .inl ⟨rfl, rfl⟩
  | true =>
    have hok := okC_iff.1 hv
    have hba := barrier_spec W H cs hok
    cases hbo : barO W H cs with
    | none =>
      obtain ⟨e1, e2⟩ := barC_none hv hbo
      rw [e1, e2]
      repeat ((conv => whnf); first | (refine And.intro (by first | omega | exact Nat.le_of_ble_eq_true rfl) ?_) | refine Exists.intro _ (And.intro rfl ?_) | refine br_f (by omega) ?_ | refine fun (K' : K3) hK' => ?_ | (refine hK' _ _ _ ?_; clear hK' K') | refine CallK.newOk (a := 0) (bs := []) (R := [(1, none)]) hl (by simp) hv (okB_nil _ _ _) rfl rfl (by omega) (roNil rfl) ?_ | refine CallK.barN (R := [(1, some 3)]) hbo hba (by kernel_rfl) rfl (by simp [V.wf, A.wf, C.wf]) ⟨roE_ints (l := 0) rfl (by omega) rfl (.inl rfl), trivial⟩ rfl ?_ | refine CallK.m ?_)
      exact .inl ⟨rfl, rfl⟩
    | some q =>
      obtain ⟨l, w⟩ := q
      obtain ⟨e1, e2⟩ := barC_some hv hbo
      rw [e1, e2]
      obtain ⟨_, _, hin, hlen⟩ := bar_is hok hbo
      have hW := hok.w
      have hn : (cs.length : Int) ≤ 100 := by have := Int.mul_le_mul hok.w.2 hok.h.2 (by have := hok.h; omega) (by omega : (0:Int) ≤ 10); have := hok.len; omega
      have hce := cells_spec W H cs.length l (by omega) (by omega) (fun k hk => by have := hin _ (getD_mem hk); omega)
      repeat ((conv => whnf); first | (refine And.intro (by first | omega | exact Nat.le_of_ble_eq_true rfl) ?_) | refine Exists.intro _ (And.intro rfl ?_) | refine br_f (by omega) ?_ | refine fun (K' : K3) hK' => ?_ | (refine hK' _ _ _ ?_; clear hK' K') | refine CallK.newOk (a := 0) (bs := []) (R := [(1, none)]) hl (by simp) hv (okB_nil _ _ _) rfl rfl (by omega) (roNil rfl) ?_ | refine CallK.barS (R := [(1, some 3)]) hbo hba (by kernel_rfl) rfl (by simp [V.wf, A.wf, C.wf]) ⟨roE_ints (l := 0) rfl (by omega) rfl (.inl rfl), trivial⟩ rfl ?_ | refine CallK.cellsR (R := [(1, some 3), (2, some 5)]) hce (by kernel_rfl) rfl (by simp [V.wf, A.wf, C.wf]) ⟨roE_ints (l := 5) rfl (by omega) rfl (.inl rfl), trivial⟩ rfl ?_ | refine CallK.m ?_)
      exact .inr ⟨_, rfl, rfl⟩
section
variable {P : Program} {n0 nx nac : Nat} {f : FuncId} {vs vs' : List V} {Lc L : List E} {R : Rn} {K : V → List E → Nat → Prop}
end
/-- The first of some neighbours from which the rest goes on; -1: none does. -/
def nextF (d : Int → Option Way) (rest : Way) (l : List Int) : Int := match l.find? (fun k => decide (d k = some rest)) with
  | some k => k
  | none => -1
def sameB (a b : List Cell) : Bool := decide (a.length = b.length) && (List.range a.length).all fun k => decide (a.getD k cz = b.getD k cz)
end Go.Proofs.Ytbhpnhcdjmcaoaa

/- Boom, plain: neighbours the other way round. -/
namespace Go.Proofs.Ytbhpnhcdjmcaoaa
open Go.RowKit
set_option linter.unusedVariables false
set_option linter.unusedSimpArgs false
theorem near_symm {W H : Int} {e : Bool} {i k : Int} (hW : 0 < W) (hi : 0 ≤ i) (hn : i < W * H) (h : k ∈ nearL W H e i) : i ∈ nearL W H e k := by
  have hk := near_in hW h
  obtain ⟨a1, a2⟩ := cellI_idx (W := W) (H := H) hW hi hn
  obtain ⟨b1, b2⟩ := cellI_idx (W := W) (H := H) hW hk.1 hk.2
  have e1 : idxC W H (cellI W i) = i := (idxC_mod a1).1.trans a2
  have e2 : idxC W H (cellI W k) = k := (idxC_mod b1).1.trans b2
  rw [← e1, ← e2] at h ⊢
  exact (near_iff a1 b1).2 (adj_symm ((near_iff b1 a1).1 h))
end Go.Proofs.Ytbhpnhcdjmcaoaa

/- Boom, the reference: the greatest heights. -/
namespace Go.Proofs.Ytbhpnhcdjmcaoaa
open Go.RowKit
set_option linter.unusedVariables false
set_option linter.unusedSimpArgs false
/-- The edges as the reference goes over them. -/
def edR (W H : Int) (j : Nat) : List (Int × Int) := (List.range j).flatMap fun i : Nat => (nearL W H true (i : Int)).map fun k => (k, (i : Int))
end Go.Proofs.Ytbhpnhcdjmcaoaa

/- Boom: a range over the neighbours of a cell of a chart whose booms lie anywhere. -/
namespace Go.Proofs.Ytbhpnhcdjmcaoaa
open Go.RowKit
set_option linter.unusedVariables false
set_option linter.unusedSimpArgs false
/-- What lies there within the range: the cell, the record, what the neighbours were asked with, and the caller's. -/
abbrev ownNM (ml : Nat) (W H : Int) (n : Nat) (i : Int) (e : Bool) (oo : Obj) (L : List E) : List E :=
  ⟨40, .own 57, [C.i (i % W), C.i (i / W)]⟩ :: ⟨16, .obj oo, []⟩ :: ⟨15, .own 4, [.bool e]⟩ :: ⟨14, .own 3, [C.i i]⟩ :: ⟨13, .own 65, [C.i W, C.i H, .sl 0 n, .mp ml]⟩ :: L
abbrev ownSM (ml : Nat) (W H : Int) (n : Nat) (i : Int) (e : Bool) (oo : Obj) (L : List E) : List E :=
  ⟨16, .obj oo, []⟩ :: ⟨15, .own 4, [.bool e]⟩ :: ⟨14, .own 3, [C.i i]⟩ :: ⟨13, .own 65, [C.i W, C.i H, .sl 0 n, .mp ml]⟩ :: L
theorem MOK.ownM {ml : Nat} {W H : Int} {n : Nat} {i : Int} {e : Bool} {oo : Obj} {L : List E} (h : MOK 40 (ownSM ml W H n i e oo L)) : MOK 41 (ownNM ml W H n i e oo L) := by
  refine ⟨fun x hx => ?_, ?_⟩
  · rcases List.mem_cons.1 hx with rfl | hx
    · exact ⟨by show 40 < 41; omega, fun c hc => by simp only [List.mem_cons, List.not_mem_nil, or_false] at hc; rcases hc with rfl | rfl <;> trivial⟩
    · have := h.1 x hx; exact ⟨by omega, fun c hc => C.wf_mono (by omega) (this.2 c hc)⟩
  · show injB [] (_ :: ownSM ml W H n i e oo L) = true
    rw [injB, Bool.and_eq_true]
    refine ⟨List.all_eq_true.2 fun x hx => ?_, h.2⟩
    have h1 : x.lab < 40 := (h.1 x hx).1
    have h2 : Nat.beq x.lab 40 = false := by
      cases hb : Nat.beq x.lab 40 with
      | false => rfl
      | true => have := Nat.eq_of_beq_eq_true hb; omega
    have h3 : Nat.beq 40 x.lab = false := by
      cases hb : Nat.beq 40 x.lab with
      | false => rfl
      | true => have := Nat.eq_of_beq_eq_true hb; omega
    simp only [renL, h2, h3]; rfl
set_option maxRecDepth 10000 in
set_option maxHeartbeats 4000000 in
theorem Tri.nearM {n0 : Nat} {cx : Cx} {N na : Nat} {ml : Nat} {W H : Int} {n : Nat} {i : Int} {e : Bool} {g : Operand} {ps : Array Tmp} {asg bd : Code} {K : Kt} {s : S} {Ls : List E} {R0 : Rn} (I : List Int → Prop) (L' : List Int → List E) (hI0 : I [])
    (hW : 0 < W ∧ W ≤ 10) (hH : 0 < H ∧ H ≤ 10) (hi : 0 ≤ i ∧ i ≤ 1000)
    (hg : ev s g = some (V.c (.fn 104 [(13, 0), (14, 0), (15, 0)]))) (hps : (ps.toList.all fun p => Nat.blt p N) = true) (hp1 : ps.toList.length = 1)
    (h0 : ∀ oo : Obj, Enter R0 17 40 [] (⟨16, .obj oo, []⟩ :: Ls) [] (ownSM ml W H n i e oo (L' [])))
    (body : ∀ (oo ob : Obj) (od : Code → Obj) (pre post : List Int) (k : Int), nearL W H e i = pre ++ k :: post → 0 ≤ k → k < W * H → I pre →
      Rnd Try.prog n0 cx N s ps asg bd 16 oo ob od [V.i k] (ownNM ml W H n i e oo (L' pre)) 41 (fun v L2 nx2 => (v = V.c .tt ∧ I (pre ++ [k]) ∧ ∃ R, renL R 40 = some 40 ∧ Enter R 17 41 [] L2 [] (ownNM ml W H n i e oo (L' (pre ++ [k])))) ∨ (v = V.c .ff ∧ EndK 16 oo od K s L2 nx2)))
    (hend : ∀ (oo : Obj) (od : Code → Obj), I (nearL W H e i) → EndK 16 oo od K s (ownNM ml W H n i e oo (L' (nearL W H e i))) 41) :
    Tri Try.prog n0 cx N na (.rangeFunc g ps asg bd) K s Ls 16 := by
  refine Tri.rangeFunc tok hg (by kernel_rfl) (by exact rfl) (by exact rfl) (by exact rfl) (by exact rfl) (by exact rfl) hps ?_
  intro y cxi oo ob od hy hY
  have hfix : ∀ {R : Rn} {l : Nat}, fixB R 17 = true → l < 17 → renL R l = some l := fun h hl => fixB_spec h hl
  have hptr : ∀ {R : Rn} {l o : Nat}, renL R l = some l → V.ren R (V.c (.ptr l o)) = some (V.c (.ptr l o)) := fun {R l o} h => by simp only [V.ren, A.ren, C.ren, V.c, h]
  have hE0 := h0 oo
  refine Tri.enter (R := R0) (nx' := 40) (s' := enterS (V.c (.v y) :: [(13, 0), (14, 0), (15, 0)].map ptrV) 0) (L' := ownSM ml W H n i e oo (L' [])) ?_ ⟨?_, hE0.l, hE0.inj, hE0.fix, hE0.na⟩
  rotate_left
  · refine And.intro (covS_syn rfl rfl hy) (And.intro (covS_syn (hptr (hfix hE0.fix (by omega))).symm rfl (by show 13 < 40; omega)) (And.intro (covS_syn (hptr (hfix hE0.fix (by omega))).symm rfl (by show 14 < 40; omega)) (And.intro (covS_syn (hptr (hfix hE0.fix (by omega))).symm rfl (by show 15 < 40; omega)) trivial)))
  have hm0 : MOK 41 (ownNM ml W H n i e oo (L' [])) := hE0.mok.ownM
  have hx0 : 0 ≤ i % W := Int.emod_nonneg _ (by omega)
  have hx1 : i % W < W := Int.emod_lt_of_pos _ (by omega)
  have hy0 : 0 ≤ i / W := Int.ediv_nonneg hi.1 (by omega)
  have hy1 : i / W ≤ 1000 := Int.le_trans (Int.ediv_le_self _ hi.1) (by omega)
  have hWH : W * H ≤ 100 := by have := Int.mul_le_mul hW.2 hH.2 (by omega) (by omega : (0:Int) ≤ 10); omega
  have hno : ∀ x ∈ L' [], x.lab ≠ 40 := fun x hx => by have := (hE0.mok.1 x (by simp [hx])).1; omega
  clear h0 hE0
  refine vc_ok tok ?_
  repeat ((conv => whnf); first | (refine And.intro (by first | omega | exact Nat.le_of_ble_eq_true rfl) ?_) | refine Exists.intro _ (And.intro rfl ?_) | refine fun (K' : K3) hK' => ?_ | (refine hK' _ _ _ ?_; clear hK' K') | refine CallK.val (R := [(1, some ml)]) (cell_spec W H n i (by omega) (by omega) (by omega)) (by kernel_rfl) rfl (by simp [V.wf, A.wf, C.wf]) trivial rfl rfl (by simp [V.wf, A.wf, C.wf]) ?_ | with_reducible refine updK_no hno ?_ | refine CallK.m ?_)
  refine Tri.loop (γ := Nat) (fun a => a ≤ 3 ∧ MOK 41 (ownNM ml W H n i e oo (L' (candP W H e i (3 * a)))) ∧ I (candP W H e i (3 * a))) (fun a => [(0, V.c (.v y)), (1, V.c (.ptr 13 0)), (2, V.c (.ptr 14 0)), (3, V.c (.ptr 15 0)), (5, V.c (.ptr 40 0)), (6, V.i ((a : Int) - 1))])
    (fun a => ownNM ml W H n i e oo (L' (candP W H e i (3 * a)))) 41 (fun a => 3 - a) 0 (R0 := []) ?_ ?_ ?_
  · exact ⟨by omega, hm0, hI0⟩
  · refine ⟨?_, hm0.cov, hm0.2, rfl, Nat.le_of_ble_eq_true rfl⟩
    repeat (first | exact trivial | refine And.intro (covS_syn (by first | rfl) rfl (by first | exact trivial | exact Nat.le_of_ble_eq_true rfl | exact hy)) ?_)
  · rintro a ⟨ha, hma, hIa⟩
    refine vc_ok tok ?_
    by_cases ha3 : a < 3
    · repeat ((conv => whnf); first | refine br_t (by omega) ?_ | refine fun (K' : K3) hK' => ?_ | (refine hK' _ _ _ ?_; clear hK' K'))
      refine Tri.loop (γ := Nat) (fun b => b ≤ 3 ∧ MOK 41 (ownNM ml W H n i e oo (L' (candP W H e i (3 * a + b)))) ∧ I (candP W H e i (3 * a + b))) (fun b => [(0, V.c (.v y)), (1, V.c (.ptr 13 0)), (2, V.c (.ptr 14 0)), (3, V.c (.ptr 15 0)), (5, V.c (.ptr 40 0)), (6, V.i ((a : Int) - 1)), (7, V.i ((b : Int) - 1))])
        (fun b => ownNM ml W H n i e oo (L' (candP W H e i (3 * a + b)))) 41 (fun b => 3 - b) 0 (R0 := []) ?_ ?_ ?_
      · exact ⟨by omega, hma, hIa⟩
      · refine ⟨?_, hma.cov, hma.2, rfl, Nat.le_of_ble_eq_true rfl⟩
        repeat (first | exact trivial | refine And.intro (covS_syn (by first | rfl) rfl (by first | exact trivial | exact Nat.le_of_ble_eq_true rfl | exact hy)) ?_)
      · rintro b ⟨hb, hmb, hIb⟩
        refine vc_ok tok ?_
        by_cases hb3 : b < 3
        · -- the round's end where nothing was handed out
          have stay : ∀ {s2 : S}, candP W H e i (3 * a + (b + 1)) = candP W H e i (3 * a + b) → covS [] 41 s2 [(0, V.c (.v y)), (1, V.c (.ptr 13 0)), (2, V.c (.ptr 14 0)), (3, V.c (.ptr 15 0)), (5, V.c (.ptr 40 0)), (6, V.i ((a : Int) - 1)), (7, V.i (((b + 1 : Nat) : Int) - 1))] →
              ∃ g' R, (g' ≤ 3 ∧ MOK 41 (ownNM ml W H n i e oo (L' (candP W H e i (3 * a + g')))) ∧ I (candP W H e i (3 * a + g'))) ∧ 3 - g' < 3 - b ∧ Enter R 17 41 s2 (ownNM ml W H n i e oo (L' (candP W H e i (3 * a + b)))) [(0, V.c (.v y)), (1, V.c (.ptr 13 0)), (2, V.c (.ptr 14 0)), (3, V.c (.ptr 15 0)), (5, V.c (.ptr 40 0)), (6, V.i ((a : Int) - 1)), (7, V.i ((g' : Int) - 1))] (ownNM ml W H n i e oo (L' (candP W H e i (3 * a + g')))) := fun {s2} hst hS => by
            refine ⟨b + 1, [], ⟨by omega, by rw [hst]; exact hmb, by rw [hst]; exact hIb⟩, by omega, ⟨hS, by rw [hst]; exact hmb.cov, by rw [hst]; exact hmb.2, rfl, Nat.le_of_ble_eq_true rfl⟩⟩
          by_cases hs : (b = 1 ∧ a = 1) ∨ (e = false ∧ b ≠ 1 ∧ a ≠ 1)
          · have hst := candP_none hb3 (cand_skip (W := W) (H := H) (e := e) (x := i % W) (y := i / W) hs)
            rcases hs with ⟨hb1, ha1⟩ | ⟨he, hb1, ha1⟩
            · repeat ((conv => whnf); first | (refine And.intro (by first | omega | (dsimp only [inK]; omega)) ?_) | refine br_t (by omega) ?_ | refine bs_t (by omega) ?_ | refine fun (K' : K3) hK' => ?_ | (refine hK' _ _ _ ?_; clear hK' K'))
              refine stay hst ?_
              repeat (first | exact trivial | refine And.intro (covS_syn (by first | rfl | (refine congrArg some (congrArg V.i ?_); omega)) rfl (by first | exact trivial | exact Nat.le_of_ble_eq_true rfl | exact hy)) ?_)
            · repeat ((conv => whnf); first | (refine And.intro (by first | omega | (dsimp only [inK]; omega)) ?_) | refine Exists.intro _ (And.intro rfl ?_) | refine br_t (by omega) ?_ | refine br_f (by omega) ?_ | refine fun (K' : K3) hK' => ?_ | (refine hK' _ _ _ ?_; clear hK' K') | refine br_bt (by simp [he]) ?_)
              refine stay hst ?_
              repeat (first | exact trivial | refine And.intro (covS_syn (by first | rfl | (refine congrArg some (congrArg V.i ?_); omega)) rfl (by first | exact trivial | exact Nat.le_of_ble_eq_true rfl | exact hy)) ?_)
          · obtain ⟨kk, hkk⟩ : ∃ kk, kk = idxI W H (i % W + ((b : Int) - 1)) (i / W + ((a : Int) - 1)) := ⟨_, rfl⟩
            have hcase : (b = 1 ∧ a ≠ 1) ∨ (b ≠ 1 ∧ (e = true ∨ a = 1)) := by
              by_cases q : b = 1
              · exact .inl ⟨q, fun q2 => hs (.inl ⟨q, q2⟩)⟩
              · refine .inr ⟨q, ?_⟩
                cases e with
                | true => exact .inl rfl
                | false => exact .inr (Classical.byContradiction fun q3 => hs (.inr ⟨rfl, q, q3⟩))
            have hix := index_spec W H n (i % W + ((b : Int) - 1)) (i / W + ((a : Int) - 1)) (by omega) (by omega)
            rw [← hkk] at hix
            have hk100 : kk ≤ 1000 := by
              by_cases hq : kk ≥ 0
              · have := (idxI_lt hW.1 (hkk ▸ hq)).1; rw [hkk]; omega
              · omega
            by_cases hin2 : kk ≥ 0
            · have hc := cand_in (x := i % W) (y := i / W) hs (by rw [← hkk]; exact hin2)
              rw [← hkk] at hc
              obtain ⟨post, hsp⟩ := candP_split ha3 hb3 hc
              have hnew := candP_some hb3 hc
              have hkl : kk < W * H := by rw [hkk] at hin2 ⊢; exact (idxI_lt hW.1 hin2).1
              have hbody := body oo ob od _ post kk hsp hin2 hkl hIb
              rw [← hnew] at hbody
              have go : ∀ {s2 : S} {L2 : List E} {R : Rn}, I (candP W H e i (3 * a + (b + 1))) → renL R 40 = some 40 → Enter R 17 41 [] L2 [] (ownNM ml W H n i e oo (L' (candP W H e i (3 * a + (b + 1))))) → (fixB R 17 = true → covS R 41 s2 [(0, V.c (.v y)), (1, V.c (.ptr 13 0)), (2, V.c (.ptr 14 0)), (3, V.c (.ptr 15 0)), (5, V.c (.ptr 40 0)), (6, V.i ((a : Int) - 1)), (7, V.i (((b + 1 : Nat) : Int) - 1))]) →
                  ∃ g' R, (g' ≤ 3 ∧ MOK 41 (ownNM ml W H n i e oo (L' (candP W H e i (3 * a + g')))) ∧ I (candP W H e i (3 * a + g'))) ∧ 3 - g' < 3 - b ∧ Enter R 17 41 s2 L2 [(0, V.c (.v y)), (1, V.c (.ptr 13 0)), (2, V.c (.ptr 14 0)), (3, V.c (.ptr 15 0)), (5, V.c (.ptr 40 0)), (6, V.i ((a : Int) - 1)), (7, V.i ((g' : Int) - 1))] (ownNM ml W H n i e oo (L' (candP W H e i (3 * a + g')))) := fun {s2 L2 R} hI h1 h2 h3 =>
                ⟨b + 1, R, ⟨by omega, h2.mok, hI⟩, by omega, ⟨h3 h2.fix, h2.l, h2.inj, h2.fix, h2.na⟩⟩
              clear body hend hma hmb stay hm0 hsp hnew hc hkk
              cases e <;> rcases hcase with ⟨q1, q2⟩ | ⟨q1, q2 | q2⟩ <;> (try cases q2)
              all_goals
                repeat ((conv => whnf); first | (refine And.intro (by first | omega | exact Nat.le_of_ble_eq_true rfl | (dsimp only [inK]; omega)) ?_) | refine Exists.intro _ (And.intro rfl ?_) | refine br_t (by omega) ?_ | refine br_f (by omega) ?_ | refine bs_f (by omega) ?_ | refine fun (K' : K3) hK' => ?_ | (refine hK' _ _ _ ?_; clear hK' K') | refine CallK.val (R := [(1, some ml)]) hix (by kernel_rfl) rfl (by simp [V.wf, A.wf, C.wf]) trivial rfl rfl trivial ?_ | refine br_bt (Eq.refl true) ?_ | refine br_bf (Eq.refl false) ?_ | refine CallK.m ?_)
                refine hY _ _ _ _ (Nat.le_of_ble_eq_true rfl) hp1.symm ⟨rfl, trivial⟩ (hbody.mono ?_)
                rintro v L2 nx2 (⟨rfl, hI, R, hR40, hE⟩ | ⟨rfl, hE⟩)
                · repeat ((conv => whnf); first | (refine And.intro (by first | omega | (dsimp only [inK]; omega)) ?_) | refine fun (K' : K3) hK' => ?_ | (refine hK' _ _ _ ?_; clear hK' K'))
                  refine go hI hR40 hE fun hf => ?_
                  repeat (first | exact trivial | refine And.intro (covS_syn (by first | rfl | exact (hptr (hfix hf (by omega))).symm | exact (hptr hR40).symm | (refine congrArg some (congrArg V.i ?_); omega)) rfl (by first | exact trivial | exact Nat.le_of_ble_eq_true rfl | exact hy)) ?_)
                · repeat ((conv => whnf); refine hK' _ _ _ ?_; clear hK' K')
                  exact hE
            · have hst := candP_none hb3 (cand_out (e := e) (x := i % W) (y := i / W) (by rw [← hkk]; exact hin2))
              clear body hend hma hm0
              cases e <;> rcases hcase with ⟨q1, q2⟩ | ⟨q1, q2 | q2⟩ <;> (try cases q2)
              all_goals
                repeat ((conv => whnf); first | (refine And.intro (by first | omega | exact Nat.le_of_ble_eq_true rfl | (dsimp only [inK]; omega)) ?_) | refine Exists.intro _ (And.intro rfl ?_) | refine br_t (by omega) ?_ | refine br_f (by omega) ?_ | refine bs_f (by omega) ?_ | refine fun (K' : K3) hK' => ?_ | (refine hK' _ _ _ ?_; clear hK' K') | refine CallK.val (R := [(1, some ml)]) hix (by kernel_rfl) rfl (by simp [V.wf, A.wf, C.wf]) trivial rfl rfl trivial ?_ | refine br_bt (Eq.refl true) ?_ | refine br_bf (Eq.refl false) ?_ | refine CallK.m ?_)
                refine stay hst ?_
                repeat (first | exact trivial | refine And.intro (covS_syn (by first | rfl | (refine congrArg some (congrArg V.i ?_); omega)) rfl (by first | exact trivial | exact Nat.le_of_ble_eq_true rfl | exact hy)) ?_)
        · have hb3' : b = 3 := by omega
          subst hb3'
          have h3 : 3 * a + 3 = 3 * (a + 1) := by omega
          repeat ((conv => whnf); first | (refine And.intro (by first | omega | (dsimp only [inK]; omega)) ?_) | refine br_f (by omega) ?_ | refine fun (K' : K3) hK' => ?_ | (refine hK' _ _ _ ?_; clear hK' K'))
          refine ⟨a + 1, [], ⟨by omega, h3 ▸ hmb, h3 ▸ hIb⟩, by omega, ?_, h3 ▸ hmb.cov, h3 ▸ hmb.2, rfl, Nat.le_of_ble_eq_true rfl⟩
          repeat (first | exact trivial | refine And.intro (covS_syn (by first | rfl | (refine congrArg some (congrArg V.i ?_); omega)) rfl (by first | exact trivial | exact Nat.le_of_ble_eq_true rfl | exact hy)) ?_)
    · have ha3' : a = 3 := by omega
      subst ha3'
      repeat ((conv => whnf); first | refine br_f (by omega) ?_ | refine fun (K' : K3) hK' => ?_ | (refine hK' _ _ _ ?_; clear hK' K'))
      exact hend oo od hIa
end Go.Proofs.Ytbhpnhcdjmcaoaa

/- Boom: what heights prove. -/
namespace Go.Proofs.Ytbhpnhcdjmcaoaa
open Go.RowKit
set_option linter.unusedVariables false
set_option linter.unusedSimpArgs false
def hBad (x : Int) : Bool := !decide (0 ≤ x ∧ x ≤ 1000000)
theorem hbad_spec (x : Int) : Spec Try.prog 78 [V.i x] [] 1 (Is (V.c (.bool (hBad x)))) := by
  refine Spec.of tok Try.func78 rfl rfl rfl fun n0 cx => vc_ok tok ?_
  repeat ((conv => whnf); first | refine fun (K' : K3) hK' => ?_ | (refine hK' _ _ _ ?_; clear hK' K') | refine CallK.val (R := []) (between_spec _ _ _) (by kernel_rfl) rfl (by simp [V.wf, A.wf, C.wf]) trivial rfl rfl trivial ?_ | refine CallK.m ?_)
  intro ρ; rfl
theorem hany_spec (hs : List Int) (hl : hs.length ≤ 300) : Spec Try.prog 77 [V.c (.sl 0 hs.length), V.c (.fn 78 [])] [⟨0, .ro 0, hs.map C.i⟩] 1 (Is (V.c (.bool (hs.any hBad)))) :=
  contains_any (Lc := []) hl (by kernel_rfl) (fun i hi => hbad_spec _) (by simp) (by omega) (by simp) (fun _ _ => trivial) rfl ⟨roE_id (by omega) (wf_ints _ _) rfl (.inl rfl) rfl, trivial⟩
/-- Whether the heights are right at a cell, as the program asks, and as the reference does. -/
def okPi (W H : Int) (cs hs : List Int) (n : Int) (i : Int) : Bool :=
  !hldI cs i || (!((decide (i / W = 0) && decide (hL hs i > cstI cs i)) || (decide (i / W = H - 1) && decide (hL hs i < n))) && (nearL W H true i).all fun k => !(hldI cs k && decide (hL hs k > hL hs i + cstI cs k)))
def okRi (W H : Int) (cs hs : List Int) (n : Int) (i : Int) : Bool :=
  !hldI cs i || (!((decide (i / W = 0) && decide (hL hs i > cstI cs i)) || (decide (i / W = H - 1) && decide (hL hs i < n))) && (nearL W H true i).all fun k => !(hldI cs k && decide (hL hs i > hL hs k + cstI cs i)))
def provP (W H : Int) (cs hs : List Int) (n : Int) : Bool := (List.range cs.length).all fun i => okPi W H cs hs n i
def provR (W H : Int) (cs hs : List Int) (n : Int) : Bool := (List.range cs.length).all fun i => okRi W H cs hs n i
theorem prov_iff {W H : Int} {cs hs : List Int} {n : Int} : provP W H cs hs n = true ↔ ∀ i : Int, 0 ≤ i → i < cs.length → hldI cs i = true → (i / W = 0 → hL hs i ≤ cstI cs i) ∧ (i / W = H - 1 → n ≤ hL hs i) ∧ ∀ k ∈ nearL W H true i, hldI cs k = true → hL hs k ≤ hL hs i + cstI cs k := by
  unfold provP
  rw [List.all_eq_true]
  constructor
  · intro h i i0 i1 hh
    have h1 := h i.toNat (List.mem_range.2 (by omega))
    rw [show ((i.toNat : Nat) : Int) = i by omega] at h1
    unfold okPi at h1
    rw [hh, Bool.not_true, Bool.false_or, Bool.and_eq_true, List.all_eq_true] at h1
    obtain ⟨h2, h3⟩ := h1
    simp only [Bool.not_eq_true', Bool.or_eq_false_iff, Bool.and_eq_false_iff, decide_eq_false_iff_not] at h2
    refine ⟨fun hr => ?_, fun hr => ?_, fun k hk hhk => ?_⟩
    · rcases h2.1 with g | g
      · exact absurd hr g
      · omega
    · rcases h2.2 with g | g
      · exact absurd hr g
      · omega
    · have := h3 k hk
      rw [hhk, Bool.true_and, Bool.not_eq_true', decide_eq_false_iff_not] at this
      omega
  · intro h j hj
    have hj := List.mem_range.1 hj
    unfold okPi
    cases hh : hldI cs (j : Int) with
    | false => rfl
    | true =>
      obtain ⟨h1, h2, h3⟩ := h j (by omega) (by omega) hh
      rw [Bool.not_true, Bool.false_or, Bool.and_eq_true, List.all_eq_true]
      refine ⟨?_, fun k hk => ?_⟩
      · simp only [Bool.not_eq_true', Bool.or_eq_false_iff, Bool.and_eq_false_iff, decide_eq_false_iff_not]
        constructor
        · by_cases hr : (j : Int) / W = 0
          · right; have := h1 hr; omega
          · exact .inl hr
        · by_cases hr : (j : Int) / W = H - 1
          · right; have := h2 hr; omega
          · exact .inl hr
      · cases hhk : hldI cs k with
        | false => rfl
        | true =>
          have := h3 k hk hhk
          rw [Bool.true_and, Bool.not_eq_true', decide_eq_false_iff_not]; omega
theorem provR_iff {W H : Int} {cs hs : List Int} {n : Int} : provR W H cs hs n = true ↔ ∀ i : Int, 0 ≤ i → i < cs.length → hldI cs i = true → (i / W = 0 → hL hs i ≤ cstI cs i) ∧ (i / W = H - 1 → n ≤ hL hs i) ∧ ∀ k ∈ nearL W H true i, hldI cs k = true → hL hs i ≤ hL hs k + cstI cs i := by
  unfold provR
  rw [List.all_eq_true]
  constructor
  · intro h i i0 i1 hh
    have h1 := h i.toNat (List.mem_range.2 (by omega))
    rw [show ((i.toNat : Nat) : Int) = i by omega] at h1
    unfold okRi at h1
    rw [hh, Bool.not_true, Bool.false_or, Bool.and_eq_true, List.all_eq_true] at h1
    obtain ⟨h2, h3⟩ := h1
    simp only [Bool.not_eq_true', Bool.or_eq_false_iff, Bool.and_eq_false_iff, decide_eq_false_iff_not] at h2
    refine ⟨fun hr => ?_, fun hr => ?_, fun k hk hhk => ?_⟩
    · rcases h2.1 with g | g
      · exact absurd hr g
      · omega
    · rcases h2.2 with g | g
      · exact absurd hr g
      · omega
    · have := h3 k hk
      rw [hhk, Bool.true_and, Bool.not_eq_true', decide_eq_false_iff_not] at this
      omega
  · intro h j hj
    have hj := List.mem_range.1 hj
    unfold okRi
    cases hh : hldI cs (j : Int) with
    | false => rfl
    | true =>
      obtain ⟨h1, h2, h3⟩ := h j (by omega) (by omega) hh
      rw [Bool.not_true, Bool.false_or, Bool.and_eq_true, List.all_eq_true]
      refine ⟨?_, fun k hk => ?_⟩
      · simp only [Bool.not_eq_true', Bool.or_eq_false_iff, Bool.and_eq_false_iff, decide_eq_false_iff_not]
        constructor
        · by_cases hr : (j : Int) / W = 0
          · right; have := h1 hr; omega
          · exact .inl hr
        · by_cases hr : (j : Int) / W = H - 1
          · right; have := h2 hr; omega
          · exact .inl hr
      · cases hhk : hldI cs k with
        | false => rfl
        | true =>
          have := h3 k hk hhk
          rw [Bool.true_and, Bool.not_eq_true', decide_eq_false_iff_not]; omega
theorem prov_eq {W H : Int} {cs hs : List Int} {n : Int} (hok : CO W H cs) : provP W H cs hs n = provR W H cs hs n := by
  rw [Bool.eq_iff_iff, prov_iff, provR_iff]
  have hW : 0 < W := by have := hok.w; omega
  have hlen := hok.len
  constructor
  · intro h i i0 i1 hh
    obtain ⟨h1, h2, _⟩ := h i i0 i1 hh
    refine ⟨h1, h2, fun k hk hhk => ?_⟩
    have hki := near_in hW hk
    exact (h k hki.1 (by omega) hhk).2.2 i (near_symm hW i0 (by omega) hk) hh
  · intro h i i0 i1 hh
    obtain ⟨h1, h2, _⟩ := h i i0 i1 hh
    refine ⟨h1, h2, fun k hk hhk => ?_⟩
    have hki := near_in hW hk
    exact (h k hki.1 (by omega) hhk).2.2 i (near_symm hW i0 (by omega) hk) hh
theorem provP_no {W H : Int} {cs hs : List Int} {n : Int} {i : Nat} (hi : i < cs.length) (h : okPi W H cs hs n i = false) : provP W H cs hs n = false := by
  unfold provP; rw [List.all_eq_false]; exact ⟨i, by simpa using hi, by simp [h]⟩
theorem provR_no {W H : Int} {cs hs : List Int} {n : Int} {i : Nat} (hi : i < cs.length) (h : okRi W H cs hs n i = false) : provR W H cs hs n = false := by
  unfold provR; rw [List.all_eq_false]; exact ⟨i, by simpa using hi, by simp [h]⟩
theorem all_no {l pre post : List Int} {k : Int} {p : Int → Bool} (h : l = pre ++ k :: post) (hk : p k = false) : l.all p = false := by
  rw [List.all_eq_false]; exact ⟨k, by rw [h]; simp, by simp [hk]⟩
/-- What Proves gives back. -/
def prvB (W H : Int) (cs hs : List Int) (n : Int) : Bool := okC W H cs && ((decide (hs.length = cs.length) && (decide (0 ≤ n ∧ n ≤ 1000000) && !hs.any hBad)) && provP W H cs hs n)
def prvE (W H : Int) (cs hs : List Int) (n : Int) : Int := if okC W H cs then (if (decide (hs.length = cs.length) && (decide (0 ≤ n ∧ n ≤ 1000000) && !hs.any hBad)) then 0 else 2) else 30
set_option maxRecDepth 10000 in
set_option maxHeartbeats 8000000 in
theorem proves_spec (W H : Int) (cs hs : List Int) (n : Int) (hl : cs.length ≤ 300) (hl2 : hs.length ≤ 300) (hn : -9223372036854775808 ≤ n ∧ n ≤ 9223372036854775807) :
    Spec Try.prog 33 [chR W H cs.length, V.c (.sl 1 hs.length), V.i n] [⟨0, .ro 0, cs.map C.i⟩, ⟨1, .ro 0, hs.map C.i⟩] 2 (Is (V.tup [A.c (.bool (prvB W H cs hs n)), A.c (C.i (prvE W H cs hs n))])) := by
  have hlm : (cs.map C.i).length = cs.length := by simp
  have hlh : (hs.map C.i).length = hs.length := by simp
  refine Spec.of tok Try.func33 rfl rfl rfl fun n0 cx => vc_ok tok ?_
  cases hv : okC W H cs with
  | false =>
    have r1 : prvB W H cs hs n = false := by unfold prvB; rw [hv]; rfl
    have r2 : prvE W H cs hs n = 30 := by unfold prvE; rw [hv]; rfl
    rw [r1, r2]
    repeat ((conv => whnf); first | (refine And.intro (by first | omega | exact Nat.le_of_ble_eq_true rfl) ?_) | refine Exists.intro _ (And.intro rfl ?_) | refine br_t (by omega) ?_ | refine fun (K' : K3) hK' => ?_ | (refine hK' _ _ _ ?_; clear hK' K') | refine CallK.newNo (a := 0) (bs := []) (R := [(1, none)]) 30 hl (by simp) (.inl ⟨hv, rfl⟩) rfl rfl (roNil rfl) ?_ | refine CallK.m ?_)
    intro ρ; rfl
  | true =>
    have hok := okC_iff.1 hv
    have hW := hok.w
    have hH := hok.h
    have hcn := hok.len
    have hn100 : (cs.length : Int) ≤ 100 := by have := Int.mul_le_mul hW.2 hH.2 (by omega) (by omega : (0:Int) ≤ 10); omega
    have hcb := cst_bd hok.cost
    have hbt := between_spec 0 n 1000000
    have hha := hany_spec hs hl2
    by_cases g1 : (hs.length : Int) = cs.length
    · have g1' : hs.length = cs.length := by omega
      by_cases g2 : 0 ≤ n ∧ n ≤ 1000000
      · cases g3 : hs.any hBad with
        | true =>
          have r1 : prvB W H cs hs n = false := by unfold prvB; rw [hv, g3]; simp
          have r2 : prvE W H cs hs n = 2 := by unfold prvE; rw [hv, g3]; simp
          rw [r1, r2]
          repeat ((conv => whnf); first | (refine And.intro (by first | omega | exact Nat.le_of_ble_eq_true rfl) ?_) | refine Exists.intro _ (And.intro rfl ?_) | refine br_f (by omega) ?_ | refine bs_f (by omega) ?_ | refine fun (K' : K3) hK' => ?_ | (refine hK' _ _ _ ?_; clear hK' K') | refine CallK.newOk (a := 0) (bs := []) (R := [(1, none)]) hl (by simp) hv (okB_nil _ _ _) rfl rfl (by omega) (roNil rfl) ?_ | refine CallK.val (R := []) hbt (by kernel_rfl) rfl (by simp [V.wf, A.wf, C.wf]) trivial rfl rfl trivial ?_ | refine bs_bf (nd_f g2) ?_ | refine CallK.val (R := [(0, some 1)]) hha (by kernel_rfl) rfl (by simp [V.wf, A.wf, C.wf]) ⟨roE_ints (l := 1) rfl (by omega) rfl (.inl rfl), trivial⟩ rfl rfl trivial ?_ | refine br_bt g3 ?_ | refine CallK.m ?_)
          intro ρ; rfl
        | false =>
          have hrng : ∀ j, j < hs.length → 0 ≤ hs.getD j 0 ∧ hs.getD j 0 ≤ 1000000 := fun j hj => by
            have := List.any_eq_false.1 g3 _ (getD_mem hj)
            unfold hBad at this
            simpa using this
          have r1 : prvB W H cs hs n = provP W H cs hs n := by unfold prvB; rw [hv, g3, dd_t g1', dd_t g2]; simp
          have r2 : prvE W H cs hs n = 0 := by unfold prvE; rw [hv, g3, dd_t g1', dd_t g2]; rfl
          rw [r1, r2]
          repeat ((conv => whnf); first | (refine And.intro (by first | omega | exact Nat.le_of_ble_eq_true rfl) ?_) | refine Exists.intro _ (And.intro rfl ?_) | refine br_f (by omega) ?_ | refine bs_f (by omega) ?_ | refine fun (K' : K3) hK' => ?_ | (refine hK' _ _ _ ?_; clear hK' K') | refine CallK.newOk (a := 0) (bs := []) (R := [(1, none)]) hl (by simp) hv (okB_nil _ _ _) rfl rfl (by omega) (roNil rfl) ?_ | refine CallK.val (R := []) hbt (by kernel_rfl) rfl (by simp [V.wf, A.wf, C.wf]) trivial rfl rfl trivial ?_ | refine bs_bf (nd_f g2) ?_ | refine CallK.val (R := [(0, some 1)]) hha (by kernel_rfl) rfl (by simp [V.wf, A.wf, C.wf]) ⟨roE_ints (l := 1) rfl (by omega) rfl (.inl rfl), trivial⟩ rfl rfl trivial ?_ | refine br_bf g3 ?_ | refine CallK.m ?_)
          refine Tri.loop (γ := Nat) (fun i => i ≤ cs.length ∧ ∀ j : Nat, j < i → okPi W H cs hs n j = true) (fun i => [(2, V.i n), (4, V.c (.ptr 3 0)), (6, V.c (.ptr 4 0)), (7, V.c (.ptr 5 0)), (8, V.c (.ptr 7 0)), (38, V.c (.sl 1 hs.length)), (39, V.i hs.length), (40, V.i (i : Nat))])
            (fun i => [⟨7, .own 65, [C.i W, C.i H, .sl 0 cs.length, .mp 6]⟩, ⟨5, .own 27, [C.i 0]⟩, ⟨4, .own 4, [.ff]⟩, ⟨3, .own 22, [.sl 1 hs.length]⟩, ⟨1, .ro 0, hs.map C.i⟩, ⟨0, .ro 0, cs.map C.i⟩]) 12 (fun i => cs.length - i) 0 (R0 := []) ?_ ?_ ?_
          · exact ⟨by omega, fun j hj => by omega⟩
          · skip
            refine ⟨?_, ?_, rfl, rfl, by exact Nat.le_of_ble_eq_true rfl⟩
            · repeat (first | exact trivial | (refine And.intro (covS_syn (by rfl) rfl (by first | exact trivial | exact Nat.le_of_ble_eq_true rfl)) ?_))
            · repeat (first | exact trivial | (refine And.intro (covE_id (Nat.le_of_ble_eq_true rfl) (by first | exact wf_ints _ _ | simp [C.wf]) rfl (by rfl)) ?_))
          · rintro i ⟨hi, hall⟩
            refine vc_ok tok ?_
            by_cases hlt : i < cs.length
            · have hld := intL (l := hs) (k := i) (by omega)
              have hri := hrng i (by omega)
              have hh := holds_spec W H cs i hlt
              have hhl : hldI cs (i : Int) = decide (cs.getD i 0 ≠ 0) := by simp [hldI]
              rw [← hhl] at hh
              have hc := cost_spec W H cs i hlt
              have hck : cstI cs (i : Int) = if cs.getD i 0 > 0 then cs.getD i 0 else 0 := by simp [cstI]
              rw [← hck] at hc
              have hci := hcb (i : Int)
              have hr0 := row_spec W H cs.length (i : Int) 0 (by omega) (by omega) (by omega)
              have hr1 := row_spec W H cs.length (i : Int) (H - 1) (by omega) (by omega) (by omega)
              have hno := fun h => provP_no (W := W) (H := H) (hs := hs) (n := n) hlt h
              have hoi : okPi W H cs hs n (i : Int) = (!hldI cs (i : Int) || (!((decide ((i : Int) / W = 0) && decide (hL hs (i : Int) > cstI cs (i : Int))) || (decide ((i : Int) / W = H - 1) && decide (hL hs (i : Int) < n))) && (nearL W H true (i : Int)).all fun k => !(hldI cs k && decide (hL hs k > hL hs (i : Int) + cstI cs k)))) := rfl
              have hei : hs.getD i 0 = hL hs (i : Int) := by unfold hL; rw [Int.toNat_natCast]
              rw [hei] at hld hri
              obtain ⟨xi, hxi⟩ : ∃ x, x = hL hs (i : Int) := ⟨_, rfl⟩
              rw [← hxi] at hld hri hoi
              obtain ⟨ci, hcie⟩ : ∃ x, x = cstI cs (i : Int) := ⟨_, rfl⟩
              rw [← hcie] at hc hci hoi
              have fin : okPi W H cs hs n (i : Int) = true → ∀ j : Nat, j < i + 1 → okPi W H cs hs n j = true := fun h j hj => by
                by_cases hji : j = i
                · rw [hji]; exact h
                · exact hall j (by omega)
              cases h1 : hldI cs (i : Int) with
              | false =>
                rw [h1] at hh
                repeat ((conv => whnf); first | (refine And.intro (by first | omega | exact Nat.le_of_ble_eq_true rfl | (dsimp only [inK]; omega)) ?_) | with_reducible refine ld (hld) ?_ | refine Exists.intro _ (And.intro rfl ?_) | refine br_t (by omega) ?_ | refine fun (K' : K3) hK' => ?_ | (refine hK' _ _ _ ?_; clear hK' K') | refine CallK.val (R := [(1, some 6)]) hh (by kernel_rfl) rfl (by simp [V.wf, A.wf, C.wf]) ⟨roE_ints (l := 0) rfl (by omega) rfl (.inl rfl), trivial⟩ rfl rfl trivial ?_ | refine br_bt rfl ?_ | refine CallK.m ?_)
                refine ⟨i + 1, [], ⟨by omega, fin (by rw [hoi, h1]; rfl)⟩, by omega, ?_⟩
                refine ⟨?_, ?_, rfl, rfl, by exact Nat.le_of_ble_eq_true rfl⟩
                · repeat (first | exact trivial | (refine And.intro (covS_syn (by rfl) rfl (by first | exact trivial | exact Nat.le_of_ble_eq_true rfl)) ?_))
                · repeat (first | exact trivial | (refine And.intro (covE_id (Nat.le_of_ble_eq_true rfl) (by first | exact wf_ints _ _ | simp [C.wf]) rfl (by rfl)) ?_))
              | true =>
                rw [h1] at hh
                rw [h1, Bool.not_true, Bool.false_or] at hoi
                -- the test of the rows
                by_cases k1 : (i : Int) / W = 0 ∧ xi > ci
                · have hr := hno (by rw [hoi, dd_t k1.1, dd_t k1.2]; rfl)
                  repeat ((conv => whnf); first | (refine And.intro (by first | omega | exact Nat.le_of_ble_eq_true rfl | (dsimp only [inK]; omega)) ?_) | with_reducible refine ld (hld) ?_ | refine Exists.intro _ (And.intro rfl ?_) | refine br_t (by omega) ?_ | refine bs_t (by omega) ?_ | refine fun (K' : K3) hK' => ?_ | (refine hK' _ _ _ ?_; clear hK' K') | refine draw_auto tok mixed (by kernel_rfl) ?_ | refine CallK.val (R := [(1, some 6)]) hh (by kernel_rfl) rfl (by simp [V.wf, A.wf, C.wf]) ⟨roE_ints (l := 0) rfl (by omega) rfl (.inl rfl), trivial⟩ rfl rfl trivial ?_ | refine br_bf rfl ?_ | refine HD_mk (fun _ h => CallK.val (R := [(1, some 6)]) hr0 (by kernel_rfl) rfl (by simp [V.wf, A.wf, C.wf]) trivial rfl rfl trivial h) ?_ | refine HD_mk (fun _ h => CallK.val (R := [(1, some 6)]) hc (by kernel_rfl) rfl (by simp [V.wf, A.wf, C.wf]) ⟨roE_ints (l := 0) rfl (by omega) rfl (.inl rfl), trivial⟩ rfl rfl trivial h) ?_ | refine CallK.m ?_)
                  intro ρ; rw [hr]; rfl
                · by_cases k2 : (i : Int) / W = H - 1 ∧ xi < n
                  · have hr := hno (by rw [hoi, dd_t k2.1, dd_t k2.2]; simp)
                    by_cases k3 : (i : Int) / W = 0
                    · have k4 : ¬ xi > ci := fun h => k1 ⟨k3, h⟩
                      repeat ((conv => whnf); first | (refine And.intro (by first | omega | exact Nat.le_of_ble_eq_true rfl | (dsimp only [inK]; omega)) ?_) | with_reducible refine ld (hld) ?_ | refine Exists.intro _ (And.intro rfl ?_) | refine br_t (by omega) ?_ | refine bs_f (by omega) ?_ | refine fun (K' : K3) hK' => ?_ | (refine hK' _ _ _ ?_; clear hK' K') | refine draw_auto tok mixed (by kernel_rfl) ?_ | refine CallK.val (R := [(1, some 6)]) hh (by kernel_rfl) rfl (by simp [V.wf, A.wf, C.wf]) ⟨roE_ints (l := 0) rfl (by omega) rfl (.inl rfl), trivial⟩ rfl rfl trivial ?_ | refine br_bf rfl ?_ | refine HD_mk (fun _ h => CallK.val (R := [(1, some 6)]) hr0 (by kernel_rfl) rfl (by simp [V.wf, A.wf, C.wf]) trivial rfl rfl trivial h) ?_ | refine HD_mk (fun _ h => CallK.val (R := [(1, some 6)]) hc (by kernel_rfl) rfl (by simp [V.wf, A.wf, C.wf]) ⟨roE_ints (l := 0) rfl (by omega) rfl (.inl rfl), trivial⟩ rfl rfl trivial h) ?_ | refine HD_mk (fun _ h => CallK.val (R := [(1, some 6)]) hr1 (by kernel_rfl) rfl (by simp [V.wf, A.wf, C.wf]) trivial rfl rfl trivial h) ?_ | refine CallK.m ?_)
                      intro ρ; rw [hr]; rfl
                    · repeat ((conv => whnf); first | (refine And.intro (by first | omega | exact Nat.le_of_ble_eq_true rfl | (dsimp only [inK]; omega)) ?_) | with_reducible refine ld (hld) ?_ | refine Exists.intro _ (And.intro rfl ?_) | refine br_t (by omega) ?_ | refine br_f (by omega) ?_ | refine fun (K' : K3) hK' => ?_ | (refine hK' _ _ _ ?_; clear hK' K') | refine draw_auto tok mixed (by kernel_rfl) ?_ | refine CallK.val (R := [(1, some 6)]) hh (by kernel_rfl) rfl (by simp [V.wf, A.wf, C.wf]) ⟨roE_ints (l := 0) rfl (by omega) rfl (.inl rfl), trivial⟩ rfl rfl trivial ?_ | refine br_bf rfl ?_ | refine HD_mk (fun _ h => CallK.val (R := [(1, some 6)]) hr0 (by kernel_rfl) rfl (by simp [V.wf, A.wf, C.wf]) trivial rfl rfl trivial h) ?_ | refine HD_mk (fun _ h => CallK.val (R := [(1, some 6)]) hr1 (by kernel_rfl) rfl (by simp [V.wf, A.wf, C.wf]) trivial rfl rfl trivial h) ?_ | refine CallK.m ?_)
                      intro ρ; rw [hr]; rfl
                  · have hrows : ((decide ((i : Int) / W = 0) && decide (xi > ci)) || (decide ((i : Int) / W = H - 1) && decide (xi < n))) = false := by
                      rw [Bool.or_eq_false_iff, Bool.and_eq_false_iff, Bool.and_eq_false_iff, decide_eq_false_iff_not, decide_eq_false_iff_not, decide_eq_false_iff_not, decide_eq_false_iff_not]
                      exact ⟨Classical.not_and_iff_not_or_not.1 k1, Classical.not_and_iff_not_or_not.1 k2⟩
                    rw [hrows, Bool.not_false, Bool.true_and] at hoi
                    clear hrows
                    have hrest : ∀ {e0 e1 : Bool}, e0 = decide ((i : Int) / W = 0) → e1 = decide ((i : Int) / W = H - 1) → True := fun _ _ => trivial
                    by_cases k3 : (i : Int) / W = 0 <;> by_cases k5 : (i : Int) / W = H - 1
                    all_goals
                      have k4 : (i : Int) / W = 0 → ¬ xi > ci := fun h h2 => k1 ⟨h, h2⟩
                      have k6 : (i : Int) / W = H - 1 → ¬ xi < n := fun h h2 => k2 ⟨h, h2⟩
                      repeat ((conv => whnf); first | (refine And.intro (by first | omega | exact Nat.le_of_ble_eq_true rfl | (dsimp only [inK]; omega)) ?_) | with_reducible refine ld (hld) ?_ | refine Exists.intro _ (And.intro rfl ?_) | refine br_t (by omega) ?_ | refine br_f (by omega) ?_ | refine bs_f (by omega) ?_ | refine fun (K' : K3) hK' => ?_ | (refine hK' _ _ _ ?_; clear hK' K') | refine draw_auto tok mixed (by kernel_rfl) ?_ | refine CallK.val (R := [(1, some 6)]) hh (by kernel_rfl) rfl (by simp [V.wf, A.wf, C.wf]) ⟨roE_ints (l := 0) rfl (by omega) rfl (.inl rfl), trivial⟩ rfl rfl trivial ?_ | refine br_bf rfl ?_ | refine HD_mk (fun _ h => CallK.val (R := [(1, some 6)]) hr0 (by kernel_rfl) rfl (by simp [V.wf, A.wf, C.wf]) trivial rfl rfl trivial h) ?_ | refine HD_mk (fun _ h => CallK.val (R := [(1, some 6)]) hc (by kernel_rfl) rfl (by simp [V.wf, A.wf, C.wf]) ⟨roE_ints (l := 0) rfl (by omega) rfl (.inl rfl), trivial⟩ rfl rfl trivial h) ?_ | refine HD_mk (fun _ h => CallK.val (R := [(1, some 6)]) hr1 (by kernel_rfl) rfl (by simp [V.wf, A.wf, C.wf]) trivial rfl rfl trivial h) ?_ | refine CallK.fresh (by kernel_rfl) (near_spec _ _ _ _) rfl ?_ | refine CallK.m ?_)
                      refine Tri.opq fun K' hK' => ?_
                      refine Tri.nearM (ml := 6) (R0 := []) (W := W) (H := H) (n := cs.length) (i := (i : Int)) (e := true) (fun pre => ∀ k ∈ pre, (!(hldI cs k && decide (hL hs k > xi + cstI cs k))) = true)
                        (fun pre => [⟨12, .own 3, [C.i xi]⟩, ⟨7, .own 65, [C.i W, C.i H, .sl 0 cs.length, .mp 6]⟩, ⟨5, .own 27, [C.i 0]⟩, ⟨4, .own 4, [.ff]⟩, ⟨3, .own 22, [.sl 1 hs.length]⟩, ⟨1, .ro 0, hs.map C.i⟩, ⟨0, .ro 0, cs.map C.i⟩])
                        (fun k hk => by cases hk) (by omega) (by omega) (by omega) (by exact rfl) (by exact rfl) (by exact rfl) ?_ ?_ ?_
                      · intro oo
                        refine ⟨?_, ?_, rfl, rfl, by exact Nat.le_of_ble_eq_true rfl⟩
                        · repeat (exact trivial)
                        · repeat (first | exact trivial | refine And.intro (covE_b1 (b := true) (Nat.le_of_ble_eq_true rfl) rfl rfl rfl) ?_ | (refine And.intro (covE_id (Nat.le_of_ble_eq_true rfl) (by first | exact wf_ints _ _ | simp [C.wf]) rfl (by rfl)) ?_))
                      · intro oo ob od pre post kk hsp hk0 hk1 hI cxb hcx
                        obtain ⟨k, rfl⟩ : ∃ k : Nat, kk = k := ⟨kk.toNat, by omega⟩
                        have hkl : k < cs.length := by omega
                        have hhk := holds_spec W H cs k hkl
                        have hhlk : hldI cs (k : Int) = decide (cs.getD k 0 ≠ 0) := by simp [hldI]
                        rw [← hhlk] at hhk
                        have hck2 := cost_spec W H cs k hkl
                        have hcke : cstI cs (k : Int) = if cs.getD k 0 > 0 then cs.getD k 0 else 0 := by simp [cstI]
                        have hcn2 := hcb (k : Int)
                        rw [← hcke] at hck2
                        have hldk := intL (l := hs) (k := k) (by omega)
                        have hrk := hrng k (by omega)
                        have hek : hs.getD k 0 = hL hs (k : Int) := by unfold hL; rw [Int.toNat_natCast]
                        rw [hek] at hldk hrk
                        have next : (!(hldI cs (k : Int) && decide (hL hs (k : Int) > xi + cstI cs (k : Int)))) = true → ∀ x ∈ pre ++ [(k : Int)], (!(hldI cs x && decide (hL hs x > xi + cstI cs x))) = true := fun h x hx => by
                          rcases List.mem_append.1 hx with hx | hx
                          · exact hI x hx
                          · rw [List.mem_singleton.1 hx]; exact h
                        have hbad := fun h => hno (by rw [hoi]; exact all_no (p := fun k => !(hldI cs k && decide (hL hs k > xi + cstI cs k))) hsp h)
                        obtain ⟨ck, hckk⟩ : ∃ ck, ck = cstI cs (k : Int) := ⟨_, rfl⟩
                        obtain ⟨xk, hxk⟩ : ∃ x, x = hL hs (k : Int) := ⟨_, rfl⟩
                        rw [← hckk, ← hxk] at next
                        rw [← hckk] at hck2 hcn2
                        rw [← hxk] at hldk hrk
                        refine vc_ok tok ?_
                        repeat ((conv => whnf); first | refine fun (K' : K3) hK' => ?_ | (refine hK' _ _ _ ?_; clear hK' K') | refine And.intro (Eq.refl oo) ?_)
                        refine vc_ok tok ?_
                        cases h2 : hldI cs (k : Int) with
                        | false =>
                          rw [h2] at hhk
                          repeat ((conv => whnf); first | refine Exists.intro _ (And.intro rfl ?_) | refine fun (K' : K3) hK' => ?_ | (refine hK' _ _ _ ?_; clear hK' K') | refine draw_auto tok mixed (by kernel_rfl) ?_ | refine HD_mk (fun _ h => CallK.val (R := [(1, some 6)]) hhk (by kernel_rfl) rfl (by simp [V.wf, A.wf, C.wf]) ⟨roE_ints (l := 0) rfl (by omega) rfl (.inl rfl), trivial⟩ rfl rfl trivial h) ?_ | refine And.intro (Eq.refl ob) ?_ | refine br_bf (Eq.refl false) ?_)
                          refine .inl ⟨rfl, next (by rw [h2]; rfl), [], rfl, ?_⟩
                          refine ⟨?_, ?_, rfl, rfl, by exact Nat.le_of_ble_eq_true rfl⟩
                          · repeat (exact trivial)
                          · repeat (first | exact trivial | (refine And.intro (covE_id (Nat.le_of_ble_eq_true rfl) (by first | exact wf_ints _ _ | simp [C.wf]) rfl (by rfl)) ?_))
                        | true =>
                          rw [h2] at hhk
                          by_cases h3 : xk > xi + ck
                          · have hr := hbad (by rw [h2, ← hckk, ← hxk, dd_t h3]; rfl)
                            repeat ((conv => whnf); first | (refine And.intro (by first | omega | exact Nat.le_of_ble_eq_true rfl | (dsimp only [inK]; omega)) ?_) | with_reducible refine ld (hldk) ?_ | refine Exists.intro _ (And.intro rfl ?_) | refine br_t (by omega) ?_ | refine fun (K' : K3) hK' => ?_ | (refine hK' _ _ _ ?_; clear hK' K') | refine draw_auto tok mixed (by kernel_rfl) ?_ | refine HD_mk (fun _ h => CallK.val (R := [(1, some 6)]) hhk (by kernel_rfl) rfl (by simp [V.wf, A.wf, C.wf]) ⟨roE_ints (l := 0) rfl (by omega) rfl (.inl rfl), trivial⟩ rfl rfl trivial h) ?_ | refine HD_mk (fun _ h => CallK.val (R := [(1, some 6)]) hck2 (by kernel_rfl) rfl (by simp [V.wf, A.wf, C.wf]) ⟨roE_ints (l := 0) rfl (by omega) rfl (.inl rfl), trivial⟩ rfl rfl trivial h) ?_ | refine And.intro (Eq.refl ob) ?_ | refine br_bt (Eq.refl true) ?_)
                            refine .inr ⟨rfl, .inr (.inl ?_)⟩
                            refine And.intro (Eq.refl (od Code.ret)) ?_
                            conv => whnf
                            refine hK' _ _ _ _ ?_
                            repeat ((conv => whnf); refine Exists.intro _ (And.intro rfl ?_))
                            intro ρ; rw [hr]; rfl
                          · repeat ((conv => whnf); first | (refine And.intro (by first | omega | (dsimp only [inK]; omega)) ?_) | with_reducible refine ld (hldk) ?_ | refine Exists.intro _ (And.intro rfl ?_) | refine br_f (by omega) ?_ | refine fun (K' : K3) hK' => ?_ | (refine hK' _ _ _ ?_; clear hK' K') | refine draw_auto tok mixed (by kernel_rfl) ?_ | refine HD_mk (fun _ h => CallK.val (R := [(1, some 6)]) hhk (by kernel_rfl) rfl (by simp [V.wf, A.wf, C.wf]) ⟨roE_ints (l := 0) rfl (by omega) rfl (.inl rfl), trivial⟩ rfl rfl trivial h) ?_ | refine HD_mk (fun _ h => CallK.val (R := [(1, some 6)]) hck2 (by kernel_rfl) rfl (by simp [V.wf, A.wf, C.wf]) ⟨roE_ints (l := 0) rfl (by omega) rfl (.inl rfl), trivial⟩ rfl rfl trivial h) ?_ | refine And.intro (Eq.refl ob) ?_ | refine br_bt (Eq.refl true) ?_)
                            refine .inl ⟨rfl, next (by rw [h2, dd_f h3]; rfl), [], rfl, ?_⟩
                            refine ⟨?_, ?_, rfl, rfl, by exact Nat.le_of_ble_eq_true rfl⟩
                            · repeat (exact trivial)
                            · repeat (first | exact trivial | (refine And.intro (covE_id (Nat.le_of_ble_eq_true rfl) (by first | exact wf_ints _ _ | simp [C.wf]) rfl (by rfl)) ?_))
                      · intro oo od hI
                        refine Or.inl ?_
                        refine And.intro rfl ?_
                        conv => whnf
                        refine hK' _ _ _ _ ?_
                        repeat ((conv => whnf); first | (refine And.intro (by first | omega | (dsimp only [inK]; omega)) ?_) | refine fun (K' : K3) hK' => ?_ | (refine hK' _ _ _ ?_; clear hK' K'))
                        refine ⟨i + 1, [], ⟨by omega, fin (by rw [hoi]; exact List.all_eq_true.2 hI)⟩, by omega, ?_⟩
                        refine ⟨?_, ?_, rfl, rfl, by exact Nat.le_of_ble_eq_true rfl⟩
                        · repeat (first | exact trivial | (refine And.intro (covS_syn (by rfl) rfl (by first | exact trivial | exact Nat.le_of_ble_eq_true rfl)) ?_))
                        · repeat (first | exact trivial | (refine And.intro (covE_id (Nat.le_of_ble_eq_true rfl) (by first | exact wf_ints _ _ | simp [C.wf]) rfl (by rfl)) ?_))
            · have hin : i = cs.length := by omega
              subst hin
              have hr : provP W H cs hs n = true := by
                unfold provP; rw [List.all_eq_true]
                exact fun j hj => hall j (List.mem_range.1 hj)
              repeat ((conv => whnf); first | (refine And.intro (by first | omega | exact Nat.le_of_ble_eq_true rfl) ?_) | refine Exists.intro _ (And.intro rfl ?_) | refine br_f (by omega) ?_ | refine fun (K' : K3) hK' => ?_ | (refine hK' _ _ _ ?_; clear hK' K'))
              intro ρ; rw [hr]; rfl
      · have r1 : prvB W H cs hs n = false := by unfold prvB; rw [hv, dd_f g2]; simp
        have r2 : prvE W H cs hs n = 2 := by unfold prvE; rw [hv, dd_f g2]; simp
        rw [r1, r2]
        repeat ((conv => whnf); first | (refine And.intro (by first | omega | exact Nat.le_of_ble_eq_true rfl) ?_) | refine Exists.intro _ (And.intro rfl ?_) | refine br_f (by omega) ?_ | refine bs_f (by omega) ?_ | refine fun (K' : K3) hK' => ?_ | (refine hK' _ _ _ ?_; clear hK' K') | refine CallK.newOk (a := 0) (bs := []) (R := [(1, none)]) hl (by simp) hv (okB_nil _ _ _) rfl rfl (by omega) (roNil rfl) ?_ | refine CallK.val (R := []) hbt (by kernel_rfl) rfl (by simp [V.wf, A.wf, C.wf]) trivial rfl rfl trivial ?_ | refine bs_bt (nd_t g2) ?_ | refine CallK.m ?_)
        intro ρ; rfl
    · have g1' : ¬ hs.length = cs.length := by omega
      have r1 : prvB W H cs hs n = false := by unfold prvB; rw [hv, dd_f g1']; simp
      have r2 : prvE W H cs hs n = 2 := by unfold prvE; rw [hv, dd_f g1']; simp
      rw [r1, r2]
      repeat ((conv => whnf); first | (refine And.intro (by first | omega | exact Nat.le_of_ble_eq_true rfl) ?_) | refine Exists.intro _ (And.intro rfl ?_) | refine br_f (by omega) ?_ | refine bs_t (by omega) ?_ | refine fun (K' : K3) hK' => ?_ | (refine hK' _ _ _ ?_; clear hK' K') | refine CallK.newOk (a := 0) (bs := []) (R := [(1, none)]) hl (by simp) hv (okB_nil _ _ _) rfl rfl (by omega) (roNil rfl) ?_ | refine CallK.m ?_)
      intro ρ; rfl
end Go.Proofs.Ytbhpnhcdjmcaoaa

/- Boom, the reference: what heights prove. -/
namespace Go.Proofs.Ytbhpnhcdjmcaoaa
open Go.RowKit
set_option linter.unusedVariables false
set_option linter.unusedSimpArgs false
theorem any_no {l : List Int} (h : ∀ j, j < l.length → 0 ≤ l.getD j 0 ∧ l.getD j 0 ≤ 1000000) : l.any hBad = false := by
  rw [List.any_eq_false]
  intro x hx
  obtain ⟨j, hj, rfl⟩ := List.mem_iff_getElem.1 hx
  have := h j hj
  rw [List.getD_eq_getElem?_getD, List.getElem?_eq_getElem hj] at this
  have h2 : 0 ≤ l[j] ∧ l[j] ≤ 1000000 := this
  simp [hBad, h2]
theorem any_yes {l : List Int} {j : Nat} (hj : j < l.length) (h : ¬ (0 ≤ l.getD j 0 ∧ l.getD j 0 ≤ 1000000)) : l.any hBad = true := by
  rw [List.any_eq_true]
  exact ⟨l.getD j 0, getD_mem hj, by unfold hBad; rw [dd_f h]; rfl⟩
set_option maxRecDepth 10000 in
set_option maxHeartbeats 8000000 in
theorem rproves_spec (W H : Int) (cs hs : List Int) (n : Int) (hl : cs.length ≤ 300) (hl2 : hs.length ≤ 300) (hn : -9223372036854775808 ≤ n ∧ n ≤ 9223372036854775807) :
    Spec Try.prog 34 [chR W H cs.length, V.c (.sl 1 hs.length), V.i n] [⟨0, .ro 0, cs.map C.i⟩, ⟨1, .ro 0, hs.map C.i⟩] 2 (Is (V.tup [A.c (.bool (prvB W H cs hs n)), A.c (C.i (prvE W H cs hs n))])) := by
  have hlm : (cs.map C.i).length = cs.length := by simp
  have hlh : (hs.map C.i).length = hs.length := by simp
  have hva := rvalid_spec W H cs hl
  refine Spec.of tok Try.func34 rfl rfl rfl fun n0 cx => vc_ok tok ?_
  cases hv : okC W H cs with
  | false =>
    have r1 : prvB W H cs hs n = false := by unfold prvB; rw [hv]; rfl
    have r2 : prvE W H cs hs n = 30 := by unfold prvE; rw [hv]; rfl
    rw [r1, r2]
    repeat ((conv => whnf); first | refine Exists.intro _ (And.intro rfl ?_) | refine fun (K' : K3) hK' => ?_ | (refine hK' _ _ _ ?_; clear hK' K') | refine CallK.val (R := []) hva (by kernel_rfl) rfl (by simp [V.wf, A.wf, C.wf]) ⟨roE_ints (l := 0) rfl (by omega) rfl (.inl rfl), trivial⟩ rfl rfl trivial ?_ | refine br_bt (congrArg Bool.not hv) ?_ | refine CallK.m ?_)
    intro ρ; rfl
  | true =>
    have hok := okC_iff.1 hv
    have hW := hok.w
    have hH := hok.h
    have hcn := hok.len
    have hn100 : (cs.length : Int) ≤ 100 := by have := Int.mul_le_mul hW.2 hH.2 (by omega) (by omega : (0:Int) ≤ 10); omega
    have hcb := cst_bd hok.cost
    have bad : ¬ (hs.length = cs.length ∧ (0 ≤ n ∧ n ≤ 1000000) ∧ hs.any hBad = false) → prvB W H cs hs n = false ∧ prvE W H cs hs n = 2 := fun h => by
      have hb : (decide (hs.length = cs.length) && (decide (0 ≤ n ∧ n ≤ 1000000) && !hs.any hBad)) = false := by
        cases hh : (decide (hs.length = cs.length) && (decide (0 ≤ n ∧ n ≤ 1000000) && !hs.any hBad)) with
        | false => rfl
        | true =>
          rw [Bool.and_eq_true, Bool.and_eq_true, decide_eq_true_eq, decide_eq_true_eq, Bool.not_eq_true'] at hh
          exact absurd hh h
      unfold prvB prvE
      rw [hv, hb]; exact ⟨rfl, rfl⟩
    by_cases g1 : (hs.length : Int) = cs.length
    · by_cases g2 : n < 0
      · obtain ⟨r1, r2⟩ := bad (fun h => by omega)
        rw [r1, r2]
        repeat ((conv => whnf); first | (refine And.intro (by first | omega | exact Nat.le_of_ble_eq_true rfl) ?_) | refine Exists.intro _ (And.intro rfl ?_) | refine bs_t (by omega) ?_ | refine bs_f (by omega) ?_ | refine fun (K' : K3) hK' => ?_ | (refine hK' _ _ _ ?_; clear hK' K') | refine CallK.val (R := []) hva (by kernel_rfl) rfl (by simp [V.wf, A.wf, C.wf]) ⟨roE_ints (l := 0) rfl (by omega) rfl (.inl rfl), trivial⟩ rfl rfl trivial ?_ | refine br_bf (congrArg Bool.not hv) ?_ | refine CallK.m ?_)
        intro ρ; rfl
      · by_cases g3 : n > 1000000
        · obtain ⟨r1, r2⟩ := bad (fun h => by omega)
          rw [r1, r2]
          repeat ((conv => whnf); first | (refine And.intro (by first | omega | exact Nat.le_of_ble_eq_true rfl) ?_) | refine Exists.intro _ (And.intro rfl ?_) | refine br_t (by omega) ?_ | refine bs_f (by omega) ?_ | refine fun (K' : K3) hK' => ?_ | (refine hK' _ _ _ ?_; clear hK' K') | refine CallK.val (R := []) hva (by kernel_rfl) rfl (by simp [V.wf, A.wf, C.wf]) ⟨roE_ints (l := 0) rfl (by omega) rfl (.inl rfl), trivial⟩ rfl rfl trivial ?_ | refine br_bf (congrArg Bool.not hv) ?_ | refine CallK.m ?_)
          intro ρ; rfl
        · repeat ((conv => whnf); first | (refine And.intro (by first | omega | exact Nat.le_of_ble_eq_true rfl) ?_) | refine Exists.intro _ (And.intro rfl ?_) | refine br_f (by omega) ?_ | refine bs_f (by omega) ?_ | refine fun (K' : K3) hK' => ?_ | (refine hK' _ _ _ ?_; clear hK' K') | refine CallK.val (R := []) hva (by kernel_rfl) rfl (by simp [V.wf, A.wf, C.wf]) ⟨roE_ints (l := 0) rfl (by omega) rfl (.inl rfl), trivial⟩ rfl rfl trivial ?_ | refine br_bf (congrArg Bool.not hv) ?_ | refine CallK.m ?_)
          refine Tri.loop (γ := Nat) (fun j => j ≤ hs.length ∧ ∀ i, i < j → 0 ≤ hs.getD i 0 ∧ hs.getD i 0 ≤ 1000000) (fun j => [(1, V.c (.sl 1 hs.length)), (2, V.i n), (3, V.c (.ptr 2 0)), (31, V.c (.sl 1 hs.length)), (32, V.i hs.length), (33, V.i (j : Nat))])
            (fun j => [⟨2, .own 24, [C.i W, C.i H, .sl 0 cs.length]⟩, ⟨1, .ro 0, hs.map C.i⟩, ⟨0, .ro 0, cs.map C.i⟩]) 3 (fun j => hs.length - j) 0 (R0 := []) ?_ ?_ ?_
          · exact ⟨by omega, fun i hi => by omega⟩
          · skip
            refine ⟨?_, ?_, rfl, rfl, by exact Nat.le_of_ble_eq_true rfl⟩
            · repeat (first | exact trivial | (refine And.intro (covS_syn (by rfl) rfl (by first | exact trivial | exact Nat.le_of_ble_eq_true rfl)) ?_))
            · repeat (first | exact trivial | (refine And.intro (covE_id (Nat.le_of_ble_eq_true rfl) (by first | exact wf_ints _ _ | simp [C.wf]) rfl (by rfl)) ?_))
          · rintro j ⟨hj, hrng⟩
            refine vc_ok tok ?_
            by_cases hjl : j < hs.length
            · have hld := intL hjl
              have hy := any_yes hjl
              obtain ⟨x, hx⟩ : ∃ x, x = hs.getD j 0 := ⟨_, rfl⟩
              rw [← hx] at hld hy
              by_cases k1 : x < 0
              · obtain ⟨r1, r2⟩ := bad (fun h => by rw [hy (by omega)] at h; cases h.2.2)
                rw [r1, r2]
                repeat ((conv => whnf); first | (refine And.intro (by first | omega | (dsimp only [inK]; omega)) ?_) | with_reducible refine ld (hld) ?_ | refine br_t (by omega) ?_ | refine bs_t (by omega) ?_ | refine fun (K' : K3) hK' => ?_ | (refine hK' _ _ _ ?_; clear hK' K'))
                intro ρ; rfl
              · by_cases k2 : x > 1000000
                · obtain ⟨r1, r2⟩ := bad (fun h => by rw [hy (by omega)] at h; cases h.2.2)
                  rw [r1, r2]
                  repeat ((conv => whnf); first | (refine And.intro (by first | omega | (dsimp only [inK]; omega)) ?_) | with_reducible refine ld (hld) ?_ | refine br_t (by omega) ?_ | refine bs_f (by omega) ?_ | refine fun (K' : K3) hK' => ?_ | (refine hK' _ _ _ ?_; clear hK' K'))
                  intro ρ; rfl
                · repeat ((conv => whnf); first | (refine And.intro (by first | omega | (dsimp only [inK]; omega)) ?_) | with_reducible refine ld (hld) ?_ | refine br_t (by omega) ?_ | refine br_f (by omega) ?_ | refine bs_f (by omega) ?_ | refine fun (K' : K3) hK' => ?_ | (refine hK' _ _ _ ?_; clear hK' K'))
                  refine ⟨j + 1, [], ⟨by omega, fun i hi => ?_⟩, by omega, ?_⟩
                  · by_cases hij : i = j
                    · rw [hij, ← hx]; omega
                    · exact hrng i (by omega)
                  · skip
                    refine ⟨?_, ?_, rfl, rfl, by exact Nat.le_of_ble_eq_true rfl⟩
                    · repeat (first | exact trivial | (refine And.intro (covS_syn (by rfl) rfl (by first | exact trivial | exact Nat.le_of_ble_eq_true rfl)) ?_))
                    · repeat (first | exact trivial | (refine And.intro (covE_id (Nat.le_of_ble_eq_true rfl) (by first | exact wf_ints _ _ | simp [C.wf]) rfl (by rfl)) ?_))
            · have hje : j = hs.length := by omega
              subst hje
              have g4 := any_no hrng
              have g1' : hs.length = cs.length := by omega
              have r1 : prvB W H cs hs n = provR W H cs hs n := by unfold prvB; rw [hv, g4, dd_t g1', dd_t (show 0 ≤ n ∧ n ≤ 1000000 by omega), prov_eq hok]; simp
              have r2 : prvE W H cs hs n = 0 := by unfold prvE; rw [hv, g4, dd_t g1', dd_t (show 0 ≤ n ∧ n ≤ 1000000 by omega)]; rfl
              rw [r1, r2]
              repeat ((conv => whnf); first | (refine And.intro (by first | omega | exact Nat.le_of_ble_eq_true rfl) ?_) | refine Exists.intro _ (And.intro rfl ?_) | refine br_f (by omega) ?_ | refine fun (K' : K3) hK' => ?_ | (refine hK' _ _ _ ?_; clear hK' K'))
              refine Tri.loop (γ := Nat) (fun i => i ≤ cs.length ∧ ∀ j : Nat, j < i → okRi W H cs hs n j = true) (fun i => [(1, V.c (.sl 1 hs.length)), (2, V.i n), (3, V.c (.ptr 2 0)), (45, V.c (.sl 0 cs.length)), (46, V.i cs.length), (47, V.i (i : Nat))])
                (fun i => [⟨2, .own 24, [C.i W, C.i H, .sl 0 cs.length]⟩, ⟨1, .ro 0, hs.map C.i⟩, ⟨0, .ro 0, cs.map C.i⟩]) 3 (fun i => cs.length - i) 0 (R0 := []) ?_ ?_ ?_
              · exact ⟨by omega, fun j hj => by omega⟩
              · skip
                refine ⟨?_, ?_, rfl, rfl, by exact Nat.le_of_ble_eq_true rfl⟩
                · repeat (first | exact trivial | (refine And.intro (covS_syn (by rfl) rfl (by first | exact trivial | exact Nat.le_of_ble_eq_true rfl)) ?_))
                · repeat (first | exact trivial | (refine And.intro (covE_id (Nat.le_of_ble_eq_true rfl) (by first | exact wf_ints _ _ | simp [C.wf]) rfl (by rfl)) ?_))
              · rintro i ⟨hi, hall⟩
                refine vc_ok tok ?_
                by_cases hlt : i < cs.length
                · have hld := intL (l := hs) (k := i) (by omega)
                  have hldc := intL hlt
                  have hri := hrng i (by omega)
                  have hhl : hldI cs (i : Int) = decide (cs.getD i 0 ≠ 0) := by simp [hldI]
                  have hrc := rcost_spec W H cs i hlt
                  have hci := hcb (i : Int)
                  have hno := fun h => provR_no (W := W) (H := H) (hs := hs) (n := n) hlt h
                  have hoi : okRi W H cs hs n (i : Int) = (!hldI cs (i : Int) || (!((decide ((i : Int) / W = 0) && decide (hL hs (i : Int) > cstI cs (i : Int))) || (decide ((i : Int) / W = H - 1) && decide (hL hs (i : Int) < n))) && (nearL W H true (i : Int)).all fun k => !(hldI cs k && decide (hL hs (i : Int) > hL hs k + cstI cs (i : Int))))) := rfl
                  have hei : hs.getD i 0 = hL hs (i : Int) := by unfold hL; rw [Int.toNat_natCast]
                  rw [hei] at hld hri
                  have hb0 := row_iff (W := W) (H := 1) (i := (i : Int)) (by omega)
                  have hbH := row_iff (W := W) (H := H) (i := (i : Int)) (by omega)
                  have hHW : (H - 1) * W = cs.length - W := by rw [Int.sub_mul, Int.mul_comm H W]; omega
                  have hrow0 : (i : Int) / W = 0 ↔ (i : Int) < W := by rw [show (0 : Int) = 1 - 1 by omega, hb0]; simp; 
                  have hrowH : (i : Int) / W = H - 1 ↔ (i : Int) ≥ (cs.length : Int) - W := by rw [hbH, hHW]; omega
                  rw [decide_eq_decide.2 hrow0, decide_eq_decide.2 hrowH] at hoi
                  obtain ⟨xi, hxi⟩ : ∃ x, x = hL hs (i : Int) := ⟨_, rfl⟩
                  rw [← hxi] at hld hri hoi
                  obtain ⟨ci, hcie⟩ : ∃ x, x = cstI cs (i : Int) := ⟨_, rfl⟩
                  rw [← hcie] at hrc hci hoi
                  obtain ⟨ai, haie⟩ : ∃ x, x = cs.getD i 0 := ⟨_, rfl⟩
                  rw [← haie] at hldc hhl
                  have fin : okRi W H cs hs n (i : Int) = true → ∀ j : Nat, j < i + 1 → okRi W H cs hs n j = true := fun h j hj => by
                    by_cases hji : j = i
                    · rw [hji]; exact h
                    · exact hall j (by omega)
                  by_cases h1 : ai = 0
                  · repeat ((conv => whnf); first | (refine And.intro (by first | omega | (dsimp only [inK]; omega)) ?_) | with_reducible refine ld (hldc) ?_ | refine br_t (by omega) ?_ | refine fun (K' : K3) hK' => ?_ | (refine hK' _ _ _ ?_; clear hK' K'))
                    refine ⟨i + 1, [], ⟨by omega, fin (by rw [hoi, hhl, dd_f (fun h => h h1)]; rfl)⟩, by omega, ?_⟩
                    refine ⟨?_, ?_, rfl, rfl, by exact Nat.le_of_ble_eq_true rfl⟩
                    · repeat (first | exact trivial | (refine And.intro (covS_syn (by rfl) rfl (by first | exact trivial | exact Nat.le_of_ble_eq_true rfl)) ?_))
                    · repeat (first | exact trivial | (refine And.intro (covE_id (Nat.le_of_ble_eq_true rfl) (by first | exact wf_ints _ _ | simp [C.wf]) rfl (by rfl)) ?_))
                  · rw [hhl, dd_t h1, Bool.not_true, Bool.false_or] at hoi
                    by_cases k1 : (i : Int) < W ∧ xi > ci
                    · have hr := hno (by rw [hoi, dd_t k1.1, dd_t k1.2]; rfl)
                      repeat ((conv => whnf); first | (refine And.intro (by first | omega | exact Nat.le_of_ble_eq_true rfl | (dsimp only [inK]; omega)) ?_) | with_reducible refine ld (hldc) ?_ | with_reducible refine ld (hld) ?_ | refine Exists.intro _ (And.intro rfl ?_) | refine br_t (by omega) ?_ | refine br_f (by omega) ?_ | refine bs_t (by omega) ?_ | refine fun (K' : K3) hK' => ?_ | (refine hK' _ _ _ ?_; clear hK' K') | refine draw_auto tok mixed (by kernel_rfl) ?_ | refine HD_mk (fun _ h => CallK.val (R := []) hrc (by kernel_rfl) rfl (by simp [V.wf, A.wf, C.wf]) ⟨roE_ints (l := 0) rfl (by omega) rfl (.inl rfl), trivial⟩ rfl rfl trivial h) ?_)
                      intro ρ; rw [hr]; rfl
                    · by_cases k2 : (i : Int) ≥ (cs.length : Int) - W ∧ xi < n
                      · have hr := hno (by rw [hoi, dd_t k2.1, dd_t k2.2]; simp)
                        by_cases k3 : (i : Int) < W
                        · have k4 : ¬ xi > ci := fun h => k1 ⟨k3, h⟩
                          repeat ((conv => whnf); first | (refine And.intro (by first | omega | exact Nat.le_of_ble_eq_true rfl | (dsimp only [inK]; omega)) ?_) | with_reducible refine ld (hldc) ?_ | with_reducible refine ld (hld) ?_ | refine Exists.intro _ (And.intro rfl ?_) | refine br_t (by omega) ?_ | refine br_f (by omega) ?_ | refine bs_f (by omega) ?_ | refine fun (K' : K3) hK' => ?_ | (refine hK' _ _ _ ?_; clear hK' K') | refine draw_auto tok mixed (by kernel_rfl) ?_ | refine HD_mk (fun _ h => CallK.val (R := []) hrc (by kernel_rfl) rfl (by simp [V.wf, A.wf, C.wf]) ⟨roE_ints (l := 0) rfl (by omega) rfl (.inl rfl), trivial⟩ rfl rfl trivial h) ?_)
                          intro ρ; rw [hr]; rfl
                        · repeat ((conv => whnf); first | (refine And.intro (by first | omega | exact Nat.le_of_ble_eq_true rfl | (dsimp only [inK]; omega)) ?_) | with_reducible refine ld (hldc) ?_ | with_reducible refine ld (hld) ?_ | refine Exists.intro _ (And.intro rfl ?_) | refine br_t (by omega) ?_ | refine br_f (by omega) ?_ | refine fun (K' : K3) hK' => ?_ | (refine hK' _ _ _ ?_; clear hK' K') | refine draw_auto tok mixed (by kernel_rfl) ?_)
                          intro ρ; rw [hr]; rfl
                      · have hrows : ((decide ((i : Int) < W) && decide (xi > ci)) || (decide ((i : Int) ≥ (cs.length : Int) - W) && decide (xi < n))) = false := by
                          rw [Bool.or_eq_false_iff, Bool.and_eq_false_iff, Bool.and_eq_false_iff, decide_eq_false_iff_not, decide_eq_false_iff_not, decide_eq_false_iff_not, decide_eq_false_iff_not]
                          exact ⟨Classical.not_and_iff_not_or_not.1 k1, Classical.not_and_iff_not_or_not.1 k2⟩
                        rw [hrows, Bool.not_false, Bool.true_and] at hoi
                        clear hrows
                        have hbe := beside_spec W H cs.length (i : Int) true (by omega) (by omega) (by omega)
                        have hne := fun x (hx : x ∈ nearL W H true (i : Int)) => near_in (W := W) (by omega) hx
                        have hlen := near_len W H true (i : Int)
                        obtain ⟨nl, hnl⟩ : ∃ nl, nl = nearL W H true (i : Int) := ⟨_, rfl⟩
                        rw [← hnl] at hbe hne hlen hoi
                        have k4 : (i : Int) < W → ¬ xi > ci := fun h h2 => k1 ⟨h, h2⟩
                        have k6 : (i : Int) ≥ (cs.length : Int) - W → ¬ xi < n := fun h h2 => k2 ⟨h, h2⟩
                        clear hrow0 hrowH hb0 hbH
                        by_cases k3 : (i : Int) < W <;> by_cases k5 : (i : Int) ≥ (cs.length : Int) - W
                        all_goals
                          repeat ((conv => whnf); first | (refine And.intro (by first | omega | exact Nat.le_of_ble_eq_true rfl | (dsimp only [inK]; omega)) ?_) | with_reducible refine ld (hldc) ?_ | with_reducible refine ld (hld) ?_ | refine Exists.intro _ (And.intro rfl ?_) | refine br_t (by omega) ?_ | refine br_f (by omega) ?_ | refine bs_f (by omega) ?_ | refine fun (K' : K3) hK' => ?_ | (refine hK' _ _ _ ?_; clear hK' K') | refine draw_auto tok mixed (by kernel_rfl) ?_ | refine HD_mk (fun _ h => CallK.val (R := []) hrc (by kernel_rfl) rfl (by simp [V.wf, A.wf, C.wf]) ⟨roE_ints (l := 0) rfl (by omega) rfl (.inl rfl), trivial⟩ rfl rfl trivial h) ?_ | refine CallK.den (vs := [V.agg [C.i W, C.i H, C.sl 0 cs.length], V.i (i : Int), V.c (.bool true)]) (fun ρ => rfl) (by simp [V.wf, A.wf, C.wf]) (CallK.intsR (R := []) hbe (by kernel_rfl) rfl (by simp [V.wf, A.wf, C.wf]) trivial rfl ?_) | refine CallK.m ?_)
                          clear k1 k2 k4 k6
                          refine Tri.loop (γ := Nat) (fun m => m ≤ nl.length ∧ ∀ j, j < m → (!(hldI cs (nl.getD j 0) && decide (xi > hL hs (nl.getD j 0) + ci))) = true) (fun m => [(1, V.c (.sl 1 hs.length)), (2, V.i n), (3, V.c (.ptr 2 0)), (10, V.i (i : Int)), (45, V.c (.sl 0 cs.length)), (46, V.i cs.length), (47, V.i (i : Nat)), (88, V.c (.sl 3 nl.length)), (89, V.i nl.length), (90, V.i (m : Nat))])
                            (fun m => [⟨3, .vec 3 1, nl.map C.i⟩, ⟨2, .own 24, [C.i W, C.i H, .sl 0 cs.length]⟩, ⟨1, .ro 0, hs.map C.i⟩, ⟨0, .ro 0, cs.map C.i⟩]) 4 (fun m => nl.length - m) 0 (R0 := []) ?_ ?_ ?_
                          · exact ⟨by omega, fun j hj => by omega⟩
                          · skip
                            refine ⟨?_, ?_, rfl, rfl, by exact Nat.le_of_ble_eq_true rfl⟩
                            · repeat (first | exact trivial | (refine And.intro (covS_syn (by rfl) rfl (by first | exact trivial | exact Nat.le_of_ble_eq_true rfl)) ?_))
                            · repeat (first | exact trivial | (refine And.intro (covE_id (Nat.le_of_ble_eq_true rfl) (by first | exact wf_ints _ _ | simp [C.wf]) rfl (by rfl)) ?_))
                          · rintro m ⟨hm, hI⟩
                            refine vc_ok tok ?_
                            by_cases hml : m < nl.length
                            · have hldm := intL hml
                              have hkk := hne _ (getD_mem hml)
                              have hnext : (!(hldI cs (nl.getD m 0) && decide (xi > hL hs (nl.getD m 0) + ci))) = true → ∀ j, j < m + 1 → (!(hldI cs (nl.getD j 0) && decide (xi > hL hs (nl.getD j 0) + ci))) = true := fun h j hj => by
                                by_cases hjm : j = m
                                · rw [hjm]; exact h
                                · exact hI j (by omega)
                              have hbad : (!(hldI cs (nl.getD m 0) && decide (xi > hL hs (nl.getD m 0) + ci))) = false → provR W H cs hs n = false := fun h => hno (by
                                rw [hoi, List.all_eq_false]
                                exact ⟨nl.getD m 0, getD_mem hml, by rw [h]; simp⟩)
                              obtain ⟨k, hke⟩ : ∃ k : Nat, (k : Int) = nl.getD m 0 := ⟨(nl.getD m 0).toNat, by omega⟩
                              rw [← hke] at hldm hkk hnext hbad
                              have hkl : k < cs.length := by omega
                              have hldk := intL hkl
                              have hhk : hldI cs (k : Int) = decide (cs.getD k 0 ≠ 0) := by simp [hldI]
                              have hldx := intL (l := hs) (k := k) (by omega)
                              have hrk := hrng k (by omega)
                              have hek : hs.getD k 0 = hL hs (k : Int) := by unfold hL; rw [Int.toNat_natCast]
                              rw [hek] at hldx hrk
                              obtain ⟨ak, hak⟩ : ∃ x, x = cs.getD k 0 := ⟨_, rfl⟩
                              rw [← hak] at hldk hhk
                              obtain ⟨xk, hxk⟩ : ∃ x, x = hL hs (k : Int) := ⟨_, rfl⟩
                              rw [← hxk, hhk] at hnext hbad
                              rw [← hxk] at hldx hrk
                              by_cases h2 : ak ≠ 0
                              · by_cases h3 : xi > xk + ci
                                · have hr := hbad (by rw [dd_t h2, dd_t h3]; rfl)
                                  repeat ((conv => whnf); first | (refine And.intro (by first | omega | exact Nat.le_of_ble_eq_true rfl | (dsimp only [inK]; omega) | (simp only [setL_length, List.length_map]; omega)) ?_) | with_reducible refine ld (hldm) ?_ | with_reducible refine ld (hldk) ?_ | with_reducible refine ld (hld) ?_ | with_reducible refine ld (hldx) ?_ | refine Exists.intro _ (And.intro rfl ?_) | refine br_t (by omega) ?_ | refine fun (K' : K3) hK' => ?_ | (refine hK' _ _ _ ?_; clear hK' K') | refine draw_auto tok mixed (by kernel_rfl) ?_ | refine HD_mk (fun _ h => CallK.val (R := []) hrc (by kernel_rfl) rfl (by simp [V.wf, A.wf, C.wf]) ⟨roE_ints (l := 0) rfl (by omega) rfl (.inl rfl), trivial⟩ rfl rfl trivial h) ?_)
                                  intro ρ; rw [hr]; rfl
                                · repeat ((conv => whnf); first | (refine And.intro (by first | omega | exact Nat.le_of_ble_eq_true rfl | (dsimp only [inK]; omega) | (simp only [setL_length, List.length_map]; omega)) ?_) | with_reducible refine ld (hldm) ?_ | with_reducible refine ld (hldk) ?_ | with_reducible refine ld (hld) ?_ | with_reducible refine ld (hldx) ?_ | refine Exists.intro _ (And.intro rfl ?_) | refine br_t (by omega) ?_ | refine br_f (by omega) ?_ | refine fun (K' : K3) hK' => ?_ | (refine hK' _ _ _ ?_; clear hK' K') | refine draw_auto tok mixed (by kernel_rfl) ?_ | refine HD_mk (fun _ h => CallK.val (R := []) hrc (by kernel_rfl) rfl (by simp [V.wf, A.wf, C.wf]) ⟨roE_ints (l := 0) rfl (by omega) rfl (.inl rfl), trivial⟩ rfl rfl trivial h) ?_)
                                  refine ⟨m + 1, [], ⟨by omega, hnext (by rw [dd_f h3]; simp)⟩, by omega, ?_⟩
                                  refine ⟨?_, ?_, rfl, rfl, by exact Nat.le_of_ble_eq_true rfl⟩
                                  · repeat (first | exact trivial | (refine And.intro (covS_syn (by rfl) rfl (by first | exact trivial | exact Nat.le_of_ble_eq_true rfl)) ?_))
                                  · repeat (first | exact trivial | (refine And.intro (covE_id (Nat.le_of_ble_eq_true rfl) (by first | exact wf_ints _ _ | simp [C.wf]) rfl (by rfl)) ?_))
                              · repeat ((conv => whnf); first | (refine And.intro (by first | omega | exact Nat.le_of_ble_eq_true rfl | (dsimp only [inK]; omega) | (simp only [setL_length, List.length_map]; omega)) ?_) | with_reducible refine ld (hldm) ?_ | with_reducible refine ld (hldk) ?_ | refine Exists.intro _ (And.intro rfl ?_) | refine br_t (by omega) ?_ | refine br_f (by omega) ?_ | refine fun (K' : K3) hK' => ?_ | (refine hK' _ _ _ ?_; clear hK' K') | refine draw_auto tok mixed (by kernel_rfl) ?_)
                                refine ⟨m + 1, [], ⟨by omega, hnext (by rw [dd_f h2]; rfl)⟩, by omega, ?_⟩
                                refine ⟨?_, ?_, rfl, rfl, by exact Nat.le_of_ble_eq_true rfl⟩
                                · repeat (first | exact trivial | (refine And.intro (covS_syn (by rfl) rfl (by first | exact trivial | exact Nat.le_of_ble_eq_true rfl)) ?_))
                                · repeat (first | exact trivial | (refine And.intro (covE_id (Nat.le_of_ble_eq_true rfl) (by first | exact wf_ints _ _ | simp [C.wf]) rfl (by rfl)) ?_))
                            · have hme : m = nl.length := by omega
                              subst hme
                              repeat ((conv => whnf); first | (refine And.intro (by first | omega | (dsimp only [inK]; omega)) ?_) | refine br_f (by omega) ?_ | refine fun (K' : K3) hK' => ?_ | (refine hK' _ _ _ ?_; clear hK' K'))
                              refine ⟨i + 1, [], ⟨by omega, fin (by
                                rw [hoi, List.all_eq_true]
                                intro x hx
                                obtain ⟨j, hj, rfl⟩ := List.mem_iff_getElem.1 hx
                                have := hI j hj
                                rwa [List.getD_eq_getElem?_getD, List.getElem?_eq_getElem hj] at this)⟩, by omega, ?_⟩
                              refine ⟨?_, ?_, rfl, rfl, by exact Nat.le_of_ble_eq_true rfl⟩
                              · repeat (first | exact trivial | (refine And.intro (covS_syn (by rfl) rfl (by first | exact trivial | exact Nat.le_of_ble_eq_true rfl)) ?_))
                              · repeat (first | exact trivial | (refine And.intro (covE_id (Nat.le_of_ble_eq_true rfl) (by first | exact wf_ints _ _ | simp [C.wf]) rfl (by rfl)) ?_))
                · have hin : i = cs.length := by omega
                  subst hin
                  have hr : provR W H cs hs n = true := by
                    unfold provR; rw [List.all_eq_true]
                    exact fun j hj => hall j (List.mem_range.1 hj)
                  repeat ((conv => whnf); first | refine br_f (by omega) ?_ | refine fun (K' : K3) hK' => ?_ | (refine hK' _ _ _ ?_; clear hK' K'))
                  intro ρ; rw [hr]; rfl
    · obtain ⟨r1, r2⟩ := bad (fun h => by omega)
      rw [r1, r2]
      repeat ((conv => whnf); first | (refine And.intro (by first | omega | exact Nat.le_of_ble_eq_true rfl) ?_) | refine Exists.intro _ (And.intro rfl ?_) | refine bs_t (by omega) ?_ | refine fun (K' : K3) hK' => ?_ | (refine hK' _ _ _ ?_; clear hK' K') | refine CallK.val (R := []) hva (by kernel_rfl) rfl (by simp [V.wf, A.wf, C.wf]) ⟨roE_ints (l := 0) rfl (by omega) rfl (.inl rfl), trivial⟩ rfl rfl trivial ?_ | refine br_bf (congrArg Bool.not hv) ?_ | refine CallK.m ?_)
      intro ρ; rfl
end Go.Proofs.Ytbhpnhcdjmcaoaa

/- Boom, plain: no barrier is cheaper than the one found. -/
namespace Go.Proofs.Ytbhpnhcdjmcaoaa
open Go.RowKit
set_option linter.unusedVariables false
set_option linter.unusedSimpArgs false
/-- A way of cells down to the last row, over land and booms. -/
def looseL (W H : Int) (cs : List Int) : List Cell → Prop
  | [] => False
  | [p] => onB W H p.1 p.2 = true ∧ ¬ cs.getD (idxU W p).toNat 0 = 0 ∧ p.2 = H - 1
  | p :: q :: r => onB W H p.1 p.2 = true ∧ ¬ cs.getD (idxU W p).toNat 0 = 0 ∧ adj true q p ∧ looseL W H cs (q :: r)
section
variable {W H : Int} {cs : List Int}
theorem looseL_head {p : Cell} {r : List Cell} (h : looseL W H cs (p :: r)) : onB W H p.1 p.2 = true ∧ ¬ cs.getD (idxU W p).toNat 0 = 0 := by
  match r, h with
  | [], h => exact ⟨h.1, h.2.1⟩
  | q :: r, h => exact ⟨h.1, h.2.1⟩
theorem idxU_in (hok : CO W H cs) {p : Cell} (h : onB W H p.1 p.2 = true) : 0 ≤ idxU W p ∧ idxU W p < cs.length ∧ idxU W p / W = p.2 ∧ idxU W p % W = p.1 := by
  have ho := onB_t h
  obtain ⟨e, e1, e2⟩ := idxC_mod h
  have hl := hok.len
  rw [e] at e1 e2
  have h1 : 0 ≤ p.2 * W := Int.mul_nonneg ho.2.1 (by omega)
  have h2 : (p.2 + 1) * W ≤ H * W := Int.mul_le_mul_of_nonneg_right (by omega) (by omega)
  rw [Int.add_mul, Int.mul_comm H W] at h2
  refine ⟨?_, ?_, e2, e1⟩ <;> unfold idxU <;> omega
theorem loose_walk (hok : CO W H cs) : ∀ {l : List Cell}, looseL W H cs l → isWalk (iniB W H cs) (nbR W H cs) (l.map (idxU W))
  | [p], h => by
    have hi := idxU_in hok h.1
    show iniB W H cs (idxU W p) = true
    unfold iniB inR hldI
    rw [dd_t ⟨hi.1, hi.2.1⟩, dd_t h.2.1, dd_t (by rw [hi.2.2.1]; exact h.2.2)]; rfl
  | p :: q :: r, h => by
    have hi := idxU_in hok h.1
    refine ⟨nbR_mk (by unfold inR; rw [dd_t ⟨hi.1, hi.2.1⟩]) (by unfold hldI; rw [dd_t h.2.1]) ?_, loose_walk hok h.2.2.2⟩
    have hq := (looseL_head h.2.2.2).1
    have := (near_iff hq h.1).2 h.2.2.1
    rw [(idxC_mod hq).1, (idxC_mod h.1).1] at this
    exact this
theorem bar_loose {l : List Cell} (hb : BarP W H cs l) : ∀ (m k : Nat), k + m + 1 = l.length → looseL W H cs (l.drop k)
  | 0, k, e => by
    have hk : k < l.length := by omega
    rw [List.drop_eq_getElem_cons hk, List.drop_eq_nil_of_le (by omega)]
    have hg : l.getD k cz = l[k] := by rw [List.getD_eq_getElem?_getD, List.getElem?_eq_getElem hk]; rfl
    have h1 := hb.on k hk
    have h2 := hb.hold k hk
    have h3 := (hb.bot k hk).2 (by omega)
    rw [hg] at h1 h2 h3
    exact ⟨h1, h2, h3⟩
  | m + 1, k, e => by
    have hk : k < l.length := by omega
    have hk1 : k + 1 < l.length := by omega
    have ih := bar_loose hb m (k + 1) (by omega)
    rw [List.drop_eq_getElem_cons hk]
    rw [List.drop_eq_getElem_cons hk1] at ih ⊢
    have hg : l.getD k cz = l[k] := by rw [List.getD_eq_getElem?_getD, List.getElem?_eq_getElem hk]; rfl
    have hg1 : l.getD (k + 1) cz = l[k + 1] := by rw [List.getD_eq_getElem?_getD, List.getElem?_eq_getElem hk1]; rfl
    have h1 := hb.on k hk
    have h2 := hb.hold k hk
    have h3 := hb.adj k hk1
    rw [hg] at h1 h2
    rw [hg, hg1] at h3
    exact ⟨h1, h2, h3, ih⟩
theorem sum_val (W : Int) (cs : List Int) : ∀ l : List Cell, sumC W cs l = (valW (cstI cs) (l.map (idxU W))).1
  | [] => rfl
  | p :: r => by
    have := sum_val W cs r
    unfold sumC sumK at this ⊢
    rw [List.take_length] at this ⊢
    show (cstI cs (idxU W p) :: r.map _).sum = _
    rw [List.sum_cons, this]
    show _ = (addW _ _).1
    simp only [addW]; omega
theorem loose_least (hok : CO W H cs) {p : Cell} {r : List Cell} (h : looseL W H cs (p :: r)) (h0 : p.2 = 0) : ∃ l w, barO W H cs = some (l, w) ∧ w.1 ≤ sumC W cs (p :: r) := by
  have hW := hok.w
  obtain ⟨w0, hw0⟩ : ∃ w0 : Nat, (w0 : Int) = W := ⟨W.toNat, by omega⟩
  have hwt : W.toNat = w0 := by omega
  have ho := onB_t (looseL_head h).1
  obtain ⟨v, hv, hle⟩ := (wayR_opt hok).comp _ _ (loose_walk hok h)
  have hi : idxU W p = p.1 := by unfold idxU; rw [h0]; omega
  have hv' : wayR W H cs ((p.1.toNat : Nat) : Int) = some v := by rw [← hv, hi]; congr 1; omega
  rw [bar_eq hok]
  unfold rbarO
  rw [hwt]
  rcases bestP_spec (wayR W H cs) w0 with ⟨_, g2⟩ | ⟨b, g1, g2, wb, g3, g4, _⟩
  · have := g2 p.1.toNat (by omega)
    rw [this] at hv'; cases hv'
  · rw [g1, g3]
    refine ⟨_, _, rfl, ?_⟩
    have h1 := g4 p.1.toNat (by omega) v hv'
    have h2 := leW_trans h1 hle
    have h3 := sum_val W cs (p :: r)
    have h4 : valW (cstI cs) ((p :: r).map (idxU W)) = valW (cstI cs) (idxU W p :: r.map (idxU W)) := rfl
    rw [h3, h4]
    unfold leW at h2; omega
/-- No barrier is cheaper than the one found. -/
theorem bar_least (hok : CO W H cs) {l : List Cell} (hb : BarP W H cs l) : ∃ l' w, barO W H cs = some (l', w) ∧ w.1 ≤ sumC W cs l := by
  have h1 := hb.len
  have h2 := bar_loose hb (l.length - 1) 0 (by omega)
  have h3 := (hb.top 0 (by omega)).2 rfl
  match l, h2, h3 with
  | p :: r, h2, h3 => exact loose_least hok h2 h3
end
end Go.Proofs.Ytbhpnhcdjmcaoaa

/- Boom, plain: the greatest heights prove what the cheapest barrier costs, and none prove more. -/
namespace Go.Proofs.Ytbhpnhcdjmcaoaa
open Go.RowKit
set_option linter.unusedVariables false
set_option linter.unusedSimpArgs false
section
variable {W H : Int} {cs : List Int}
theorem cst_pos (cs : List Int) (i : Int) : 0 ≤ cstI cs i := by unfold cstI; split <;> omega
theorem great_ex (hok : CO W H cs) : ∀ (n : Nat) (hs : List Int), HSt W H cs hs → hs.sum ≤ n → ∃ hs', HSt W H cs hs' ∧ Great W H cs hs'
  | n, hs, h, hn => by
    have hg := passH_go (W := W) (H := H) (cst_pos cs) (hs, false) (edP_ok hok (Nat.le_refl cs.length))
    cases hf : (passH cs (edP W H cs.length) (hs, false)).2 with
    | false =>
      have := passH_ok (W := W) (H := H) (cst_pos cs) (edP_ok hok (Nat.le_refl cs.length)) hf
      exact ⟨hs, h, h.great (edP_all this.2)⟩
    | true =>
      have h1 := hg.ok h
      have h2 := HSt.sum h1
      have h3 : (passH cs (edP W H cs.length) (hs, false)).1.sum < hs.sum := by
        rcases hg.less h hf with ⟨h4, _⟩ | h4
        · cases h4
        · exact h4
      match n, hn with
      | 0, hn => omega
      | n + 1, hn => exact great_ex hok n _ h1 (by omega)
theorem hts_great (hok : CO W H cs) : HSt W H cs (hts W H cs) ∧ Great W H cs (hts W H cs) := by
  obtain ⟨hs, h1, h2⟩ := great_ex hok _ _ (h0_st (W := W) (H := H) (cst_pos cs)) (Int.self_le_toNat _)
  rw [h2.hts]; exact ⟨h1, h2⟩
/-- What heights prove is not more than any way costs. -/
theorem prov_walk (hok : CO W H cs) {hs : List Int} {n : Int} (h : provP W H cs hs n = true) : ∀ {l : List Int} {i : Int}, isWalk (iniB W H cs) (nbR W H cs) (i :: l) → n ≤ hL hs i - cstI cs i + (valW (cstI cs) (i :: l)).1
  | [], i, hw => by
    obtain ⟨h1, h2, h3⟩ := iniB_cond hw
    have hi : 0 ≤ i ∧ i < cs.length := by unfold inR at h1; exact of_decide_eq_true h1
    have := (prov_iff.1 h i hi.1 hi.2 h2).2.1 h3
    simp only [valW, addW]; omega
  | k :: r, i, hw => by
    obtain ⟨h1, h2, h3⟩ := nbR_cond hw.1
    have hi : 0 ≤ i ∧ i < cs.length := by unfold inR at h1; exact of_decide_eq_true h1
    have ih := prov_walk hok h hw.2
    have := (prov_iff.1 h i hi.1 hi.2 h2).2.2 k h3 (walkR_cond hw.2).2
    have e : (valW (cstI cs) (i :: k :: r)).1 = (valW (cstI cs) (k :: r)).1 + cstI cs i := rfl
    omega
theorem prov_bar (hok : CO W H cs) {hs : List Int} {n : Int} (h : provP W H cs hs n = true) {l : List Cell} (hb : BarP W H cs l) : n ≤ sumC W cs l := by
  have h1 := hb.len
  have h2 := bar_loose hb (l.length - 1) 0 (by omega)
  have h3 := (hb.top 0 (by omega)).2 rfl
  match l, h2, h3 with
  | p :: r, h2, h3 =>
    have hw := loose_walk hok h2
    have hp := looseL_head h2
    have hi := idxU_in hok hp.1
    have hc : hldI cs (idxU W p) = true := by unfold hldI; rw [dd_t hp.2]
    have h4 := prov_walk hok h hw
    have h5 := (prov_iff.1 h _ hi.1 hi.2.1 hc).1 (by rw [hi.2.2.1]; exact h3)
    rw [sum_val]
    show n ≤ (valW (cstI cs) (idxU W p :: r.map (idxU W))).1
    omega
end
end Go.Proofs.Ytbhpnhcdjmcaoaa

/- Boom, plain: the greatest heights prove what the cheapest barrier costs. -/
namespace Go.Proofs.Ytbhpnhcdjmcaoaa
open Go.RowKit
set_option linter.unusedVariables false
set_option linter.unusedSimpArgs false
section
variable {W H : Int} {cs : List Int}
/-- What is left to the last row, seen from the top. -/
def potI (W H : Int) (cs : List Int) (x : Int) (i : Int) : Int := if hldI cs i = true then (match wayR W H cs i with
  | none => 0
  | some w => x - w.1 + cstI cs i) else 0
theorem potI_some {x i : Int} {w : Way} (h : hldI cs i = true) (hw : wayR W H cs i = some w) : potI W H cs x i = x - w.1 + cstI cs i := by unfold potI; rw [if_pos h, hw]
theorem potI_none {x i : Int} (hw : wayR W H cs i = none) : potI W H cs x i = 0 := by unfold potI; rw [hw]; split <;> rfl
theorem wayR_step (hok : CO W H cs) {a b : Int} (ha : 0 ≤ a ∧ a < cs.length) (h1 : hldI cs a = true) (hn : b ∈ nearL W H true a) {w : Way} (hw : wayR W H cs b = some w) : ∃ v, wayR W H cs a = some v ∧ v.1 ≤ w.1 + cstI cs a := by
  obtain ⟨l, h2, h3⟩ := (wayR_opt hok).sound b w hw
  obtain ⟨v, h4, h5⟩ := (wayR_opt hok).comp a (b :: l) ⟨nbR_mk (by unfold inR; rw [dd_t ha]) h1 hn, h2⟩
  have e : valW (cstI cs) (a :: b :: l) = addW (cstI cs a) w := by rw [← h3]; rfl
  rw [e] at h5
  refine ⟨v, h4, ?_⟩
  unfold leW addW at h5; simp only at h5; omega
theorem val_bd (hok : CO W H cs) : ∀ l : List Int, (valW (cstI cs) l).1 ≤ 100 * l.length
  | [] => by simp [valW]
  | i :: r => by
    have := val_bd hok r
    have := (cst_bd hok.cost i).2
    simp only [valW, addW, List.length_cons]; omega
/-- The greatest heights prove what the cheapest barrier costs. -/
theorem great_prov (hok : CO W H cs) {l : List Int} {w : Way} (h : barO W H cs = some (l, w)) : provP W H cs (hts W H cs) w.1 = true ∧ 0 ≤ w.1 ∧ w.1 ≤ 10000 := by
  obtain ⟨hst, hgr⟩ := hts_great hok
  have hW := hok.w
  have hi := bar_is hok h
  have hx : 0 ≤ w.1 ∧ w.1 ≤ 10000 := by
    have h1 := sum_val W cs (cellsL W l)
    have h2 := val_bd hok ((cellsL W l).map (idxU W))
    have h3 := valW_pos (cst_pos cs) ((cellsL W l).map (idxU W))
    simp only [cellsL, List.length_map] at h2
    have := hi.2.1
    have := hi.2.2.2
    simp only [cellsL] at *
    omega
  have hmin : ∀ i, 0 ≤ i → i < W → ∀ u, wayR W H cs i = some u → w.1 ≤ u.1 := by
    intro i i0 i1 u hu
    rw [bar_eq hok] at h
    unfold rbarO at h
    rcases bestP_spec (wayR W H cs) W.toNat with ⟨_, g2⟩ | ⟨b, g1, g2, wb, g3, g4, _⟩
    · have := g2 i.toNat (by omega)
      rw [show ((i.toNat : Nat) : Int) = i by omega, hu] at this; cases this
    · rw [g1, g3] at h; cases h
      have := g4 i.toNat (by omega) u (by rw [show ((i.toNat : Nat) : Int) = i by omega]; exact hu)
      unfold leW at this; omega
  have hfe : Feas W H cs (potI W H cs w.1) := fun a b a0 a1 ha hb hn => by
    have hbi := near_in (by omega) hn
    have hl := hok.len
    have hc := cst_pos cs b
    have hs : a ∈ nearL W H true b := near_symm (by omega) a0 (by omega) hn
    cases hwb : wayR W H cs b with
    | none =>
      cases hwa : wayR W H cs a with
      | none => rw [potI_none hwb, potI_none hwa]; omega
      | some v => obtain ⟨_, he, _⟩ := wayR_step hok ⟨hbi.1, by omega⟩ hb hs hwa; rw [hwb] at he; cases he
    | some v =>
      obtain ⟨u, he, hle⟩ := wayR_step hok ⟨a0, a1⟩ ha hn hwb
      rw [potI_some hb hwb, potI_some ha he]; omega
  have hle : ∀ i : Int, 0 ≤ i → i < cs.length → potI W H cs w.1 i ≤ h0I W cs i := fun i i0 i1 => by
    unfold h0I
    have hc := cst_bd hok.cost i
    by_cases hh : hldI cs i = true
    · rw [if_neg (by rw [hh]; simp)]
      cases hw : wayR W H cs i with
      | none => rw [potI_none hw]; split <;> omega
      | some u =>
        rw [potI_some hh hw]
        have hu : 0 ≤ u.1 := by
          obtain ⟨r, _, h3⟩ := (wayR_opt hok).sound i u hw
          rw [← h3]; exact valW_pos (cst_pos cs) _
        split
        · rename_i h0
          have := hmin i i0 (by have := Int.mul_ediv_add_emod i W; have := Int.emod_lt_of_pos i (show 0 < W by omega); rw [h0] at *; omega) u hw
          omega
        · omega
    · rw [if_pos (by simpa using hh)]
      unfold potI; rw [if_neg hh]; omega
  refine ⟨prov_iff.2 fun i i0 i1 hh => ⟨fun h0 => ?_, fun hl => ?_, fun k hk hhk => hgr.feas i k i0 i1 hh hhk hk⟩, hx⟩
  · have := hgr.le i i0 i1
    unfold h0I at this
    rw [if_neg (by rw [hh]; simp), if_pos h0] at this
    exact this
  · have h1 := hgr.most _ hfe hle i i0 i1
    obtain ⟨u, hu, hle2⟩ := (wayR_opt hok).comp i [] (by show iniB W H cs i = true; unfold iniB inR; rw [dd_t ⟨i0, i1⟩, hh, dd_t hl]; rfl)
    rw [potI_some hh hu] at h1
    have : (valW (cstI cs) [i]).1 = cstI cs i := by simp [valW, addW]
    unfold leW at hle2; omega
end
end Go.Proofs.Ytbhpnhcdjmcaoaa

/- Boom: what barriers cost, what heights prove. -/
namespace Go.Proofs.Ytbhpnhcdjmcaoaa
open Go.RowKit
set_option linter.unusedVariables false
set_option linter.unusedSimpArgs false
section
variable {W H : Int} {cs : List Int}
theorem cost_two (hv : okC W H cs = true) (l : List Cell) (hl : cs.length ≤ 300) (hc : l.length ≤ 300) : (∃ s : Int, BarP W H cs l ∧ s = sumC W cs l ∧ Spec Try.prog 39 [chR W H cs.length, V.c (.sl 1 l.length)] [⟨0, .ro 0, cs.map C.i⟩, ⟨1, .ro 2, cellC l⟩] 2 (Is (V.tup [A.c (C.i s), A.c (C.i 0)]))) ∨
    (¬ BarP W H cs l ∧ Spec Try.prog 39 [chR W H cs.length, V.c (.sl 1 l.length)] [⟨0, .ro 0, cs.map C.i⟩, ⟨1, .ro 2, cellC l⟩] 2 (Is (V.tup [A.c (C.i 0), A.c (C.i 5)]))) := by
  have hW : 0 < W := by have := (okC_iff.1 hv).w; omega
  have h := costOf_spec W H cs l hl hc
  rw [hv] at h
  cases hb : pIsBar W H cs l with
  | true =>
    rw [hb] at h
    have hB := (pIsBar_iff hW).1 hb
    rw [psum_eq hB.on] at h
    exact .inl ⟨_, hB, rfl, h⟩
  | false =>
    rw [hb] at h
    exact .inr ⟨fun hB => (by rw [(pIsBar_iff hW).2 hB] at hb; cases hb), h⟩
theorem prv_two (hv : okC W H cs = true) (hs : List Int) (n : Int) : (prvE W H cs hs n = 0 ∧ prvB W H cs hs n = provP W H cs hs n) ∨ (prvE W H cs hs n = 2 ∧ prvB W H cs hs n = false) := by
  unfold prvE prvB
  rw [hv]
  cases (decide (hs.length = cs.length) && (decide (0 ≤ n ∧ n ≤ 1000000) && !hs.any hBad)) with
  | true => exact .inl ⟨rfl, by simp⟩
  | false => exact .inr ⟨rfl, rfl⟩
theorem hts_any (hok : CO W H cs) : (hts W H cs).any hBad = false := by
  obtain ⟨h1, h2⟩ := hts_great hok
  refine any_no fun j hj => ?_
  have hj' : (j : Int) < cs.length := by have := h1.len; omega
  have e1 := h1.pos j (by omega) hj'
  have e2 := h1.le j (by omega) hj'
  have e3 : h0I W cs j ≤ 1000000 := by
    unfold h0I
    have := cst_bd hok.cost j
    split
    · omega
    · split <;> omega
  unfold hL at e1 e2
  rw [Int.toNat_natCast] at e1 e2
  omega
theorem prv_at (hv : okC W H cs = true) {n : Int} (h0 : 0 ≤ n ∧ n ≤ 1000000) : prvE W H cs (hts W H cs) n = 0 ∧ prvB W H cs (hts W H cs) n = provP W H cs (hts W H cs) n := by
  have hok := okC_iff.1 hv
  have hlen := (hts_great hok).2.len
  unfold prvE prvB
  rw [hv, hts_any hok, dd_t hlen, dd_t h0]
  exact ⟨rfl, by simp⟩
theorem rcost_at (hv : okC W H cs = true) {l : List Cell} (hB : BarP W H cs l) (hl : cs.length ≤ 300) (hc : l.length ≤ 300) : Spec Try.prog 40 [chR W H cs.length, V.c (.sl 1 l.length)] [⟨0, .ro 0, cs.map C.i⟩, ⟨1, .ro 2, cellC l⟩] 2 (Is (V.tup [A.c (C.i (sumC W cs l)), A.c (C.i 0)])) := by
  have h := rcostOf_spec W H cs l hl hc
  rw [hv, isBar_iff.2 hB] at h
  exact h
theorem risBar_at (hv : okC W H cs = true) {l : List Cell} (hB : BarP W H cs l) (hl : cs.length ≤ 300) (hc : l.length ≤ 300) : Spec Try.prog 38 [chR W H cs.length, V.c (.sl 1 l.length)] [⟨0, .ro 0, cs.map C.i⟩, ⟨1, .ro 2, cellC l⟩] 2 (Is (V.tup [A.c (.bool true), A.c (C.i 0)])) := by
  have h := risBar_spec W H cs l hl hc
  rw [hv, isBar_iff.2 hB] at h
  exact h
end
set_option maxRecDepth 10000 in
set_option maxHeartbeats 8000000 in
theorem topCheap_spec (W H : Int) (cs : List Int) (hl : cs.length ≤ 300) (hv : okC W H cs = true) {bl : List Int} {w : Way} (hb : barO W H cs = some (bl, w)) {x : Int} (hx : w.1 = x) :
    Spec Try.prog 56 [chR W H cs.length, V.i x] [⟨0, .ro 0, cs.map C.i⟩] 1 (Is (V.c (.bool true))) := by
  have hok := okC_iff.1 hv
  have k2 := pBarrier_spec W H cs hl
  have k3 := heights_spec W H cs hl
  have e3 : htsO W H cs = hts W H cs ∧ htsE W H cs = 0 := by unfold htsO htsE; rw [hv]; exact ⟨rfl, rfl⟩
  have hhl := hts_len W H cs hl
  rw [e3.1, e3.2] at k3
  rw [e3.1] at hhl
  obtain ⟨e1, e2⟩ := barC_some hv hb
  rw [e1, e2] at k2
  obtain ⟨hB, hsum, _, hbl⟩ := bar_is hok hb
  have hcl : (cellsL W bl).length ≤ 300 := by simp only [cellsL, List.length_map]; omega
  have k6 := risBar_at hv hB hl hcl
  have k7 := rcost_at hv hB hl hcl
  rw [hsum] at k7
  obtain ⟨g1, g2⟩ := great_prov hok hb
  have p8 := prv_at (n := w.1) hv (by omega)
  have p9 := prv_at (n := w.1 + 1) hv (by omega)
  have k8 := rproves_spec W H cs (hts W H cs) w.1 hl hhl (by omega)
  have k9 := rproves_spec W H cs (hts W H cs) (w.1 + 1) hl hhl (by omega)
  rw [p8.1, p8.2, g1] at k8
  have hno : provP W H cs (hts W H cs) (w.1 + 1) = false := by
    cases hp : provP W H cs (hts W H cs) (w.1 + 1) with
    | false => rfl
    | true => have := prov_bar hok hp hB; omega
  rw [p9.1, p9.2, hno] at k9
  rw [hx] at k7 k8 k9 g2
  obtain ⟨bc, hbc⟩ : ∃ b, b = cellsL W bl := ⟨_, rfl⟩
  rw [← hbc] at k2 k6 k7 hcl
  obtain ⟨bh, hbh⟩ : ∃ b, b = hts W H cs := ⟨_, rfl⟩
  rw [← hbh] at k3 k8 k9 hhl
  refine Spec.of tok Try.func56 rfl rfl rfl fun n0 cx => vc_ok tok ?_
  repeat ((conv => whnf); first | (refine And.intro (by first | omega | (dsimp only [inK]; omega)) ?_) | refine Exists.intro _ (And.intro rfl ?_) | refine br_t (by omega) ?_ | refine fun (K' : K3) hK' => ?_ | (refine hK' _ _ _ ?_; clear hK' K') | refine CallK.cellsE (R := []) k2 (by kernel_rfl) rfl (by simp [V.wf, A.wf, C.wf, V.i]) ⟨roE_ints (l := 0) rfl (by omega) rfl (.inl rfl), trivial⟩ rfl ?_ | refine CallK.val (R := [(0, some 0), (1, some 2)]) k6 (by kernel_rfl) rfl (by simp [V.wf, A.wf, C.wf, V.i]) ⟨roE_ints (l := 0) rfl (by omega) rfl (.inl rfl), roE_cells (l := 2) rfl (by omega) rfl (.inr rfl), trivial⟩ rfl rfl (by simp [V.wf, A.wf, C.wf]) ?_ | refine CallK.val (R := [(0, some 0), (1, some 2)]) k7 (by kernel_rfl) rfl (by simp [V.wf, A.wf, C.wf, V.i]) ⟨roE_ints (l := 0) rfl (by omega) rfl (.inl rfl), roE_cells (l := 2) rfl (by omega) rfl (.inr rfl), trivial⟩ rfl rfl (by simp [V.wf, A.wf, C.wf]) ?_ | refine CallK.intsE (R := []) k3 (by kernel_rfl) rfl (by simp [V.wf, A.wf, C.wf, V.i]) ⟨roE_ints (l := 0) rfl (by omega) rfl (.inl rfl), trivial⟩ rfl ?_ | refine CallK.val (R := [(0, some 0), (1, some 3)]) k8 (by kernel_rfl) rfl (by simp [V.wf, A.wf, C.wf, V.i]) ⟨roE_ints (l := 0) rfl (by omega) rfl (.inl rfl), roE_ints (l := 3) rfl (by omega) rfl (.inl rfl), trivial⟩ rfl rfl (by simp [V.wf, A.wf, C.wf]) ?_ | refine CallK.val (R := [(0, some 0), (1, some 3)]) k9 (by kernel_rfl) rfl (by simp [V.wf, A.wf, C.wf, V.i]) ⟨roE_ints (l := 0) rfl (by omega) rfl (.inl rfl), roE_ints (l := 3) rfl (by omega) rfl (.inl rfl), trivial⟩ rfl rfl (by simp [V.wf, A.wf, C.wf]) ?_ | refine br_bt (Eq.refl true) ?_ | refine CallK.m ?_)
  intro ρ; rfl
end Go.Proofs.Ytbhpnhcdjmcaoaa

/- Boom, plain: water leads from one shore to the other, or what is dry from the first row to the last, never both. -/
namespace Go.Proofs.Ytbhpnhcdjmcaoaa
open Go.RowKit
set_option linter.unusedVariables false
set_option linter.unusedSimpArgs false
/-- Water from which one comes to the last column, and what is dry from which one comes to the last row. -/
inductive RA (W H : Int) (w : Cell → Bool) : Cell → Prop
  | ini {p : Cell} (h : onB W H p.1 p.2 = true) (hw : w p = true) (hx : p.1 = W - 1) : RA W H w p
  | step {p q : Cell} (h : onB W H p.1 p.2 = true) (hw : w p = true) (ha : adj false p q) (hq : RA W H w q) : RA W H w p
inductive RB (W H : Int) (w : Cell → Bool) : Cell → Prop
  | ini {p : Cell} (h : onB W H p.1 p.2 = true) (hw : w p = false) (hx : p.2 = H - 1) : RB W H w p
  | step {p q : Cell} (h : onB W H p.1 p.2 = true) (hw : w p = false) (ha : adj true p q) (hq : RB W H w q) : RB W H w p
theorem RA.on {W H : Int} {w : Cell → Bool} {p : Cell} (h : RA W H w p) : onB W H p.1 p.2 = true ∧ w p = true := by cases h <;> exact ⟨by assumption, by assumption⟩
theorem RB.on {W H : Int} {w : Cell → Bool} {p : Cell} (h : RB W H w p) : onB W H p.1 p.2 = true ∧ w p = false := by cases h <;> exact ⟨by assumption, by assumption⟩
def imB (a b : Bool) : Bool := !a || b
def edB (ap bp aq bq : Bool) : Bool := (ap && bq) ^^ (bp && aq)
def blkB (w1 a1 b1 w2 a2 b2 w3 a3 b3 w4 a4 b4 : Bool) : Bool :=
  imB (imB a1 w1 && imB a2 w2 && imB a3 w3 && imB a4 w4 && imB b1 !w1 && imB b2 !w2 && imB b3 !w3 && imB b4 !w4 &&
    imB (a1 && w2) a2 && imB (a2 && w1) a1 && imB (a1 && w3) a3 && imB (a3 && w1) a1 && imB (a2 && w4) a4 && imB (a4 && w2) a2 && imB (a3 && w4) a4 && imB (a4 && w3) a3 &&
    imB (b1 && !w2) b2 && imB (b2 && !w1) b1 && imB (b1 && !w3) b3 && imB (b3 && !w1) b1 && imB (b1 && !w4) b4 && imB (b4 && !w1) b1 &&
    imB (b2 && !w3) b3 && imB (b3 && !w2) b2 && imB (b2 && !w4) b4 && imB (b4 && !w2) b2 && imB (b3 && !w4) b4 && imB (b4 && !w3) b3)
    (!((edB a1 b1 a2 b2 ^^ edB a3 b3 a4 b4) ^^ (edB a1 b1 a3 b3 ^^ edB a2 b2 a4 b4)))
theorem blk_all : ∀ w1 a1 b1 w2 a2 b2 w3 a3 b3 w4 a4 b4 : Bool, blkB w1 a1 b1 w2 a2 b2 w3 a3 b3 w4 a4 b4 = true := by decide +kernel
theorem imB_of {a b : Bool} (h : a = true → b = true) : imB a b = true := by
  cases a with
  | false => rfl
  | true => rw [h rfl]; rfl
section
variable {W H : Int} {w : Cell → Bool}
open Classical in
noncomputable def aB (W H : Int) (w : Cell → Bool) (p : Cell) : Bool := decide (p.1 = W ∨ RA W H w p)
open Classical in
noncomputable def bB (W H : Int) (w : Cell → Bool) (p : Cell) : Bool := decide ((p.2 = H ∧ p.1 ≠ W) ∨ RB W H w p)
def wX (W H : Int) (w : Cell → Bool) (p : Cell) : Bool := decide (p.1 = W) || (decide (p.2 ≠ H) && w p)
open Classical in
theorem aB_iff {p : Cell} : aB W H w p = true ↔ (p.1 = W ∨ RA W H w p) := by unfold aB; exact @decide_eq_true_iff _ _
open Classical in
theorem bB_iff {p : Cell} : bB W H w p = true ↔ ((p.2 = H ∧ p.1 ≠ W) ∨ RB W H w p) := by unfold bB; exact @decide_eq_true_iff _ _
theorem wX_t {p : Cell} : wX W H w p = true ↔ p.1 = W ∨ (p.2 ≠ H ∧ w p = true) := by
  unfold wX; rw [Bool.or_eq_true, Bool.and_eq_true, decide_eq_true_eq, decide_eq_true_eq]
theorem wX_f {p : Cell} : (!wX W H w p) = true ↔ p.1 ≠ W ∧ (p.2 = H ∨ w p = false) := by
  rw [Bool.not_eq_true', ← Bool.not_eq_true, wX_t]
  cases w p <;> simp <;> omega
/-- Within the board and the shore's column and row behind it. -/
def exB (W H : Int) (p : Cell) : Prop := (0 ≤ p.1 ∧ p.1 ≤ W) ∧ 0 ≤ p.2 ∧ p.2 ≤ H
theorem onB_of {x y : Int} (h : (0 ≤ x ∧ x < W) ∧ 0 ≤ y ∧ y < H) : onB W H x y = true := by
  unfold onB; rw [dd_t (show x ≥ 0 by omega), dd_t (show x < W by omega), dd_t (show y ≥ 0 by omega), dd_t (show y < H by omega)]; rfl
theorem aB_w {p : Cell} (h : aB W H w p = true) : wX W H w p = true := by
  rw [wX_t]
  rcases aB_iff.1 h with h | h
  · exact .inl h
  · have := onB_t h.on.1; exact .inr ⟨by omega, h.on.2⟩
theorem bB_w {p : Cell} (h : bB W H w p = true) : (!wX W H w p) = true := by
  rw [wX_f]
  rcases bB_iff.1 h with h | h
  · exact ⟨h.2, .inl h.1⟩
  · have := onB_t h.on.1; exact ⟨by omega, .inr h.on.2⟩
theorem aB_step {p q : Cell} (hq : exB W H q) (ha : adj false q p) (h : aB W H w p = true) (hw : wX W H w q = true) : aB W H w q = true := by
  rw [aB_iff]
  rcases wX_t.1 hw with h1 | ⟨h1, h2⟩
  · exact .inl h1
  · by_cases hx : q.1 = W
    · exact .inl hx
    · have hon : onB W H q.1 q.2 = true := onB_of (by unfold exB at hq; omega)
      rcases aB_iff.1 h with h3 | h3
      · exact .inr (.ini hon h2 (by have := ha.1; unfold exB at hq; omega))
      · exact .inr (.step hon h2 ha h3)
theorem bB_step {p q : Cell} (hq : exB W H q) (ha : adj true q p) (h : bB W H w p = true) (hw : (!wX W H w q) = true) : bB W H w q = true := by
  rw [bB_iff]
  obtain ⟨h1, h2⟩ := wX_f.1 hw
  by_cases hy : q.2 = H
  · exact .inl ⟨hy, h1⟩
  · have h3 := h2.resolve_left hy
    have hon : onB W H q.1 q.2 = true := onB_of (by unfold exB at hq; omega)
    rcases bB_iff.1 h with h4 | h4
    · exact .inr (.ini hon h3 (by have := ha.2.1; unfold exB at hq; omega))
    · exact .inr (.step hon h3 ha h4)
noncomputable def edC (W H : Int) (w : Cell → Bool) (p q : Cell) : Bool := edB (aB W H w p) (bB W H w p) (aB W H w q) (bB W H w q)
theorem blk_ev {x y : Int} (hx : 0 ≤ x ∧ x + 1 ≤ W) (hy : 0 ≤ y ∧ y + 1 ≤ H) : (edC W H w (x, y) (x + 1, y) ^^ edC W H w (x, y + 1) (x + 1, y + 1)) = (edC W H w (x, y) (x, y + 1) ^^ edC W H w (x + 1, y) (x + 1, y + 1)) := by
  have e1 : exB W H (x, y) := ⟨by show 0 ≤ x ∧ x ≤ W; omega, by show 0 ≤ y ∧ y ≤ H; omega⟩
  have e2 : exB W H (x + 1, y) := ⟨by show 0 ≤ x + 1 ∧ x + 1 ≤ W; omega, by show 0 ≤ y ∧ y ≤ H; omega⟩
  have e3 : exB W H (x, y + 1) := ⟨by show 0 ≤ x ∧ x ≤ W; omega, by show 0 ≤ y + 1 ∧ y + 1 ≤ H; omega⟩
  have e4 : exB W H (x + 1, y + 1) := ⟨by show 0 ≤ x + 1 ∧ x + 1 ≤ W; omega, by show 0 ≤ y + 1 ∧ y + 1 ≤ H; omega⟩
  have n4 : ∀ {a b c d : Int}, ((-1 ≤ a - c ∧ a - c ≤ 1) ∧ (-1 ≤ b - d ∧ b - d ≤ 1) ∧ ¬ (a = c ∧ b = d) ∧ (a = c ∨ b = d)) → adj false (a, b) (c, d) := fun h => ⟨h.1, h.2.1, h.2.2.1, .inr h.2.2.2⟩
  have n8 : ∀ {a b c d : Int}, ((-1 ≤ a - c ∧ a - c ≤ 1) ∧ (-1 ≤ b - d ∧ b - d ≤ 1) ∧ ¬ (a = c ∧ b = d)) → adj true (a, b) (c, d) := fun h => ⟨h.1, h.2.1, h.2.2, .inl rfl⟩
  have hb := blk_all (wX W H w (x, y)) (aB W H w (x, y)) (bB W H w (x, y)) (wX W H w (x + 1, y)) (aB W H w (x + 1, y)) (bB W H w (x + 1, y)) (wX W H w (x, y + 1)) (aB W H w (x, y + 1)) (bB W H w (x, y + 1)) (wX W H w (x + 1, y + 1)) (aB W H w (x + 1, y + 1)) (bB W H w (x + 1, y + 1))
  unfold blkB at hb
  have aS : ∀ {p q : Cell}, exB W H q → adj false q p → imB (aB W H w p && wX W H w q) (aB W H w q) = true := fun hq ha => imB_of fun h => by
    rw [Bool.and_eq_true] at h; exact aB_step hq ha h.1 h.2
  have bS : ∀ {p q : Cell}, exB W H q → adj true q p → imB (bB W H w p && !wX W H w q) (bB W H w q) = true := fun hq ha => imB_of fun h => by
    rw [Bool.and_eq_true] at h; exact bB_step hq ha h.1 h.2
  have aW : ∀ p, imB (aB W H w p) (wX W H w p) = true := fun p => imB_of aB_w
  have bW : ∀ p, imB (bB W H w p) (!wX W H w p) = true := fun p => imB_of bB_w
  rw [aW, aW, aW, aW, bW, bW, bW, bW,
    aS e2 (n4 (by omega)), aS e1 (n4 (by omega)), aS e3 (n4 (by omega)), aS e1 (n4 (by omega)), aS e4 (n4 (by omega)), aS e2 (n4 (by omega)), aS e4 (n4 (by omega)), aS e3 (n4 (by omega)),
    bS e2 (n8 (by omega)), bS e1 (n8 (by omega)), bS e3 (n8 (by omega)), bS e1 (n8 (by omega)), bS e4 (n8 (by omega)), bS e1 (n8 (by omega)), bS e3 (n8 (by omega)), bS e2 (n8 (by omega)), bS e4 (n8 (by omega)), bS e2 (n8 (by omega)), bS e4 (n8 (by omega)), bS e3 (n8 (by omega))] at hb
  have hb : (!((edC W H w (x, y) (x + 1, y) ^^ edC W H w (x, y + 1) (x + 1, y + 1)) ^^ (edC W H w (x, y) (x, y + 1) ^^ edC W H w (x + 1, y) (x + 1, y + 1)))) = true := hb
  revert hb
  cases edC W H w (x, y) (x + 1, y) <;> cases edC W H w (x, y + 1) (x + 1, y + 1) <;> cases edC W H w (x, y) (x, y + 1) <;> cases edC W H w (x + 1, y) (x + 1, y + 1) <;> simp
noncomputable def rowX (W H : Int) (w : Cell → Bool) (y : Int) : Nat → Bool
  | 0 => false
  | k + 1 => rowX W H w y k ^^ edC W H w (k, y) (k + 1, y)
theorem rowX_two {y : Int} (hy : 0 ≤ y ∧ y + 1 ≤ H) : ∀ k : Nat, (k : Int) ≤ W → (rowX W H w y k ^^ rowX W H w (y + 1) k) = (edC W H w (0, y) (0, y + 1) ^^ edC W H w (k, y) (k, y + 1))
  | 0, _ => by simp [rowX]
  | k + 1, h => by
    have ih := rowX_two hy k (by omega)
    have hb := blk_ev (W := W) (H := H) (w := w) (x := k) (y := y) (by omega) hy
    have e : ((k + 1 : Nat) : Int) = (k : Int) + 1 := by omega
    rw [e]
    simp only [rowX]
    revert ih hb
    cases rowX W H w y k <;> cases rowX W H w (y + 1) k <;> cases edC W H w (0, y) (0, y + 1) <;> cases edC W H w (↑k, y) (↑k, y + 1) <;> cases edC W H w (↑k, y) (↑k + 1, y) <;> cases edC W H w (↑k, y + 1) (↑k + 1, y + 1) <;> cases edC W H w (↑k + 1, y) (↑k + 1, y + 1) <;> simp
theorem edC_a {p q : Cell} (hp : aB W H w p = false) (hq : aB W H w q = false) : edC W H w p q = false := by unfold edC edB; rw [hp, hq]; simp
theorem edC_b {p q : Cell} (hp : bB W H w p = false) (hq : bB W H w q = false) : edC W H w p q = false := by unfold edC edB; rw [hp, hq]; simp
theorem aB_no {p : Cell} (h1 : p.1 ≠ W) (h2 : ¬ RA W H w p) : aB W H w p = false := by
  rw [← Bool.not_eq_true, aB_iff]; rintro (h | h); exact h1 h; exact h2 h
theorem bB_no {p : Cell} (h1 : p.2 = H → p.1 = W) (h2 : ¬ RB W H w p) : bB W H w p = false := by
  rw [← Bool.not_eq_true, bB_iff]; rintro (h | h); exact h.2 (h1 h.1); exact h2 h
theorem RA.in {p : Cell} (h : RA W H w p) : p.1 < W ∧ p.2 < H := by have := onB_t h.on.1; omega
theorem RB.in {p : Cell} (h : RB W H w p) : p.1 < W ∧ p.2 < H := by have := onB_t h.on.1; omega
theorem dual_ex (hW : 0 < W) (hH : 0 < H) : (∃ p, RA W H w p ∧ p.1 = 0) ∨ ∃ p, RB W H w p ∧ p.2 = 0 := by
  apply Classical.byContradiction
  intro hno
  have hA : ∀ p : Cell, p.1 = 0 → ¬ RA W H w p := fun p h hr => hno (.inl ⟨p, hr, h⟩)
  have hB : ∀ p : Cell, p.2 = 0 → ¬ RB W H w p := fun p h hr => hno (.inr ⟨p, hr, h⟩)
  obtain ⟨w0, rfl⟩ : ∃ w0 : Nat, W = w0 := ⟨W.toNat, by omega⟩
  obtain ⟨h0, rfl⟩ : ∃ h0 : Nat, H = h0 := ⟨H.toNat, by omega⟩
  have step : ∀ y : Nat, y < h0 → rowX w0 h0 w (y : Int) w0 = rowX w0 h0 w ((y : Int) + 1) w0 := fun y hy => by
    have h1 := rowX_two (w := w) (W := w0) (H := h0) (y := y) (by omega) w0 (Int.le_refl _)
    have h2 : edC w0 h0 w (0, (y : Int)) (0, (y : Int) + 1) = false := edC_a (aB_no (by show (0 : Int) ≠ w0; omega) (hA _ rfl)) (aB_no (by show (0 : Int) ≠ w0; omega) (hA _ rfl))
    have h3 : edC w0 h0 w ((w0 : Int), (y : Int)) ((w0 : Int), (y : Int) + 1) = false := edC_b (bB_no (fun _ => rfl) (fun h => by have := h.in.1; simp only at this; omega)) (bB_no (fun _ => rfl) (fun h => by have := h.in.1; simp only at this; omega))
    rw [h2, h3] at h1
    revert h1
    cases rowX w0 h0 w (y : Int) w0 <;> cases rowX w0 h0 w ((y : Int) + 1) w0 <;> simp
  have all : ∀ y : Nat, y ≤ h0 → rowX w0 h0 w 0 w0 = rowX w0 h0 w (y : Int) w0 := by
    intro y
    induction y with
    | zero => intro _; rfl
    | succ y ih =>
      intro hy
      rw [ih (by omega), step y (by omega)]; rfl
  have top : ∀ k : Nat, k ≤ w0 → rowX w0 h0 w 0 k = false := by
    intro k
    induction k with
    | zero => intro _; rfl
    | succ k ih =>
      intro hk
      simp only [rowX]
      rw [ih (by omega), edC_b (bB_no (fun h => by simp only at h; omega) (hB _ rfl)) (bB_no (fun h => by simp only at h; omega) (hB _ rfl))]; rfl
  have bot : ∀ k : Nat, k < w0 → rowX w0 h0 w (h0 : Int) k = false := by
    intro k
    induction k with
    | zero => intro _; rfl
    | succ k ih =>
      intro hk
      simp only [rowX]
      rw [ih (by omega), edC_a (aB_no (by simp only; omega) (fun h => by have := h.in.2; simp only at this; omega)) (aB_no (by simp only; omega) (fun h => by have := h.in.2; simp only at this; omega))]; rfl
  have h1 := all h0 (Nat.le_refl _)
  rw [top w0 (Nat.le_refl _)] at h1
  obtain ⟨k, rfl⟩ : ∃ k, w0 = k + 1 := ⟨w0 - 1, by omega⟩
  simp only [rowX] at h1
  rw [bot k (by omega)] at h1
  have e : ((k + 1 : Nat) : Int) = (k : Int) + 1 := by omega
  have ha : aB ((k + 1 : Nat) : Int) h0 w ((k : Int) + 1, (h0 : Int)) = true := aB_iff.2 (.inl (by simp only; omega))
  have hb : bB ((k + 1 : Nat) : Int) h0 w ((k : Int), (h0 : Int)) = true := bB_iff.2 (.inl ⟨rfl, by simp only; omega⟩)
  have ha2 : aB ((k + 1 : Nat) : Int) h0 w ((k : Int), (h0 : Int)) = false := aB_no (by simp only; omega) (fun h => by have := h.in.2; simp only at this; omega)
  have hb2 : bB ((k + 1 : Nat) : Int) h0 w ((k : Int) + 1, (h0 : Int)) = false := bB_no (fun _ => by simp only; omega) (fun h => by have := h.in.2; simp only at this; omega)
  unfold edC edB at h1
  rw [ha, hb, ha2, hb2] at h1
  simp at h1
/-- What is dry, as a list from a cell to the last row. -/
def dryL (W H : Int) (w : Cell → Bool) : List Cell → Prop
  | [] => False
  | [p] => onB W H p.1 p.2 = true ∧ w p = false ∧ p.2 = H - 1
  | p :: q :: r => (onB W H p.1 p.2 = true ∧ w p = false ∧ adj true p q) ∧ dryL W H w (q :: r)
theorem RB.list {p : Cell} (h : RB W H w p) : ∃ r, dryL W H w (p :: r) := by
  induction h with
  | ini h hw hx => exact ⟨[], h, hw, hx⟩
  | step h hw ha hq ih => obtain ⟨r, hr⟩ := ih; exact ⟨_ :: r, ⟨h, hw, ha⟩, hr⟩
theorem dryL_head {p : Cell} {r : List Cell} (h : dryL W H w (p :: r)) : onB W H p.1 p.2 = true ∧ w p = false := by
  cases r with
  | nil => exact ⟨h.1, h.2.1⟩
  | cons q r => exact ⟨h.1.1, h.1.2.1⟩
/-- Over each pair of neighbours, the last cell's lower neighbour among them. -/
def xr (H : Int) (s : Cell → Cell → Bool) : List Cell → Bool
  | [] => false
  | [p] => s p (p.1, H)
  | p :: q :: r => s p q ^^ xr H s (q :: r)
theorem xr_congr {s t : Cell → Cell → Bool} (h : ∀ p q : Cell, w p = false → (w q = false ∨ q.2 = H) → (0 ≤ p.1 ∧ p.1 < W) → (0 ≤ q.1 ∧ q.1 < W) → (0 ≤ p.2 ∧ p.2 < H) → (-1 ≤ p.1 - q.1 ∧ p.1 - q.1 ≤ 1) → (-1 ≤ p.2 - q.2 ∧ p.2 - q.2 ≤ 1) → s p q = t p q) :
    ∀ {l : List Cell}, dryL W H w l → xr H s l = xr H t l
  | [p], hl => by
    have ho := onB_t hl.1
    exact h p (p.1, H) hl.2.1 (.inr rfl) ho.1 ho.1 ho.2 (by simp only; omega) (by have := hl.2.2; simp only; omega)
  | p :: q :: r, hl => by
    have ho := onB_t hl.1.1
    have hq := dryL_head hl.2
    simp only [xr]
    rw [xr_congr h hl.2, h p q hl.1.2.1 (.inl hq.2) ho.1 (onB_t hq.1).1 ho.2 hl.1.2.2.1 hl.1.2.2.2.1]
theorem xr_xor (s t : Cell → Cell → Bool) : ∀ l : List Cell, xr H (fun p q => s p q ^^ t p q) l = (xr H s l ^^ xr H t l)
  | [] => rfl
  | [p] => rfl
  | p :: q :: r => by
    simp only [xr]
    rw [xr_xor s t (q :: r)]
    cases s p q <;> cases t p q <;> cases xr H s (q :: r) <;> cases xr H t (q :: r) <;> rfl
theorem xr_tele (g : Cell → Bool) (hg : ∀ p : Cell, p.2 = H → g p = false) : ∀ {p : Cell} {r : List Cell}, xr H (fun p q => g p ^^ g q) (p :: r) = g p
  | p, [] => by simp only [xr]; rw [hg (p.1, H) rfl]; simp
  | p, q :: r => by
    have := xr_tele g hg (p := q) (r := r)
    simp only [xr] at this ⊢
    rw [this]
    cases g p <;> cases g q <;> rfl
/-- Steps between row y and the next one whose end in row y lies left of x; steps between row y and the one before. -/
def crS (x y : Int) (p q : Cell) : Bool := decide (p.2 = y ∧ q.2 = y + 1 ∧ p.1 < x) || decide (q.2 = y ∧ p.2 = y + 1 ∧ q.1 < x)
def cgS (x y : Int) (p q : Cell) : Bool := decide (p.2 = y ∧ q.2 = y - 1 ∧ p.1 < x) || decide (q.2 = y ∧ p.2 = y - 1 ∧ q.1 < x)
def lfS (x y : Int) (p : Cell) : Bool := decide (p.2 = y ∧ p.1 < x)
/-- How often the wall over a cell is crossed, the step from above the first row among them. -/
def fS (H x y : Int) : List Cell → Bool
  | [] => false
  | p :: r => crS x y (p.1, -1) p ^^ xr H (crS x y) (p :: r)
theorem fS_cons (H x y : Int) (p : Cell) (r : List Cell) : fS H x y (p :: r) = (crS x y (p.1, -1) p ^^ xr H (crS x y) (p :: r)) := rfl
theorem fS_right {p : Cell} {r : List Cell} (h : dryL W H w (p :: r)) (hp : p.2 = 0) {x y : Int} (hx : x = W - 1) (hy : 0 ≤ y ∧ y < H) (hw : w (x, y) = true) : fS H x y (p :: r) = true := by
  have hc : xr H (crS x y) (p :: r) = xr H (fun p q => decide (p.2 ≤ y) ^^ decide (q.2 ≤ y)) (p :: r) := xr_congr (fun p q hwp hwq hp1 hq1 hp2 hd1 hd2 => by
    have hpn : ¬ (p.1 = x ∧ p.2 = y) := fun ⟨e1, e2⟩ => by
      have : p = (x, y) := Prod.ext e1 e2
      rw [this, hw] at hwp; cases hwp
    have hqn : q.2 = y → q.1 ≠ x := fun e2 e1 => by
      rcases hwq with hwq | hwq
      · have : q = (x, y) := Prod.ext e1 e2
        rw [this, hw] at hwq; cases hwq
      · omega
    unfold crS
    by_cases h1 : p.2 ≤ y <;> by_cases h2 : q.2 ≤ y
    · rw [dd_t h1, dd_t h2, dd_f (by omega), dd_f (by omega)]; rfl
    · rw [dd_t h1, dd_f h2, dd_t (show p.2 = y ∧ q.2 = y + 1 ∧ p.1 < x by omega)]; rfl
    · have := hqn (by omega)
      rw [dd_f h1, dd_t h2, dd_t (show q.2 = y ∧ p.2 = y + 1 ∧ q.1 < x by omega)]; simp
    · rw [dd_f h1, dd_f h2, dd_f (by omega), dd_f (by omega)]; rfl) h
  rw [fS_cons, hc, xr_tele (fun p : Cell => decide (p.2 ≤ y)) (fun p hp => dd_f (by omega)), dd_t (show p.2 ≤ y by omega)]
  unfold crS
  rw [dd_f (show ¬ ((-1 : Int) = y ∧ p.2 = y + 1 ∧ p.1 < x) by omega), dd_f (show ¬ (p.2 = y ∧ (-1 : Int) = y + 1 ∧ p.1 < x) by omega)]; rfl
theorem fS_zero {p : Cell} {r : List Cell} (h : dryL W H w (p :: r)) {y : Int} : fS H 0 y (p :: r) = false := by
  have hc : xr H (crS 0 y) (p :: r) = xr H (fun _ _ => false ^^ false) (p :: r) := xr_congr (fun p q hwp hwq hp1 hq1 hp2 hd1 hd2 => by
    unfold crS; rw [dd_f (by omega), dd_f (by omega)]; rfl) h
  have hp := onB_t (dryL_head h).1
  rw [fS_cons, hc, xr_tele (fun _ => false) (fun _ _ => rfl)]
  unfold crS
  rw [dd_f (show ¬ ((-1 : Int) = y ∧ p.2 = y + 1 ∧ p.1 < 0) by omega), dd_f (show ¬ (p.2 = y ∧ (-1 : Int) = y + 1 ∧ p.1 < 0) by omega)]; rfl
theorem fS_hor {p : Cell} {r : List Cell} (h : dryL W H w (p :: r)) (hp : p.2 = 0) {x y : Int} (hy : 0 ≤ y ∧ y < H) (hw : w (x, y) = true) : fS H (x + 1) y (p :: r) = fS H x y (p :: r) := by
  have hc : xr H (crS (x + 1) y) (p :: r) = xr H (crS x y) (p :: r) := xr_congr (fun p q hwp hwq hp1 hq1 hp2 hd1 hd2 => by
    have hpn : p.2 = y → p.1 ≠ x := fun e2 e1 => by
      have : p = (x, y) := Prod.ext e1 e2
      rw [this, hw] at hwp; cases hwp
    have hqn : q.2 = y → q.1 ≠ x := fun e2 e1 => by
      rcases hwq with hwq | hwq
      · have : q = (x, y) := Prod.ext e1 e2
        rw [this, hw] at hwq; cases hwq
      · omega
    unfold crS
    congr 1 <;> (rw [decide_eq_decide]) <;> omega) h
  have hpn : p.2 = y → p.1 ≠ x := fun e2 e1 => by
    have hwp := (dryL_head h).2
    have : p = (x, y) := Prod.ext e1 e2
    rw [this, hw] at hwp; cases hwp
  rw [fS_cons, fS_cons, hc]
  congr 1
  unfold crS
  congr 1 <;> (rw [decide_eq_decide]) <;> simp only <;> omega
/-- The steps down out of a row and those up, left of a cell that is wet, are as many but for an even number. -/
theorem fS_turn {p : Cell} {r : List Cell} (h : dryL W H w (p :: r)) (hp : p.2 = 0) {x y : Int} (hy : 0 ≤ y ∧ y < H) (hw : w (x, y) = true) : fS H x y (p :: r) = (cgS x y (p.1, -1) p ^^ xr H (cgS x y) (p :: r)) := by
  have hc : xr H (fun p q => crS x y p q ^^ cgS x y p q) (p :: r) = xr H (fun p q => lfS x y p ^^ lfS x y q) (p :: r) := xr_congr (fun p q hwp hwq hp1 hq1 hp2 hd1 hd2 => by
    have hpn : p.2 = y → p.1 ≠ x := fun e2 e1 => by
      have : p = (x, y) := Prod.ext e1 e2
      rw [this, hw] at hwp; cases hwp
    have hqn : q.2 = y → q.1 ≠ x := fun e2 e1 => by
      rcases hwq with hwq | hwq
      · have : q = (x, y) := Prod.ext e1 e2
        rw [this, hw] at hwq; cases hwq
      · omega
    unfold crS cgS lfS
    by_cases h1 : p.2 = y ∧ p.1 < x <;> by_cases h2 : q.2 = y ∧ q.1 < x
    · rw [dd_t h1, dd_t h2, dd_f (by omega), dd_f (by omega), dd_f (by omega), dd_f (by omega)]; rfl
    · have h3 : q.2 ≠ y := fun e => by have := hqn e; omega
      by_cases h4 : q.2 = y + 1
      · rw [dd_t h1, dd_f h2, dd_t (show p.2 = y ∧ q.2 = y + 1 ∧ p.1 < x by omega), dd_f (show ¬ (q.2 = y ∧ p.2 = y + 1 ∧ q.1 < x) by omega), dd_f (show ¬ (p.2 = y ∧ q.2 = y - 1 ∧ p.1 < x) by omega), dd_f (show ¬ (q.2 = y ∧ p.2 = y - 1 ∧ q.1 < x) by omega)]; rfl
      · rw [dd_t h1, dd_f h2, dd_f (show ¬ (p.2 = y ∧ q.2 = y + 1 ∧ p.1 < x) by omega), dd_f (show ¬ (q.2 = y ∧ p.2 = y + 1 ∧ q.1 < x) by omega), dd_t (show (p.2 = y ∧ q.2 = y - 1 ∧ p.1 < x) by omega), dd_f (show ¬ (q.2 = y ∧ p.2 = y - 1 ∧ q.1 < x) by omega)]; rfl
    · have h3 : p.2 ≠ y := fun e => by have := hpn e; omega
      by_cases h4 : p.2 = y + 1
      · rw [dd_f h1, dd_t h2, dd_f (show ¬ (p.2 = y ∧ q.2 = y + 1 ∧ p.1 < x) by omega), dd_t (show (q.2 = y ∧ p.2 = y + 1 ∧ q.1 < x) by omega), dd_f (show ¬ (p.2 = y ∧ q.2 = y - 1 ∧ p.1 < x) by omega), dd_f (show ¬ (q.2 = y ∧ p.2 = y - 1 ∧ q.1 < x) by omega)]; rfl
      · rw [dd_f h1, dd_t h2, dd_f (show ¬ (p.2 = y ∧ q.2 = y + 1 ∧ p.1 < x) by omega), dd_f (show ¬ (q.2 = y ∧ p.2 = y + 1 ∧ q.1 < x) by omega), dd_f (show ¬ (p.2 = y ∧ q.2 = y - 1 ∧ p.1 < x) by omega), dd_t (show (q.2 = y ∧ p.2 = y - 1 ∧ q.1 < x) by omega)]; rfl
    · rw [dd_f h1, dd_f h2, dd_f (by omega), dd_f (by omega), dd_f (by omega), dd_f (by omega)]; rfl) h
  rw [xr_xor, xr_tele (lfS x y) (fun p hp => by unfold lfS; exact dd_f (by omega))] at hc
  have ht : (crS x y (p.1, -1) p ^^ cgS x y (p.1, -1) p) = lfS x y p := by
    unfold crS cgS lfS
    simp only
    by_cases h1 : p.2 = y ∧ p.1 < x
    · rw [dd_t h1, dd_f (show ¬ ((-1 : Int) = y ∧ p.2 = y + 1 ∧ p.1 < x) by omega), dd_f (show ¬ (p.2 = y ∧ (-1 : Int) = y + 1 ∧ p.1 < x) by omega), dd_f (show ¬ ((-1 : Int) = y ∧ p.2 = y - 1 ∧ p.1 < x) by omega), dd_t (show (p.2 = y ∧ (-1 : Int) = y - 1 ∧ p.1 < x) by omega)]; rfl
    · rw [dd_f h1, dd_f (show ¬ ((-1 : Int) = y ∧ p.2 = y + 1 ∧ p.1 < x) by omega), dd_f (show ¬ (p.2 = y ∧ (-1 : Int) = y + 1 ∧ p.1 < x) by omega), dd_f (show ¬ ((-1 : Int) = y ∧ p.2 = y - 1 ∧ p.1 < x) by omega), dd_f (show ¬ (p.2 = y ∧ (-1 : Int) = y - 1 ∧ p.1 < x) by omega)]; rfl
  rw [fS_cons]
  revert hc ht
  cases xr H (crS x y) (p :: r) <;> cases xr H (cgS x y) (p :: r) <;> cases lfS x y p <;> cases crS x y (p.1, -1) p <;> cases cgS x y (p.1, -1) p <;> simp
theorem fS_ver {p : Cell} {r : List Cell} (h : dryL W H w (p :: r)) (hp : p.2 = 0) {x y : Int} (hy : 0 ≤ y ∧ y + 1 < H) (hw : w (x, y) = true) (hw2 : w (x, y + 1) = true) : fS H x y (p :: r) = fS H x (y + 1) (p :: r) := by
  rw [fS_turn h hp (by omega) hw2]
  have hc : xr H (crS x y) (p :: r) = xr H (cgS x (y + 1)) (p :: r) := xr_congr (fun p q hwp hwq hp1 hq1 hp2 hd1 hd2 => by
    have no : ∀ c : Cell, w c = false → ¬ (c.1 = x ∧ (c.2 = y ∨ c.2 = y + 1)) := fun c hc ⟨e1, e2⟩ => by
      rcases e2 with e2 | e2
      · have : c = (x, y) := Prod.ext e1 e2
        rw [this, hw] at hc; cases hc
      · have : c = (x, y + 1) := Prod.ext e1 e2
        rw [this, hw2] at hc; cases hc
    have hpn := no p hwp
    have hqn : ¬ (q.1 = x ∧ (q.2 = y ∨ q.2 = y + 1)) := by
      rcases hwq with hwq | hwq
      · exact no q hwq
      · omega
    unfold crS cgS
    rw [Bool.or_comm]
    congr 1 <;> (rw [decide_eq_decide]) <;> omega) h
  rw [fS_cons, hc]
  congr 1
  unfold crS cgS
  rw [dd_f (show ¬ ((-1 : Int) = y ∧ p.2 = y + 1 ∧ p.1 < x) by omega), dd_f (show ¬ (p.2 = y ∧ (-1 : Int) = y + 1 ∧ p.1 < x) by omega), dd_f (show ¬ ((-1 : Int) = y + 1 ∧ p.2 = y + 1 - 1 ∧ p.1 < x) by omega), dd_f (show ¬ (p.2 = y + 1 ∧ (-1 : Int) = y + 1 - 1 ∧ p.1 < x) by omega)]
theorem fS_all {p : Cell} {r : List Cell} (h : dryL W H w (p :: r)) (hp : p.2 = 0) {c : Cell} (hc : RA W H w c) : fS H c.1 c.2 (p :: r) = true := by
  induction hc with
  | @ini c ho hw hx => exact fS_right h hp hx (onB_t ho).2 hw
  | @step c q ho hw ha hq ih =>
    obtain ⟨hqo, hqw⟩ := hq.on
    have h1 := onB_t ho
    have h2 := onB_t hqo
    obtain ⟨cx, cy⟩ := c
    obtain ⟨qx, qy⟩ := q
    obtain ⟨a1, a2, a3, a4⟩ := ha
    simp only at *
    rcases a4.resolve_left (by simp) with e | e
    · subst e
      by_cases hlt : qy = cy + 1
      · subst hlt
        rw [fS_ver h hp (by omega) hw hqw]; exact ih
      · have : cy = qy + 1 := by omega
        subst this
        rw [← fS_ver h hp (by omega) hqw hw]; exact ih
    · subst e
      by_cases hlt : qx = cx + 1
      · subst hlt
        rw [← fS_hor h hp (by omega) hw]; exact ih
      · have : cx = qx + 1 := by omega
        subst this
        rw [fS_hor h hp (by omega) hqw]; exact ih
/-- Never both. -/
theorem dual_no {c p : Cell} (hc : RA W H w c) (h0 : c.1 = 0) (hp : RB W H w p) (h1 : p.2 = 0) : False := by
  obtain ⟨r, hr⟩ := hp.list
  have := fS_all hr h1 hc
  rw [h0, fS_zero hr] at this; cases this
end
end Go.Proofs.Ytbhpnhcdjmcaoaa

/- Boom, plain: how many steps it is over water. -/
namespace Go.Proofs.Ytbhpnhcdjmcaoaa
open Go.RowKit
set_option linter.unusedVariables false
set_option linter.unusedSimpArgs false
/-- How many steps it is. -/
structure DistD (ini : Int → Bool) (nb : Int → List Int) (d : Int → Option Int) : Prop where
  sound : ∀ i n, d i = some n → ∃ l, isWalk ini nb (i :: l) ∧ (l.length : Int) = n
  comp : ∀ i l, isWalk ini nb (i :: l) → ∃ n, d i = some n ∧ n ≤ l.length
theorem DistD.unique {ini : Int → Bool} {nb : Int → List Int} {d d' : Int → Option Int} (h : DistD ini nb d) (h' : DistD ini nb d') : d = d' := by
  funext i
  cases hd : d i with
  | none =>
    cases hd' : d' i with
    | none => rfl
    | some n =>
      obtain ⟨l, h1, _⟩ := h'.sound i n hd'
      obtain ⟨m, h2, _⟩ := h.comp i l h1
      rw [hd] at h2; cases h2
  | some n =>
    obtain ⟨l, h1, h2⟩ := h.sound i n hd
    obtain ⟨m, h3, h4⟩ := h'.comp i l h1
    obtain ⟨l', h5, h6⟩ := h'.sound i m h3
    obtain ⟨n', h7, h8⟩ := h.comp i l' h5
    rw [hd] at h7; cases h7
    rw [h3]; congr 1; omega
theorem least_ex {p : Nat → Prop} : ∀ (n : Nat), p n → ∃ n, p n ∧ ∀ m, p m → n ≤ m
  | 0, h => ⟨0, h, fun m _ => Nat.zero_le m⟩
  | n + 1, h => by
    by_cases hl : ∃ m, m < n + 1 ∧ p m
    · obtain ⟨m, hm, hp⟩ := hl
      exact least_ex m hp
    · exact ⟨n + 1, h, fun m hm => by
        by_cases hh : n + 1 ≤ m
        · exact hh
        · exact absurd ⟨m, by omega, hm⟩ hl⟩
termination_by n => n
open Classical in
noncomputable def distO (ini : Int → Bool) (nb : Int → List Int) (i : Int) : Option Int :=
  if h : ∃ n : Nat, (∃ l, isWalk ini nb (i :: l) ∧ l.length = n) ∧ ∀ m : Nat, (∃ l, isWalk ini nb (i :: l) ∧ l.length = m) → n ≤ m then some (Classical.choose h : Nat) else none
theorem distO_is (ini : Int → Bool) (nb : Int → List Int) : DistD ini nb (distO ini nb) := by
  refine ⟨fun i n h => ?_, fun i l h => ?_⟩
  · unfold distO at h
    split at h
    · rename_i hh
      obtain ⟨⟨l, h1, h2⟩, _⟩ := Classical.choose_spec hh
      cases h
      exact ⟨l, h1, by rw [h2]⟩
    · cases h
  · obtain ⟨n, h1, h2⟩ := least_ex (p := fun n => ∃ l, isWalk ini nb (i :: l) ∧ l.length = n) l.length ⟨l, h, rfl⟩
    have hh : ∃ n : Nat, (∃ l, isWalk ini nb (i :: l) ∧ l.length = n) ∧ ∀ m : Nat, (∃ l, isWalk ini nb (i :: l) ∧ l.length = m) → n ≤ m := ⟨n, h1, h2⟩
    refine ⟨(Classical.choose hh : Nat), by unfold distO; rw [dif_pos hh], ?_⟩
    have := (Classical.choose_spec hh).2 l.length ⟨l, h, rfl⟩
    omega
def updI (d : Int → Option Int) (i n : Int) : Int → Option Int := fun j => if j = i then some n else d j
def leV (d : Int → Option Int) (a b : Int) : Prop := ∀ m n, d a = some m → d b = some n → m ≤ n
section
variable {ini : Int → Bool} {nb : Int → List Int}
/-- What a queue's round is: h: how far its cell is; pre: the neighbours that were looked at. -/
structure BI (ini : Int → Bool) (nb : Int → List Int) (d : Int → Option Int) (q : List Int) (p : Nat) (h i : Int) (pre : List Int) : Prop where
  sound : ∀ j n, d j = some n → ∃ l, isWalk ini nb (j :: l) ∧ (l.length : Int) = n
  nd : q.Nodup
  mem : ∀ j, j ∈ q ↔ ∃ n, d j = some n
  ini0 : ∀ j, ini j = true → d j = some 0
  bnd : ∀ j n, d j = some n → 0 ≤ n ∧ n < q.length
  le : ∀ j n, d j = some n → n ≤ h + 1
  ge : ∀ j ∈ q.drop p, ∀ n, d j = some n → h ≤ n
  sort : (q.drop p).Pairwise (leV d)
  done : ∀ j ∈ q.take p, ∀ k ∈ nb j, (j = i → k ∈ pre) → ∃ n m, d j = some n ∧ d k = some m ∧ m ≤ n + 1
  cur : d i = some h
  here : p ≤ q.length
structure BO (ini : Int → Bool) (nb : Int → List Int) (d : Int → Option Int) (q : List Int) (p : Nat) : Prop where
  sound : ∀ j n, d j = some n → ∃ l, isWalk ini nb (j :: l) ∧ (l.length : Int) = n
  nd : q.Nodup
  mem : ∀ j, j ∈ q ↔ ∃ n, d j = some n
  ini0 : ∀ j, ini j = true → d j = some 0
  bnd : ∀ j n, d j = some n → 0 ≤ n ∧ n < q.length
  le : ∀ a r, q.drop p = a :: r → ∀ m, d a = some m → ∀ j n, d j = some n → n ≤ m + 1
  sort : (q.drop p).Pairwise (leV d)
  done : ∀ j ∈ q.take p, ∀ k ∈ nb j, ∃ n m, d j = some n ∧ d k = some m ∧ m ≤ n + 1
  here : p ≤ q.length
theorem updI_ne {d : Int → Option Int} {k n j : Int} (h : j ≠ k) : updI d k n j = d j := by unfold updI; rw [if_neg h]
theorem BI.put {d : Int → Option Int} {q : List Int} {p : Nat} {h i : Int} {pre : List Int} {k : Int} (B : BI ini nb d q p h i pre) (hk : d k = none) (hn : k ∈ nb i) (hs : i ∈ nb k) : BI ini nb (updI d k (h + 1)) (q ++ [k]) p h i (pre ++ [k]) := by
  have hkq : k ∉ q := fun hh => by obtain ⟨n, h1⟩ := (B.mem k).1 hh; rw [hk] at h1; cases h1
  have hne : ∀ {j : Int}, j ∈ q → j ≠ k := fun hj e => hkq (e ▸ hj)
  have hnes : ∀ {j n : Int}, d j = some n → j ≠ k := fun hj e => by rw [e, hk] at hj; cases hj
  have hself : updI d k (h + 1) k = some (h + 1) := by simp [updI]
  have hdrop : (q ++ [k]).drop p = q.drop p ++ [k] := List.drop_append_of_le_length B.here
  have htake : (q ++ [k]).take p = q.take p := List.take_append_of_le_length B.here
  refine ⟨fun j n hj => ?_, ?_, fun j => ?_, fun j hj => ?_, fun j n hj => ?_, fun j n hj => ?_, fun j hj n hjn => ?_, ?_, fun j hj k' hk' hpre => ?_, ?_, by rw [List.length_append]; have := B.here; omega⟩
  · by_cases hjk : j = k
    · subst hjk
      rw [hself] at hj; cases hj
      obtain ⟨l, h1, h2⟩ := B.sound i h B.cur
      exact ⟨i :: l, ⟨hs, h1⟩, by simp; omega⟩
    · rw [updI_ne hjk] at hj; exact B.sound j n hj
  · rw [List.nodup_append]
    exact ⟨B.nd, by simp, fun a ha b hb => by rw [List.mem_singleton.1 hb]; exact hne ha⟩
  · rw [List.mem_append, List.mem_singleton]
    constructor
    · rintro (hj | rfl)
      · obtain ⟨n, h1⟩ := (B.mem j).1 hj
        exact ⟨n, by rw [updI_ne (hne hj)]; exact h1⟩
      · exact ⟨_, hself⟩
    · rintro ⟨n, hj⟩
      by_cases hjk : j = k
      · exact .inr hjk
      · rw [updI_ne hjk] at hj; exact .inl ((B.mem j).2 ⟨n, hj⟩)
  · have := B.ini0 j hj
    rw [updI_ne (hnes this)]; exact this
  · have hh := (B.bnd i h B.cur)
    rw [List.length_append]
    by_cases hjk : j = k
    · subst hjk; rw [hself] at hj; cases hj; simp; omega
    · rw [updI_ne hjk] at hj; have := B.bnd j n hj; simp; omega
  · by_cases hjk : j = k
    · subst hjk; rw [hself] at hj; cases hj; omega
    · rw [updI_ne hjk] at hj; exact B.le j n hj
  · rw [hdrop] at hj
    rcases List.mem_append.1 hj with hj | hj
    · rw [updI_ne (hne (List.mem_of_mem_drop hj))] at hjn; exact B.ge j hj n hjn
    · rw [List.mem_singleton.1 hj, hself] at hjn; cases hjn; omega
  · rw [hdrop, List.pairwise_append]
    refine ⟨List.Pairwise.imp_of_mem (fun {a b} ha hb hab m n hm hn => ?_) B.sort, by simp, fun a ha b hb m n hm hn => ?_⟩
    · rw [updI_ne (hne (List.mem_of_mem_drop ha))] at hm
      rw [updI_ne (hne (List.mem_of_mem_drop hb))] at hn
      exact hab m n hm hn
    · rw [updI_ne (hne (List.mem_of_mem_drop ha))] at hm
      rw [List.mem_singleton.1 hb, hself] at hn; cases hn
      exact B.le a m hm
  · rw [htake] at hj
    have hjq : j ∈ q := List.mem_of_mem_take hj
    by_cases hc : j = i ∧ k' = k
    · obtain ⟨rfl, rfl⟩ := hc
      exact ⟨h, h + 1, by rw [updI_ne (hne hjq)]; exact B.cur, hself, Int.le_refl _⟩
    · obtain ⟨n, m, h1, h2, h3⟩ := B.done j hj k' hk' (fun e => by
        have := hpre e
        rcases List.mem_append.1 this with hp | hp
        · exact hp
        · exact absurd ⟨e, List.mem_singleton.1 hp⟩ hc)
      exact ⟨n, m, by rw [updI_ne (hne hjq)]; exact h1, by rw [updI_ne (hnes h2)]; exact h2, h3⟩
  · rw [updI_ne (hnes B.cur)]; exact B.cur
theorem BI.keep {d : Int → Option Int} {q : List Int} {p : Nat} {h i : Int} {pre : List Int} {k : Int} (B : BI ini nb d q p h i pre) (hk : k ∈ nb i → ∃ n, d k = some n) : BI ini nb d q p h i (pre ++ [k]) := by
  refine ⟨B.sound, B.nd, B.mem, B.ini0, B.bnd, B.le, B.ge, B.sort, fun j hj k' hk' hpre => ?_, B.cur, B.here⟩
  by_cases hc : j = i ∧ k' = k
  · obtain ⟨rfl, rfl⟩ := hc
    obtain ⟨n, h1⟩ := hk hk'
    exact ⟨h, n, B.cur, h1, B.le _ _ h1⟩
  · exact B.done j hj k' hk' (fun e => by
      have := hpre e
      rcases List.mem_append.1 this with hp | hp
      · exact hp
      · exact absurd ⟨e, List.mem_singleton.1 hp⟩ hc)
theorem drop_cons {q r : List Int} {p : Nat} {i : Int} (hq : q.drop p = i :: r) : p < q.length ∧ q.drop (p + 1) = r ∧ q.take (p + 1) = q.take p ++ [i] ∧ q.getD p 0 = i := by
  have hlt : p < q.length := by
    by_cases hp : p < q.length
    · exact hp
    · rw [List.drop_eq_nil_of_le (by omega)] at hq; cases hq
  have h1 := List.drop_eq_getElem_cons hlt
  rw [hq] at h1
  injection h1 with h2 h3
  refine ⟨hlt, h3.symm, ?_, ?_⟩
  · rw [List.take_add_one, List.getElem?_eq_getElem hlt, ← h2]; rfl
  · rw [List.getD_eq_getElem?_getD, List.getElem?_eq_getElem hlt, ← h2]; rfl
theorem BO.pop {d : Int → Option Int} {q r : List Int} {p : Nat} {i : Int} (B : BO ini nb d q p) (hq : q.drop p = i :: r) : ∃ h, d i = some h ∧ BI ini nb d q (p + 1) h i [] := by
  obtain ⟨hlt, h1, h2, _⟩ := drop_cons hq
  have hiq : i ∈ q := List.mem_of_mem_drop (i := p) (by rw [hq]; simp)
  obtain ⟨h, hi⟩ := (B.mem i).1 hiq
  have hs := B.sort
  rw [hq] at hs
  obtain ⟨hs1, hs2⟩ := List.pairwise_cons.1 hs
  refine ⟨h, hi, B.sound, B.nd, B.mem, B.ini0, B.bnd, B.le i r hq h hi, fun j hj n hn => ?_, by rw [h1]; exact hs2, fun j hj k hk hpre => ?_, hi, by omega⟩
  · rw [h1] at hj; exact hs1 j hj h n hi hn
  · rw [h2] at hj
    rcases List.mem_append.1 hj with hj | hj
    · exact B.done j hj k hk
    · have := hpre (List.mem_singleton.1 hj); cases this
theorem BI.close {d : Int → Option Int} {q : List Int} {p : Nat} {h i : Int} {pre : List Int} (B : BI ini nb d q p h i pre) (hall : ∀ k ∈ nb i, k ∈ pre) : BO ini nb d q p := by
  refine ⟨B.sound, B.nd, B.mem, B.ini0, B.bnd, fun a r hq m hm j n hn => ?_, B.sort, fun j hj k hk => B.done j hj k hk (fun e => hall k (e ▸ hk)), B.here⟩
  have h1 := B.ge a (by rw [hq]; simp) m hm
  have h2 := B.le j n hn
  omega
theorem BO.dist {d : Int → Option Int} {q : List Int} {p : Nat} (B : BO ini nb d q p) (hp : q.drop p = []) (hsym : ∀ a b, b ∈ nb a → a ∈ nb b) : DistD ini nb d := by
  have ht : q.take p = q := List.take_of_length_le (List.drop_eq_nil_iff.1 hp)
  refine ⟨B.sound, ?_⟩
  intro i l
  induction l generalizing i with
  | nil => intro h; exact ⟨0, B.ini0 i h, by simp⟩
  | cons k r ih =>
    intro h
    obtain ⟨m, h1, h2⟩ := ih k h.2
    obtain ⟨n, m', h3, h4, h5⟩ := B.done k (by rw [ht]; exact (B.mem k).2 ⟨m, h1⟩) i (hsym i k h.1)
    rw [h1] at h3; cases h3
    exact ⟨m', h4, by simp; omega⟩
/-- One step nearer. -/
theorem DistD.next {d : Int → Option Int} (h : DistD ini nb d) {i n : Int} (hd : d i = some n) (h0 : 0 < n) : ∃ k ∈ nb i, d k = some (n - 1) := by
  obtain ⟨l, h1, h2⟩ := h.sound i n hd
  match l, h1, h2 with
  | [], _, h2 => simp at h2; omega
  | k :: r, h1, h2 =>
    obtain ⟨m, h3, h4⟩ := h.comp k r h1.2
    obtain ⟨l', h5, h6⟩ := h.sound k m h3
    obtain ⟨n', h7, h8⟩ := h.comp i (k :: l') ⟨h1.1, h5⟩
    rw [hd] at h7; cases h7
    simp at h2 h8
    exact ⟨k, h1.1, by rw [h3]; congr 1; omega⟩
theorem DistD.pos {d : Int → Option Int} (h : DistD ini nb d) {i n : Int} (hd : d i = some n) : 0 ≤ n := by
  obtain ⟨l, _, h2⟩ := h.sound i n hd; omega
end
/-- The first cells of a column that are wet, and the neighbours that are. -/
def iniW (W : Int) (n : Nat) (wet : Int → Bool) (col i : Int) : Bool := decide (0 ≤ i ∧ i < n) && (wet i && decide (i % W = col))
def nbW (W H : Int) (n : Nat) (wet : Int → Bool) (i : Int) : List Int := if decide (0 ≤ i ∧ i < n) && wet i then (nearL W H false i).filter wet else []
theorem iniW_in {W : Int} {n : Nat} {wet : Int → Bool} {col : Int} (i : Int) (h : iniW W n wet col i = true) : 0 ≤ i ∧ i < n := by
  unfold iniW at h; simp only [Bool.and_eq_true, decide_eq_true_eq] at h; exact h.1
theorem nbW_iff {W H : Int} {n : Nat} {wet : Int → Bool} {i k : Int} : k ∈ nbW W H n wet i ↔ (0 ≤ i ∧ i < n) ∧ wet i = true ∧ k ∈ nearL W H false i ∧ wet k = true := by
  unfold nbW
  split
  · rename_i h
    simp only [Bool.and_eq_true, decide_eq_true_eq] at h
    rw [List.mem_filter]
    exact ⟨fun hh => ⟨h.1, h.2, hh⟩, fun hh => hh.2.2⟩
  · rename_i h
    constructor
    · intro hh; cases hh
    · rintro ⟨h1, h2, _⟩; exact absurd (by rw [h2, dd_t h1]; rfl) h
theorem nbW_in {W H : Int} {n : Nat} {wet : Int → Bool} (hW : 0 < W) (hn : (n : Int) = W * H) (i k : Int) (h : k ∈ nbW W H n wet i) : (0 ≤ i ∧ i < n) ∧ 0 ≤ k ∧ k < n := by
  obtain ⟨h1, _, h2, _⟩ := nbW_iff.1 h
  have := near_in hW h2
  exact ⟨h1, by omega⟩
theorem nbW_sym {W H : Int} {n : Nat} {wet : Int → Bool} (hW : 0 < W) (hn : (n : Int) = W * H) (a b : Int) (h : b ∈ nbW W H n wet a) : a ∈ nbW W H n wet b := by
  obtain ⟨h1, h2, h3, h4⟩ := nbW_iff.1 h
  have := near_in hW h3
  exact nbW_iff.2 ⟨by omega, h4, near_symm hW h1.1 (by omega) h3, h2⟩
/-- How many steps it is to a column. -/
noncomputable def distW (W H : Int) (n : Nat) (wet : Int → Bool) (col : Int) : Int → Option Int := distO (iniW W n wet col) (nbW W H n wet)
theorem BO.len {W H : Int} {n : Nat} {wet : Int → Bool} {col : Int} (hW : 0 < W) (hn : (n : Int) = W * H) {d : Int → Option Int} {q : List Int} {p : Nat} (B : BO (iniW W n wet col) (nbW W H n wet) d q p) : q.length ≤ n ∧ ∀ x ∈ q, 0 ≤ x ∧ x < n := by
  have h : ∀ x ∈ q, 0 ≤ x ∧ x < n := fun x hx => by
    obtain ⟨m, hm⟩ := (B.mem x).1 hx
    obtain ⟨l, h1, _⟩ := B.sound x m hm
    exact walk_rng (n := n) iniW_in (nbW_in hW hn) h1 x (by simp)
  exact ⟨nodup_len n q B.nd h, h⟩
theorem BI.len {W H : Int} {n : Nat} {wet : Int → Bool} {col : Int} (hW : 0 < W) (hn : (n : Int) = W * H) {d : Int → Option Int} {q : List Int} {p : Nat} {h i : Int} {pre : List Int} (B : BI (iniW W n wet col) (nbW W H n wet) d q p h i pre) : q.length ≤ n ∧ ∀ x ∈ q, 0 ≤ x ∧ x < n := by
  have h : ∀ x ∈ q, 0 ≤ x ∧ x < n := fun x hx => by
    obtain ⟨m, hm⟩ := (B.mem x).1 hx
    obtain ⟨l, h1, _⟩ := B.sound x m hm
    exact walk_rng (n := n) iniW_in (nbW_in hW hn) h1 x (by simp)
  exact ⟨nodup_len n q B.nd h, h⟩
/-- What the column's cells give. -/
def iniQ (W : Int) (n : Nat) (wet : Int → Bool) (col : Int) (k : Nat) : List Int := ((List.range k).map (Nat.cast : Nat → Int)).filter (iniW W n wet col)
def iniD (W : Int) (n : Nat) (wet : Int → Bool) (col : Int) (k : Nat) (i : Int) : Option Int := if iniW W n wet col i && decide (i < k) then some 0 else none
theorem iniQ_t {W : Int} {n : Nat} {wet : Int → Bool} {col : Int} {k : Nat} (h : iniW W n wet col k = true) : iniQ W n wet col (k + 1) = iniQ W n wet col k ++ [(k : Int)] := by
  unfold iniQ; rw [List.range_succ, List.map_append, List.filter_append]; simp [h]
theorem iniQ_f {W : Int} {n : Nat} {wet : Int → Bool} {col : Int} {k : Nat} (h : iniW W n wet col k = false) : iniQ W n wet col (k + 1) = iniQ W n wet col k := by
  unfold iniQ; rw [List.range_succ, List.map_append, List.filter_append]; simp [h]
theorem iniQ_len (W : Int) (n : Nat) (wet : Int → Bool) (col : Int) (k : Nat) : (iniQ W n wet col k).length ≤ k := by
  unfold iniQ
  exact Nat.le_trans (List.length_filter_le _ _) (by simp)
theorem iniD_f {W : Int} {n : Nat} {wet : Int → Bool} {col : Int} {k : Nat} (h : iniW W n wet col k = false) : iniD W n wet col (k + 1) = iniD W n wet col k := by
  funext i; unfold iniD
  by_cases hi : i = k
  · subst hi; rw [h]; rfl
  · have : decide (i < ((k + 1 : Nat) : Int)) = decide (i < (k : Int)) := by rw [decide_eq_decide]; omega
    rw [this]
theorem iniD_t {W : Int} {n : Nat} {wet : Int → Bool} {col : Int} {k : Nat} (h : iniW W n wet col k = true) : iniD W n wet col (k + 1) = updI (iniD W n wet col k) k 0 := by
  funext i; unfold iniD updI
  by_cases hi : i = k
  · subst hi; rw [h]; simp; omega
  · have : decide (i < ((k + 1 : Nat) : Int)) = decide (i < (k : Int)) := by rw [decide_eq_decide]; omega
    rw [this, if_neg hi]
theorem iniB_o (W H : Int) (n : Nat) (wet : Int → Bool) (col : Int) : BO (iniW W n wet col) (nbW W H n wet) (iniD W n wet col n) (iniQ W n wet col n) 0 := by
  have hd : ∀ i m, iniD W n wet col n i = some m → iniW W n wet col i = true ∧ m = 0 := fun i m h => by
    unfold iniD at h
    split at h
    · rename_i hh
      simp only [Bool.and_eq_true] at hh
      cases h; exact ⟨hh.1, rfl⟩
    · cases h
  have hd' : ∀ i, iniW W n wet col i = true → iniD W n wet col n i = some 0 := fun i h => by
    unfold iniD; rw [h, dd_t (iniW_in i h).2]; rfl
  have hm : ∀ j, j ∈ iniQ W n wet col n ↔ iniW W n wet col j = true := fun j => by
    unfold iniQ
    rw [List.mem_filter, List.mem_map]
    constructor
    · exact fun h => h.2
    · intro h
      have := iniW_in j h
      exact ⟨⟨j.toNat, List.mem_range.2 (by omega), by simp; omega⟩, h⟩
  have hlen : ∀ j, iniW W n wet col j = true → 0 < (iniQ W n wet col n).length := fun j h => List.length_pos_of_mem ((hm j).2 h)
  refine ⟨fun j m h => ?_, ?_, fun j => ?_, hd', fun j m h => ?_, fun a r _ m h1 j m' h2 => ?_, ?_, fun j hj => by simp at hj, Nat.zero_le _⟩
  · obtain ⟨h1, rfl⟩ := hd j m h
    exact ⟨[], h1, rfl⟩
  · unfold iniQ
    refine List.Pairwise.filter _ ?_
    rw [List.pairwise_map]
    exact List.Pairwise.imp (fun {a b} h e => h (by omega)) (List.nodup_range (n := n))
  · rw [hm]
    exact ⟨fun h => ⟨0, hd' j h⟩, fun ⟨m, h⟩ => (hd j m h).1⟩
  · obtain ⟨h1, rfl⟩ := hd j m h
    have := hlen j h1; omega
  · have := (hd a m h1).2; have := (hd j m' h2).2; omega
  · refine List.pairwise_iff_getElem.2 fun _ _ _ _ _ m m' h1 h2 => ?_
    have := (hd _ m h1).2; have := (hd _ m' h2).2; omega
/-- The map that holds them. -/
def stepF (d : Int → Option Int) : MF := fun k => match k with
  | [i] => (match d i with | some w => some (.i w) | none => none)
  | _ => none
theorem stepF_some {d : Int → Option Int} {i : Int} {w : Int} (h : d i = some w) : stepF d [i] = some (.i w) := by simp only [stepF, h]
theorem stepF_none {d : Int → Option Int} {i : Int} (h : d i = none) : stepF d [i] = none := by simp only [stepF, h]
theorem stepF_upd (d : Int → Option Int) (i a : Int) : updF (stepF d) [i] (.i a) = stepF (updI d i a) := by
  funext k
  unfold updF
  match k with
  | [] => rfl
  | [j] =>
    by_cases h : j = i
    · subst h; simp [stepF, updI]
    · have : ¬ ([j] : List Int) = [i] := by simpa using h
      simp only [this, if_false, stepF, updI, h]
  | _ :: _ :: _ => simp [stepF]
theorem iniD_zero (W : Int) (n : Nat) (wet : Int → Bool) (col : Int) : (fun _ => none : MF) = stepF (iniD W n wet col 0) := by
  funext k
  match k with
  | [] => rfl
  | [j] =>
    have : iniD W n wet col 0 j = none := by
      unfold iniD
      rw [if_neg]
      intro h
      simp only [Bool.and_eq_true, decide_eq_true_eq] at h
      have := iniW_in j h.1; omega
    simp only [stepF, this]
  | _ :: _ :: _ => rfl
/-- The shortest channel that comes first: from which row, and the way. -/
def bestC (W : Int) (d : Int → Option Int) : Nat → Int
  | 0 => -1
  | k + 1 => match d (k * W) with
    | none => bestC W d k
    | some n => if bestC W d k < 0 then k * W else match d (bestC W d k) with
      | none => k * W
      | some b => if n < b then k * W else bestC W d k
theorem bestC_spec {W : Int} (hW : 0 < W) (d : Int → Option Int) : ∀ k : Nat, (bestC W d k = -1 ∧ ∀ j : Nat, j < k → d (j * W) = none) ∨ ∃ (b : Nat) (n : Int), bestC W d k = b * W ∧ b < k ∧ d (b * W) = some n
  | 0 => .inl ⟨rfl, fun j hj => by omega⟩
  | k + 1 => by
    simp only [bestC]
    cases hd : d (k * W) with
    | none =>
      rcases bestC_spec hW d k with ⟨h1, h2⟩ | ⟨b, n, h1, h2, h3⟩
      · exact .inl ⟨h1, fun j hj => by
          by_cases hjk : j = k
          · rw [hjk]; exact hd
          · exact h2 j (by omega)⟩
      · exact .inr ⟨b, n, h1, by omega, h3⟩
    | some m =>
      rcases bestC_spec hW d k with ⟨h1, h2⟩ | ⟨b, n, h1, h2, h3⟩
      · exact .inr ⟨k, m, by simp [h1], by omega, hd⟩
      · have h0 : ¬ ((b : Int) * W < 0) := by have : 0 ≤ (b : Int) * W := Int.mul_nonneg (by omega) (by omega); omega
        rw [h1]
        simp only [if_neg h0, h3]
        split
        · exact .inr ⟨k, m, rfl, by omega, hd⟩
        · exact .inr ⟨b, n, rfl, by omega, h3⟩
def nextC (W H : Int) (d : Int → Option Int) (i m : Int) : Option Int := (nearL W H false i).find? fun k => decide (d k = some m)
def pathC (W H : Int) (d : Int → Option Int) : Nat → Int → List Int
  | 0, i => [i]
  | f + 1, i => match d i with
    | none => [i]
    | some n => if n > 0 then (match nextC W H d i (n - 1) with
      | none => [i]
      | some k => i :: pathC W H d f k) else [i]
/-- The channel. -/
def chanD (W H : Int) (d : Int → Option Int) : Option (List Int) := match d (bestC W d H.toNat) with
  | none => none
  | some n => some (pathC W H d n.toNat (bestC W d H.toNat))
noncomputable def chanO (W H : Int) (n : Nat) (wet : Int → Bool) : Option (List Int) := chanD W H (distW W H n wet (W - 1))
theorem nextC_some {W H : Int} {n : Nat} {wet : Int → Bool} {col : Int} {i m : Int} (h : distW W H n wet col i = some m) (h0 : 0 < m) : ∃ k, nextC W H (distW W H n wet col) i (m - 1) = some k ∧ distW W H n wet col k = some (m - 1) ∧ k ∈ nearL W H false i := by
  obtain ⟨k, hk, hd⟩ := (distO_is (iniW W n wet col) (nbW W H n wet)).next h h0
  have hk2 := (nbW_iff.1 hk).2.2.1
  cases hf : nextC W H (distW W H n wet col) i (m - 1) with
  | none =>
    have := List.find?_eq_none.1 hf k hk2
    simp [distW, hd] at this
  | some k' =>
    have := List.find?_some hf
    simp only [decide_eq_true_eq] at this
    exact ⟨k', rfl, this, List.mem_of_find?_eq_some hf⟩
theorem distW_dom {W H : Int} {n : Nat} {wet : Int → Bool} {col : Int} (hW : 0 < W) (hn : (n : Int) = W * H) {i m : Int} (h : distW W H n wet col i = some m) : (0 ≤ i ∧ i < n) ∧ wet i = true := by
  obtain ⟨l, h1, _⟩ := (distO_is (iniW W n wet col) (nbW W H n wet)).sound i m h
  refine ⟨walk_rng (n := n) iniW_in (nbW_in hW hn) h1 i (by simp), ?_⟩
  match l, h1 with
  | [], h1 => 
    have h1 : iniW W n wet col i = true := h1
    unfold iniW at h1; simp only [Bool.and_eq_true] at h1; exact h1.2.1
  | k :: r, h1 => exact (nbW_iff.1 h1.1).2.1
/-- The steps are fewer than the cells. -/
theorem distW_bd {W H : Int} {n : Nat} {wet : Int → Bool} {col : Int} (hW : 0 < W) (hn : (n : Int) = W * H) {i m : Int} (h : distW W H n wet col i = some m) : 0 ≤ m ∧ m < n := by
  have hD := distO_is (iniW W n wet col) (nbW W H n wet)
  refine ⟨hD.pos h, ?_⟩
  obtain ⟨l, h1, _⟩ := hD.sound i m h
  obtain ⟨l', g1, g2, _, _⟩ := walk_short (cost := fun _ => 0) (fun _ => Int.le_refl _) l.length (Nat.le_refl _) h1
  have hl := nodup_len n _ g2 (walk_rng (n := n) iniW_in (nbW_in hW hn) g1)
  obtain ⟨m', h3, h4⟩ := hD.comp i l' g1
  have h : distO (iniW W n wet col) (nbW W H n wet) i = some m := h
  rw [h] at h3; cases h3
  simp at hl; omega
end Go.Proofs.Ytbhpnhcdjmcaoaa

