/- Texts of the proof, part 5: P10, P11, P17, X6, P18, D4, D5, L8. -/
import Derived.Test.YtbhpnhcdjmcaoaaJ4
import Derived.WalkKit
import Derived.Below
import Derived.Laws.OwnMore
import Derived.Maps.AppendAt
import Derived.Laws.IdiomCopy
import Derived.Laws.CopyRow
import Derived.IntWalk
import Derived.StillTail
import Derived.Scope
import Derived.ChangeKeysEq
import Derived.Laws.Small
import Derived.OrdersIn
import Derived.TacticsIn
import Derived.OwnWalkIn
import Derived.RangeFuncNested
import Derived.RangeFuncLeaves
import Derived.RangeFuncRecord
import Derived.Maps.Keyed
import Derived.Maps.RangeRun
import Derived.DeepKeys4
import Derived.Test.YtbhpnhcdjmcaoaaRows
import Derived.KernelRfl
import Derived.ProofKit
import Derived.OpenShut
import Derived.Lib.SmallJoins
import Derived.Deep.Slices
/- Boom, plain: barriers of the charts that are upside down, with dead cells, with dry booms. -/
namespace Go.Proofs.Ytbhpnhcdjmcaoaa
open Go.RowKit
set_option linter.unusedVariables false
set_option linter.unusedSimpArgs false
theorem chgL_get {cs : List Int} (g : Int → Int) {i : Int} (h0 : 0 ≤ i) (h : i < cs.length) : (chgL cs g).getD i.toNat 0 = g i := by
  have hk : i.toNat < cs.length := by omega
  unfold chgL
  rw [List.getD_eq_getElem?_getD, List.getElem?_map, List.getElem?_eq_getElem (by simpa using hk)]
  simp only [Option.map_some, Option.getD_some, List.getElem_range]
  congr 1; omega
section
variable {W H : Int} {cs : List Int}
theorem CO.chg (hok : CO W H cs) {g : Int → Int} (hg : ∀ i : Int, 0 ≤ i → i < cs.length → -1 ≤ g i ∧ g i ≤ 100) : CO W H (chgL cs g) :=
  ⟨hok.w, hok.h, by rw [chgL_len]; exact hok.len, fun x hx => by
    unfold chgL at hx
    obtain ⟨i, hi, rfl⟩ := List.mem_map.1 hx
    have := List.mem_range.1 hi
    exact hg _ (by omega) (by omega)⟩
theorem CO.get (hok : CO W H cs) {i : Int} (h0 : 0 ≤ i) (h : i < cs.length) : -1 ≤ cs.getD i.toNat 0 ∧ cs.getD i.toNat 0 ≤ 100 := by
  have hk : i.toNat < cs.length := by omega
  rw [List.getD_eq_getElem?_getD, List.getElem?_eq_getElem hk]
  exact hok.cost _ (List.getElem_mem hk)
theorem CO.turn (hok : CO W H cs) : CO W H (chgL cs (turnG W H cs)) := hok.chg fun i h0 h => by
  have hw := hok.w
  have := turnI_bd (W := W) (H := H) (by omega) h0 (by have := hok.len; omega)
  exact hok.get this.1 (by have := hok.len; omega)
theorem CO.str (hok : CO W H cs) (most : Int) : CO W H (chgL cs (strG cs most)) := hok.chg fun i h0 h => by
  have := hok.get h0 h
  unfold strG; split <;> omega
theorem CO.dry (hok : CO W H cs) (bs : List Cell) : CO W H (chgL cs (dryG W H cs bs)) := hok.chg fun i h0 h => by
  have := hok.get h0 h
  unfold dryG; split <;> omega
def tp (H : Int) (p : Cell) : Cell := (p.1, H - 1 - p.2)
theorem sumC_eq (W : Int) (cs : List Int) (l : List Cell) : sumC W cs l = (l.map fun p => cstI cs (idxU W p)).sum := by unfold sumC sumK; rw [List.take_length]
theorem BarP.mem {l : List Cell} (hb : BarP W H cs l) {p : Cell} (h : p ∈ l) : onB W H p.1 p.2 = true ∧ ¬ cs.getD (idxU W p).toNat 0 = 0 := by
  obtain ⟨j, hj, rfl⟩ := List.mem_iff_getElem.1 h
  have h1 := hb.on j hj
  have h2 := hb.hold j hj
  have hg : l.getD j cz = l[j] := by rw [List.getD_eq_getElem?_getD, List.getElem?_eq_getElem hj]; rfl
  rw [hg] at h1 h2
  exact ⟨h1, h2⟩
end
end Go.Proofs.Ytbhpnhcdjmcaoaa

/- Boom, plain: the booms of a list, and the chart in which those of a barrier are land. -/
namespace Go.Proofs.Ytbhpnhcdjmcaoaa
open Go.RowKit
set_option linter.unusedVariables false
set_option linter.unusedSimpArgs false
def boomsL (W : Int) (cs : List Int) : List Cell := ((List.range cs.length).filter fun i => decide (cs.getD i 0 > 0)).map fun i : Nat => cellI W (i : Int)
def cellsF (W : Int) (cs : List Int) (l : List Cell) : List Cell := (boomsL W cs).filter fun p => decide (p ∈ l)
/-- In order. -/
def ltC (a b : Cell) : Prop := a.2 < b.2 ∨ (a.2 = b.2 ∧ a.1 < b.1)
section
variable {W H : Int} {cs : List Int}
theorem cellI_lt (hW : 0 < W) {i j : Int} (hi : 0 ≤ i) (h : i < j) : ltC (cellI W i) (cellI W j) := by
  have a1 := Int.emod_nonneg i (show W ≠ 0 by omega)
  have a2 := Int.emod_lt_of_pos i hW
  have a3 := Int.mul_ediv_add_emod i W
  have b1 := Int.emod_nonneg j (show W ≠ 0 by omega)
  have b2 := Int.emod_lt_of_pos j hW
  have b3 := Int.mul_ediv_add_emod j W
  have h1 : i / W ≤ j / W := Int.ediv_le_ediv hW (by omega)
  unfold ltC cellI
  simp only
  by_cases h2 : i / W = j / W
  · rw [h2] at a3
    exact .inr ⟨h2, by omega⟩
  · exact .inl (by omega)
theorem booms_sorted (hW : 0 < W) : (boomsL W cs).Pairwise ltC := by
  unfold boomsL
  rw [List.pairwise_map]
  refine List.Pairwise.filter _ ?_
  exact List.Pairwise.imp (fun {a b} (h : a < b) => cellI_lt hW (by omega) (by omega)) List.pairwise_lt_range
theorem booms_mem (hok : CO W H cs) {p : Cell} : p ∈ boomsL W cs ↔ onB W H p.1 p.2 = true ∧ cs.getD (idxU W p).toNat 0 > 0 := by
  have hW := hok.w
  have hl := hok.len
  unfold boomsL
  rw [List.mem_map]
  constructor
  · rintro ⟨i, hi, rfl⟩
    rw [List.mem_filter, List.mem_range, decide_eq_true_eq] at hi
    have h1 := cellI_idx (W := W) (H := H) (i := (i : Int)) (by omega) (by omega) (by omega)
    refine ⟨h1.1, ?_⟩
    rw [h1.2, Int.toNat_natCast]; exact hi.2
  · rintro ⟨h1, h2⟩
    have h3 := idxU_in hok h1
    refine ⟨(idxU W p).toNat, ?_, ?_⟩
    · rw [List.mem_filter, List.mem_range, decide_eq_true_eq]
      exact ⟨by omega, h2⟩
    · have : (((idxU W p).toNat : Nat) : Int) = idxU W p := by omega
      rw [this]
      exact Prod.ext h3.2.2.2 h3.2.2.1
/-- Booms in order are booms of the chart. -/
theorem okB_of (hok : CO W H cs) {bs : List Cell} (hs : bs.Pairwise ltC) (hm : ∀ p ∈ bs, onB W H p.1 p.2 = true ∧ cs.getD (idxU W p).toNat 0 > 0) : okB W H cs bs = true := by
  unfold okB okBk
  rw [List.all_eq_true]
  intro k hk
  have hk : k < bs.length := by simpa using hk
  have hg : bs.getD k (0, 0) = bs[k] := by rw [List.getD_eq_getElem?_getD, List.getElem?_eq_getElem hk]; rfl
  obtain ⟨h1, h2⟩ := hm _ (List.getElem_mem hk)
  have h3 := idxU_in hok h1
  unfold badK
  rw [hg, (idxC_mod h1).1]
  simp only [Bool.not_eq_true', Bool.or_eq_false_iff, Bool.and_eq_false_iff, decide_eq_false_iff_not]
  refine ⟨by omega, by omega, ?_⟩
  by_cases hk0 : k = 0
  · exact .inl (by omega)
  · right
    have hg1 : bs.getD (k - 1) (0, 0) = bs[k - 1] := by rw [List.getD_eq_getElem?_getD, List.getElem?_eq_getElem (by omega)]; rfl
    rw [hg1, cmp_ge]
    have := (List.pairwise_iff_getElem.1 hs) (k - 1) k (by omega) hk (by omega)
    unfold ltC at this
    omega
theorem cellsF_ok (hok : CO W H cs) (l : List Cell) : okB W H cs (cellsF W cs l) = true :=
  okB_of hok (List.Pairwise.filter _ (booms_sorted (by have := hok.w; omega))) fun p hp => (booms_mem hok).1 (List.mem_filter.1 hp).1
theorem boomF_mem {bs : List Cell} (hon : ∀ p ∈ bs, onB W H p.1 p.2 = true) {p : Cell} (h : onB W H p.1 p.2 = true) : boomF W H bs (idxU W p) = true ↔ p ∈ bs := by
  unfold boomF boomP
  rw [List.take_length, List.any_eq_true]
  constructor
  · rintro ⟨q, hq, he⟩
    rw [decide_eq_true_eq, ← (idxC_mod h).1] at he
    rw [idxC_inj h (hon q hq) he]; exact hq
  · intro hp
    exact ⟨p, hp, by rw [decide_eq_true_eq, (idxC_mod h).1]⟩
end
end Go.Proofs.Ytbhpnhcdjmcaoaa

/- Boom, plain: booms block exactly if there is a barrier of them and of land. -/
namespace Go.Proofs.Ytbhpnhcdjmcaoaa
open Go.RowKit
set_option linter.unusedVariables false
set_option linter.unusedSimpArgs false
section
variable {W H : Int} {cs : List Int}
/-- What is wet, cell by cell. -/
def wetC (W : Int) (wet : Int → Bool) (p : Cell) : Bool := wet (idxU W p)
theorem near_adj {e : Bool} {p q : Cell} (hp : onB W H p.1 p.2 = true) (hq : onB W H q.1 q.2 = true) (h : adj e p q) : idxU W p ∈ nearL W H e (idxU W q) := by
  have := (near_iff (e := e) hp hq).2 h
  rwa [(idxC_mod hp).1, (idxC_mod hq).1] at this
theorem ra_walk (hok : CO W H cs) {wet : Int → Bool} {p : Cell} (h : RA W H (wetC W wet) p) : ∃ l, isWalk (iniW W cs.length wet (W - 1)) (nbW W H cs.length wet) (idxU W p :: l) := by
  induction h with
  | @ini p ho hw hx =>
    have hi := idxU_in hok ho
    refine ⟨[], ?_⟩
    show iniW W cs.length wet (W - 1) (idxU W p) = true
    unfold iniW
    rw [dd_t ⟨hi.1, hi.2.1⟩, show wet (idxU W p) = true from hw, dd_t (by rw [hi.2.2.2]; exact hx)]; rfl
  | @step p q ho hw ha hq ih =>
    obtain ⟨l, hl⟩ := ih
    have hi := idxU_in hok ho
    exact ⟨idxU W q :: l, nbW_iff.2 ⟨⟨hi.1, hi.2.1⟩, hw, near_adj hq.on.1 ho (adj_symm ha), hq.on.2⟩, hl⟩
theorem idx_cellI (hok : CO W H cs) {i : Int} (h0 : 0 ≤ i) (h : i < cs.length) : onB W H (cellI W i).1 (cellI W i).2 = true ∧ idxU W (cellI W i) = i :=
  cellI_idx (by have := hok.w; omega) h0 (by have := hok.len; omega)
theorem adj_near (hok : CO W H cs) {e : Bool} {i k : Int} (hi : 0 ≤ i ∧ i < cs.length) (hk : 0 ≤ k ∧ k < cs.length) (h : k ∈ nearL W H e i) : adj e (cellI W k) (cellI W i) := by
  obtain ⟨a1, a2⟩ := idx_cellI hok hi.1 hi.2
  obtain ⟨b1, b2⟩ := idx_cellI hok hk.1 hk.2
  rw [← (near_iff b1 a1), (idxC_mod a1).1, (idxC_mod b1).1, a2, b2]; exact h
theorem walk_ra (hok : CO W H cs) {wet : Int → Bool} : ∀ {l : List Int} {i : Int}, isWalk (iniW W cs.length wet (W - 1)) (nbW W H cs.length wet) (i :: l) → RA W H (wetC W wet) (cellI W i)
  | [], i, h => by
    have h : iniW W cs.length wet (W - 1) i = true := h
    unfold iniW at h
    simp only [Bool.and_eq_true, decide_eq_true_eq] at h
    obtain ⟨h1, h2, h3⟩ := h
    obtain ⟨a1, a2⟩ := idx_cellI hok h1.1 h1.2
    exact .ini a1 (by unfold wetC; rw [a2]; exact h2) h3
  | k :: r, i, h => by
    obtain ⟨h1, h2, h3, h4⟩ := nbW_iff.1 h.1
    have hk := (nbW_in (by have := hok.w; omega) hok.len i k h.1).2
    obtain ⟨a1, a2⟩ := idx_cellI hok h1.1 h1.2
    exact .step a1 (by unfold wetC; rw [a2]; exact h2) (adj_symm (adj_near hok h1 hk h3)) (walk_ra hok h.2)
/-- There is a channel exactly if water leads from one shore to the other. -/
theorem chan_some {wet : Int → Bool} (hok : CO W H cs) : (∃ l, chanO W H cs.length wet = some l) ↔ ∃ p, RA W H (wetC W wet) p ∧ p.1 = 0 := by
  have hW : 0 < W := by have := hok.w; omega
  have hD := distO_is (iniW W cs.length wet (W - 1)) (nbW W H cs.length wet)
  obtain ⟨h0, rfl⟩ : ∃ h0 : Nat, H = h0 := ⟨H.toNat, by have := hok.h; omega⟩
  constructor
  · rintro ⟨l, h⟩
    unfold chanO chanD at h
    rw [Int.toNat_natCast] at h
    cases hd : distW W h0 cs.length wet (W - 1) (bestC W (distW W h0 cs.length wet (W - 1)) h0) with
    | none => rw [hd] at h; cases h
    | some m =>
      obtain ⟨l', h1, _⟩ := hD.sound _ _ hd
      rcases bestC_spec hW (distW W h0 cs.length wet (W - 1)) h0 with ⟨h2, _⟩ | ⟨b, n, h2, h3, h4⟩
      · rw [h2] at hd
        have := (distW_dom hW hok.len hd).1; omega
      · refine ⟨_, walk_ra hok h1, ?_⟩
        rw [h2]
        show (b : Int) * W % W = 0
        exact Int.mul_emod_left _ _
  · rintro ⟨p, h1, h2⟩
    obtain ⟨l, hl⟩ := ra_walk hok h1
    obtain ⟨n, hn, _⟩ := hD.comp _ _ hl
    have ho := onB_t h1.on.1
    have hi : idxU W p = (p.2.toNat : Int) * W := by unfold idxU; rw [h2, Int.toNat_of_nonneg ho.2.1]; omega
    have hn : distW W h0 cs.length wet (W - 1) ((p.2.toNat : Int) * W) = some n := by rw [← hi]; exact hn
    unfold chanO chanD
    rw [Int.toNat_natCast]
    rcases bestC_spec hW (distW W h0 cs.length wet (W - 1)) h0 with ⟨h3, h4⟩ | ⟨b, m, h3, h4, h5⟩
    · have := h4 p.2.toNat (by omega)
      rw [this] at hn; cases hn
    · rw [h3, h5]; exact ⟨_, rfl⟩
/-- What holds, cell by cell. -/
def dryC (W : Int) (cs : List Int) (p : Cell) : Bool := !hldI cs (idxU W p)
theorem dryC_f {p : Cell} : dryC W cs p = false ↔ ¬ cs.getD (idxU W p).toNat 0 = 0 := by
  unfold dryC hldI
  rw [Bool.not_eq_false', decide_eq_true_eq]
theorem dry_loose : ∀ {l : List Cell}, dryL W H (dryC W cs) l → looseL W H cs l
  | [p], h => ⟨h.1, dryC_f.1 h.2.1, h.2.2⟩
  | p :: q :: r, h => ⟨h.1.1, dryC_f.1 h.1.2.1, adj_symm h.1.2.2, dry_loose h.2⟩
theorem loose_rb : ∀ {r : List Cell} {p : Cell}, looseL W H cs (p :: r) → RB W H (dryC W cs) p
  | [], p, h => .ini h.1 (dryC_f.2 h.2.1) h.2.2
  | q :: r, p, h => .step h.1 (dryC_f.2 h.2.1) (adj_symm h.2.2.1) (loose_rb h.2.2.2)
theorem bar_rb {l : List Cell} (h : BarP W H cs l) : ∃ p, RB W H (dryC W cs) p ∧ p.2 = 0 := by
  have h1 := h.len
  have h2 := bar_loose h (l.length - 1) 0 (by omega)
  have h3 := (h.top 0 (by omega)).2 rfl
  match l, h2, h3 with
  | p :: r, h2, h3 => exact ⟨p, loose_rb h2, h3⟩
theorem bar_some (hok : CO W H cs) : (∃ q, barO W H cs = some q) ↔ ∃ p, RB W H (dryC W cs) p ∧ p.2 = 0 := by
  constructor
  · rintro ⟨⟨l, w⟩, h⟩
    exact bar_rb (bar_is hok h).1
  · rintro ⟨p, h1, h2⟩
    obtain ⟨r, hr⟩ := h1.list
    obtain ⟨l, w, h3, _⟩ := loose_least hok (dry_loose hr) h2
    exact ⟨_, h3⟩
/-- Water and what holds are each other's contrary. -/
theorem dual (hok : CO W H cs) {cs' : List Int} (hok' : CO W H cs') {wet : Int → Bool} (h : ∀ p : Cell, onB W H p.1 p.2 = true → hldI cs' (idxU W p) = !wet (idxU W p)) : chanO W H cs.length wet = none ↔ ∃ q, barO W H cs' = some q := by
  have hW : 0 < W := by have := hok.w; omega
  have hH : 0 < H := by have := hok.h; omega
  have he : ∀ p : Cell, onB W H p.1 p.2 = true → dryC W cs' p = wetC W wet p := fun p hp => by unfold dryC wetC; rw [h p hp, Bool.not_not]
  have rb1 : ∀ {p : Cell}, RB W H (dryC W cs') p → RB W H (wetC W wet) p := fun {p} hr => by
    induction hr with
    | ini ho hw hx => exact .ini ho (by rw [← he _ ho]; exact hw) hx
    | step ho hw ha hq ih => exact .step ho (by rw [← he _ ho]; exact hw) ha ih
  have rb2 : ∀ {p : Cell}, RB W H (wetC W wet) p → RB W H (dryC W cs') p := fun {p} hr => by
    induction hr with
    | ini ho hw hx => exact .ini ho (by rw [he _ ho]; exact hw) hx
    | step ho hw ha hq ih => exact .step ho (by rw [he _ ho]; exact hw) ha ih
  rw [bar_some hok']
  constructor
  · intro hn
    rcases dual_ex (w := wetC W wet) hW hH with h1 | ⟨p, h1, h2⟩
    · obtain ⟨l, hl⟩ := (chan_some hok).2 h1
      rw [hn] at hl; cases hl
    · exact ⟨p, rb2 h1, h2⟩
  · rintro ⟨p, h1, h2⟩
    cases hc : chanO W H cs.length wet with
    | none => rfl
    | some l =>
      obtain ⟨c, h3, h4⟩ := (chan_some hok).1 ⟨l, hc⟩
      exact (dual_no h3 h4 (rb1 h1) h2).elim
end
end Go.Proofs.Ytbhpnhcdjmcaoaa

/- Boom, the laws: the chart without other booms, and what booms cost. -/
namespace Go.Proofs.Ytbhpnhcdjmcaoaa
open Go.RowKit
set_option linter.unusedVariables false
set_option linter.unusedSimpArgs false
def kpB (W : Int) (bs : List Cell) (k : Int) (j : Nat) : Bool := (bs.take j).any fun p => decide (idxU W p = k)
def deadG (W : Int) (cs : List Int) (bs : List Cell) (i : Int) : Int := if (decide (cs.getD i.toNat 0 ≤ 0) || kpB W bs i bs.length) = true then cs.getD i.toNat 0 else 0
def totK (W : Int) (cs : List Int) (l : List Cell) (k : Nat) : Int := ((l.take k).map fun p => cs.getD (idxU W p).toNat 0).sum
def totC (W : Int) (cs : List Int) (l : List Cell) : Int := (l.map fun p => cs.getD (idxU W p).toNat 0).sum
theorem totK_succ {W : Int} {cs : List Int} {l : List Cell} {k : Nat} (h : k < l.length) : totK W cs l (k + 1) = totK W cs l k + cs.getD (idxU W (l.getD k (0, 0))).toNat 0 := by
  unfold totK
  rw [List.take_add_one, show l[k]?.toList = [l.getD k (0, 0)] by rw [List.getElem?_eq_getElem h, List.getD_eq_getElem?_getD, List.getElem?_eq_getElem h]; rfl, List.map_append, List.sum_append]
  simp
theorem totK_bd {W : Int} {cs : List Int} {l : List Cell} (hc : ∀ x ∈ cs, -1 ≤ x ∧ x ≤ 100) : ∀ k : Nat, -(k : Int) ≤ totK W cs l k ∧ totK W cs l k ≤ 100 * k
  | 0 => by simp [totK]
  | k + 1 => by
    have ih := totK_bd (W := W) (l := l) hc k
    by_cases h : k < l.length
    · rw [totK_succ h]
      have : -1 ≤ cs.getD (idxU W (l.getD k (0, 0))).toNat 0 ∧ cs.getD (idxU W (l.getD k (0, 0))).toNat 0 ≤ 100 := by
        generalize (idxU W (l.getD k (0, 0))).toNat = i
        rw [List.getD_eq_getElem?_getD]
        cases hh : cs[i]? with
        | none => simp
        | some x => exact hc x (List.mem_of_getElem? hh)
      omega
    · have : totK W cs l (k + 1) = totK W cs l k := by unfold totK; rw [List.take_of_length_le (by omega), List.take_of_length_le (by omega)]
      rw [this]; omega
set_option maxRecDepth 10000 in
set_option maxHeartbeats 8000000 in
theorem total_spec (W H : Int) (cs : List Int) (bs : List Cell) (hok : CO W H cs) (hon : ∀ k, k < bs.length → onB W H (bs.getD k (0, 0)).1 (bs.getD k (0, 0)).2 = true) (hb : bs.length ≤ 300) :
    Spec Try.prog 43 [chR W H cs.length, V.c (.sl 1 bs.length)] [⟨0, .ro 0, cs.map C.i⟩, ⟨1, .ro 0, cellC bs⟩] 2 (Is (V.i (totC W cs bs))) := by
  have hlm : (cs.map C.i).length = cs.length := by simp
  have hcb : (cellC bs).length = 2 * bs.length := cellC_len bs
  obtain ⟨hW, hH, hcl, hcost⟩ := hok
  have hok : CO W H cs := ⟨hW, hH, hcl, hcost⟩
  have hn : (cs.length : Int) ≤ 100 := by have := Int.mul_le_mul hW.2 hH.2 (by omega) (by omega : (0:Int) ≤ 10); omega
  have hend : totC W cs bs = totK W cs bs bs.length := by unfold totC totK; rw [List.take_length]
  rw [hend]
  refine Spec.of tok Try.func43 rfl rfl rfl fun n0 cx => vc_ok tok ?_
  repeat ((conv => whnf); first | refine fun (K' : K3) hK' => ?_ | (refine hK' _ _ _ ?_; clear hK' K'))
  refine Tri.loop (γ := Nat) (fun k => k ≤ bs.length) (fun k => [(2, V.c (.ptr 2 0)), (5, V.i (totK W cs bs k)), (8, V.c (.sl 1 bs.length)), (9, V.i bs.length), (10, V.i (k : Nat))])
    (fun k => [⟨2, .own 24, [C.i W, C.i H, .sl 0 cs.length]⟩, ⟨0, .ro 0, cs.map C.i⟩, ⟨1, .ro 0, cellC bs⟩]) 3 (fun k => bs.length - k) 0 (R0 := []) ?_ ?_ ?_
  · omega
  · skip
    refine ⟨?_, ?_, rfl, rfl, by exact Nat.le_of_ble_eq_true rfl⟩
    · repeat (first | exact trivial | (refine And.intro (covS_syn (by rfl) rfl (by first | exact trivial | exact Nat.le_of_ble_eq_true rfl)) ?_))
    · repeat (first | exact trivial | (refine And.intro (covE_id (Nat.le_of_ble_eq_true rfl) (by first | exact wf_ints _ _ | first | exact wf_cells _ _ | simp [C.wf]) rfl (by rfl)) ?_))
  · intro k hk
    refine vc_ok tok ?_
    have hbd := totK_bd (W := W) (l := bs) hcost k
    by_cases hlt : k < bs.length
    · have hld2 := cellT (l := bs) (k := k) rfl hlt
      have ho := onB_t (hon k hlt)
      have hidx := idxU_in hok (hon k hlt)
      have hts := totK_succ (W := W) (cs := cs) hlt
      obtain ⟨p, hp⟩ : ∃ p, p = bs.getD k (0, 0) := ⟨_, rfl⟩
      rw [← hp] at hld2 ho hts hidx
      have hpw : 0 ≤ p.2 * W ∧ p.2 * W ≤ 100 := ⟨Int.mul_nonneg (by omega) (by omega), by have := Int.mul_le_mul (show p.2 ≤ 10 by omega) hW.2 (by omega) (by omega : (0:Int) ≤ 10); omega⟩
      have he : p.2 * W + p.1 = idxU W p := rfl
      have hld := intLz (l := cs) (k := (idxU W p).toNat) (z := p.2 * W + p.1) (by omega) (by omega)
      have hx := CO.get hok hidx.1 hidx.2.1
      obtain ⟨x, hxe⟩ : ∃ x, x = cs.getD (idxU W p).toNat 0 := ⟨_, rfl⟩
      rw [← hxe] at hld hts hx
      repeat ((conv => whnf); first | (refine And.intro (by first | omega | exact Nat.le_of_ble_eq_true rfl | (dsimp only [inK]; omega)) ?_) | with_reducible refine ld (hld2) ?_ | with_reducible refine ld (hld) ?_ | refine Exists.intro _ (And.intro rfl ?_) | refine br_t (by omega) ?_ | refine fun (K' : K3) hK' => ?_ | (refine hK' _ _ _ ?_; clear hK' K'))
      refine ⟨k + 1, [], by omega, by omega, ?_⟩
      refine ⟨?_, ?_, rfl, rfl, by exact Nat.le_of_ble_eq_true rfl⟩
      · repeat (first | exact trivial | (refine And.intro (covS_syn (by first | rfl | (refine congrArg some (congrArg V.i ?_); first | omega | exact hts.symm)) rfl (by first | exact trivial | exact Nat.le_of_ble_eq_true rfl)) ?_))
      · repeat (first | exact trivial | (refine And.intro (covE_id (Nat.le_of_ble_eq_true rfl) (by first | exact wf_ints _ _ | first | exact wf_cells _ _ | simp [C.wf]) rfl (by rfl)) ?_))
    · have hkn : k = bs.length := by omega
      subst hkn
      repeat ((conv => whnf); first | refine br_f (by omega) ?_ | refine fun (K' : K3) hK' => ?_ | (refine hK' _ _ _ ?_; clear hK' K'))
      intro ρ; rfl
end Go.Proofs.Ytbhpnhcdjmcaoaa

/- Boom, plain: sets of booms that block, and what they cost. -/
namespace Go.Proofs.Ytbhpnhcdjmcaoaa
open Go.RowKit
set_option linter.unusedVariables false
set_option linter.unusedSimpArgs false
theorem cst_pos' (cs : List Int) (i : Int) : 0 ≤ cstI cs i := by unfold cstI; split <;> omega
section
variable {W H : Int} {cs : List Int}
theorem okB_mem (hW : 0 < W) {bs : List Cell} (h : okB W H cs bs = true) {p : Cell} (hp : p ∈ bs) : onB W H p.1 p.2 = true ∧ cs.getD (idxU W p).toNat 0 > 0 := by
  obtain ⟨k, hk, rfl⟩ := List.getElem_of_mem hp
  have hon := okB_on hW h k hk
  have e : bs.getD k (0, 0) = bs[k] := by rw [List.getD_eq_getElem?_getD, List.getElem?_eq_getElem hk]; rfl
  rw [e] at hon
  refine ⟨hon, ?_⟩
  unfold okB okBk at h
  have := List.all_eq_true.1 h k (List.mem_range.2 hk)
  unfold badK at this
  simp only [Bool.not_eq_true', Bool.or_eq_false_iff, decide_eq_false_iff_not] at this
  have h2 := this.2.1
  rw [e, (idxC_mod hon).1] at h2
  omega
theorem kp_iff {bs : List Cell} {i : Int} : kpB W bs i bs.length = true ↔ ∃ p ∈ bs, idxU W p = i := by
  unfold kpB
  rw [List.take_length, List.any_eq_true]
  simp
theorem idxU_inj (hok : CO W H cs) {p q : Cell} (hp : onB W H p.1 p.2 = true) (hq : onB W H q.1 q.2 = true) (h : idxU W p = idxU W q) : p = q := by
  refine idxC_inj hp hq ?_
  rw [(idxC_mod hp).1, (idxC_mod hq).1]; exact h
theorem CO.dead (hok : CO W H cs) (bs : List Cell) : CO W H (chgL cs (deadG W cs bs)) := hok.chg fun i h0 h => by
  unfold deadG
  have := hok.get h0 h
  split <;> omega
theorem dead_at (hok : CO W H cs) (bs : List Cell) {p : Cell} (hp : onB W H p.1 p.2 = true) : (chgL cs (deadG W cs bs)).getD (idxU W p).toNat 0 = if (decide (cs.getD (idxU W p).toNat 0 ≤ 0) || kpB W bs (idxU W p) bs.length) = true then cs.getD (idxU W p).toNat 0 else 0 := by
  have hi := idxU_in hok hp
  rw [chgL_get _ hi.1 hi.2.1]; rfl
theorem kp_mem (hok : CO W H cs) {bs : List Cell} (hon : ∀ p ∈ bs, onB W H p.1 p.2 = true) {p : Cell} (hp : onB W H p.1 p.2 = true) : kpB W bs (idxU W p) bs.length = decide (p ∈ bs) := by
  rw [Bool.eq_iff_iff, kp_iff, decide_eq_true_eq]
  exact ⟨fun ⟨q, h1, h2⟩ => by rw [← idxU_inj hok (hon q h1) hp h2]; exact h1, fun h => ⟨p, h, rfl⟩⟩
theorem bm_mem (hok : CO W H cs) {bs : List Cell} (hon : ∀ p ∈ bs, onB W H p.1 p.2 = true) {p : Cell} (hp : onB W H p.1 p.2 = true) : boomF W H bs (idxU W p) = decide (p ∈ bs) := by
  rw [Bool.eq_iff_iff, boomF_mem hon hp, decide_eq_true_eq]
theorem dead_hld (hok : CO W H cs) {bs : List Cell} (hB : okB W H cs bs = true) {p : Cell} (hp : onB W H p.1 p.2 = true) : hldI (chgL cs (deadG W cs bs)) (idxU W p) = !wetB cs (boomF W H bs) (idxU W p) := by
  have hW : 0 < W := by have := hok.w; omega
  have hon := fun q (hq : q ∈ bs) => (okB_mem hW hB hq).1
  have hi := idxU_in hok hp
  have hg := hok.get hi.1 hi.2.1
  unfold hldI wetB
  rw [dead_at hok bs hp, kp_mem hok hon hp, bm_mem hok hon hp]
  by_cases hm : p ∈ bs
  · have := (okB_mem hW hB hm).2
    rw [dd_t hm, Bool.or_true, if_pos rfl, dd_t (show cs.getD (idxU W p).toNat 0 ≠ 0 by omega)]; simp
  · rw [dd_f hm, Bool.or_false]
    by_cases h0 : cs.getD (idxU W p).toNat 0 ≤ 0
    · rw [dd_t h0, if_pos rfl]
      by_cases h1 : cs.getD (idxU W p).toNat 0 = 0
      · rw [dd_f (show ¬ cs.getD (idxU W p).toNat 0 ≠ 0 by omega), dd_t (show cs.getD (idxU W p).toNat 0 ≠ -1 by omega)]; rfl
      · rw [dd_t h1, dd_f (show ¬ cs.getD (idxU W p).toNat 0 ≠ -1 by omega)]; rfl
    · rw [dd_f h0, if_neg (by simp), dd_t (show cs.getD (idxU W p).toNat 0 ≠ -1 by omega)]; rfl
/-- Booms block exactly if there is a barrier of them and of land. -/
theorem either (hok : CO W H cs) {bs : List Cell} (hB : okB W H cs bs = true) : chanO W H cs.length (wetB cs (boomF W H bs)) = none ↔ ∃ q, barO W H (chgL cs (deadG W cs bs)) = some q :=
  dual hok (hok.dead bs) fun p hp => dead_hld hok hB hp
theorem dead_bar (hok : CO W H cs) {bs : List Cell} {l : List Cell} (h : BarP W H (chgL cs (deadG W cs bs)) l) : BarP W H cs l :=
  ⟨h.on, h.nd, h.len, h.adj, fun j hj e => by
    have := h.hold j hj
    rw [dead_at hok bs (h.on j hj), e] at this
    simp at this, h.top, h.bot⟩
theorem bar_mem {l : List Cell} {cs : List Int} (h : BarP W H cs l) {p : Cell} (hp : p ∈ l) : onB W H p.1 p.2 = true ∧ ¬ cs.getD (idxU W p).toNat 0 = 0 := by
  obtain ⟨k, hk, rfl⟩ := List.getElem_of_mem hp
  have h1 := h.on k hk
  have h2 := h.hold k hk
  have e : l.getD k cz = l[k] := by rw [List.getD_eq_getElem?_getD, List.getElem?_eq_getElem hk]; rfl
  rw [e] at h1 h2
  exact ⟨h1, h2⟩
theorem bar_nodup {l : List Cell} {cs : List Int} (h : BarP W H cs l) : l.Nodup := by
  rw [List.nodup_iff_pairwise_ne, List.pairwise_iff_getElem]
  intro i j hi hj hij e
  refine h.nd j i hj hij ?_
  rw [List.getD_eq_getElem?_getD, List.getD_eq_getElem?_getD, List.getElem?_eq_getElem hi, List.getElem?_eq_getElem hj]
  exact e.symm
/-- More booms leave less water. -/
theorem ra_mono {w w' : Cell → Bool} (h : ∀ p, onB W H p.1 p.2 = true → w p = true → w' p = true) {p : Cell} (hr : RA W H w p) : RA W H w' p := by
  induction hr with
  | ini ho hw hx => exact .ini ho (h _ ho hw) hx
  | step ho hw ha hq ih => exact .step ho (h _ ho hw) ha ih
theorem chan_mono (hok : CO W H cs) {wet wet' : Int → Bool} (h : ∀ p : Cell, onB W H p.1 p.2 = true → wet (idxU W p) = true → wet' (idxU W p) = true) (hn : chanO W H cs.length wet' = none) : chanO W H cs.length wet = none := by
  cases hc : chanO W H cs.length wet with
  | none => rfl
  | some l =>
    obtain ⟨p, h1, h2⟩ := (chan_some hok).1 ⟨l, hc⟩
    obtain ⟨l', hl'⟩ := (chan_some hok).2 ⟨p, ra_mono (w' := wetC W wet') (fun q hq hw => h q hq hw) h1, h2⟩
    rw [hn] at hl'; cases hl'
theorem cellsF_mem (hok : CO W H cs) {l : List Cell} {p : Cell} : p ∈ cellsF W cs l ↔ (onB W H p.1 p.2 = true ∧ cs.getD (idxU W p).toNat 0 > 0) ∧ p ∈ l := by
  unfold cellsF
  rw [List.mem_filter, booms_mem hok, decide_eq_true_eq]
theorem wet_mono (hok : CO W H cs) {fs bs : List Cell} (hA : okB W H cs fs = true) (hB : okB W H cs bs = true) (hsub : ∀ p ∈ fs, p ∈ bs) {p : Cell} (hp : onB W H p.1 p.2 = true) (h : wetB cs (boomF W H bs) (idxU W p) = true) : wetB cs (boomF W H fs) (idxU W p) = true := by
  have hW : 0 < W := by have := hok.w; omega
  unfold wetB at h ⊢
  rw [bm_mem hok (fun q hq => (okB_mem hW hB hq).1) hp] at h
  rw [bm_mem hok (fun q hq => (okB_mem hW hA hq).1) hp]
  rw [Bool.and_eq_true] at h ⊢
  refine ⟨h.1, ?_⟩
  have h2 := h.2
  simp only [Bool.not_eq_true', decide_eq_false_iff_not] at h2 ⊢
  exact fun hm => h2 (hsub p hm)
theorem blocks_mono (hok : CO W H cs) {fs bs : List Cell} (hA : okB W H cs fs = true) (hB : okB W H cs bs = true) (hsub : ∀ p ∈ fs, p ∈ bs) (hn : chanO W H cs.length (wetB cs (boomF W H fs)) = none) : chanO W H cs.length (wetB cs (boomF W H bs)) = none :=
  chan_mono hok (fun p hp h => wet_mono hok hA hB hsub hp h) hn
/-- Sums over lists of cells. -/
theorem sum_erase {f : Cell → Int} : ∀ {l : List Cell} {p : Cell}, p ∈ l → (l.map f).sum = f p + ((l.erase p).map f).sum
  | x :: r, p, h => by
    by_cases hx : x = p
    · subst hx
      rw [List.erase_cons_head, List.map_cons, List.sum_cons]
    · have hp : p ∈ r := by
        rcases List.mem_cons.1 h with h | h
        · exact absurd h.symm hx
        · exact h
      rw [List.erase_cons_tail (by simpa using hx), List.map_cons, List.sum_cons, List.map_cons, List.sum_cons, sum_erase hp]
      omega
theorem sum_le {f : Cell → Int} : ∀ {l m : List Cell}, l.Nodup → (∀ p ∈ m, 0 ≤ f p) → (∀ p ∈ l, p ∉ m → f p = 0) → (l.map f).sum ≤ (m.map f).sum
  | [], m, _, hm, _ => by
    have : ∀ m : List Cell, (∀ p ∈ m, 0 ≤ f p) → 0 ≤ (m.map f).sum := by
      intro m
      induction m with
      | nil => intro _; simp
      | cons x r ih =>
        intro h
        have := ih fun p hp => h p (by simp [hp])
        have := h x (by simp)
        rw [List.map_cons, List.sum_cons]; omega
    simpa using this m hm
  | p :: l, m, hd, hm, h0 => by
    obtain ⟨h1, h2⟩ := List.nodup_cons.1 hd
    rw [List.map_cons, List.sum_cons]
    by_cases hp : p ∈ m
    · rw [sum_erase hp]
      have := sum_le (l := l) (m := m.erase p) h2 (fun q hq => hm q (List.mem_of_mem_erase hq)) (fun q hq hn => h0 q (by simp [hq]) (fun hqm => hn ((List.mem_erase_of_ne (fun e => by subst e; exact h1 hq)).2 hqm)))
      omega
    · have := sum_le (l := l) (m := m) h2 hm (fun q hq hn => h0 q (by simp [hq]) hn)
      rw [h0 p (by simp) hp]; omega
theorem tot_cst {bs : List Cell} (h : ∀ p ∈ bs, cs.getD (idxU W p).toNat 0 > 0) : totC W cs bs = (bs.map fun p => cstI cs (idxU W p)).sum := by
  unfold totC
  congr 1
  refine List.map_congr_left fun p hp => ?_
  unfold cstI
  rw [if_pos (h p hp)]
/-- Booms that block cost no less than the cheapest barrier. -/
theorem blocks_cost (hok : CO W H cs) {bs : List Cell} (hB : okB W H cs bs = true) (hn : chanO W H cs.length (wetB cs (boomF W H bs)) = none) : ∃ l w, barO W H cs = some (l, w) ∧ w.1 ≤ totC W cs bs := by
  have hW : 0 < W := by have := hok.w; omega
  obtain ⟨⟨l, w⟩, h⟩ := (either hok hB).1 hn
  obtain ⟨hb, _, _, _⟩ := bar_is (hok.dead bs) h
  have hbc := dead_bar hok hb
  obtain ⟨l', w', h1, h2⟩ := bar_least hok hbc
  refine ⟨l', w', h1, Int.le_trans h2 ?_⟩
  rw [sumC_eq, tot_cst fun p hp => (okB_mem hW hB hp).2]
  refine sum_le (bar_nodup hbc) (fun p hp => cst_pos' cs _) fun p hp hnm => ?_
  obtain ⟨h3, h4⟩ := bar_mem hb hp
  rw [dead_at hok bs h3, kp_mem hok (fun q hq => (okB_mem hW hB hq).1) h3, dd_f hnm, Bool.or_false] at h4
  unfold cstI
  by_cases hc : cs.getD (idxU W p).toNat 0 > 0
  · rw [dd_f (show ¬ cs.getD (idxU W p).toNat 0 ≤ 0 by omega), if_neg (by simp)] at h4
    exact absurd rfl h4
  · rw [if_neg hc]
/-- The booms of the barrier block, and cost the least. -/
theorem own_blocks (hok : CO W H cs) {l : List Int} {w : Way} (h : barO W H cs = some (l, w)) : chanO W H cs.length (wetB cs (boomF W H (cellsF W cs (cellsL W l)))) = none ∧ totC W cs (cellsF W cs (cellsL W l)) = w.1 := by
  have hW : 0 < W := by have := hok.w; omega
  obtain ⟨hb, hs, _, _⟩ := bar_is hok h
  have hB := cellsF_ok hok (cellsL W l)
  obtain ⟨bl, hbl⟩ : ∃ b, b = cellsL W l := ⟨_, rfl⟩
  rw [← hbl] at hb hs hB ⊢
  have hon := fun q (hq : q ∈ cellsF W cs bl) => (okB_mem hW hB hq).1
  constructor
  · rw [either hok hB]
    have : BarP W H (chgL cs (deadG W cs (cellsF W cs bl))) bl := by
      refine ⟨hb.on, hb.nd, hb.len, hb.adj, fun j hj e => ?_, hb.top, hb.bot⟩
      have hm : bl.getD j cz ∈ bl := by rw [List.getD_eq_getElem?_getD, List.getElem?_eq_getElem hj]; exact List.getElem_mem hj
      have h1 := hb.on j hj
      have h2 := hb.hold j hj
      rw [dead_at hok _ h1] at e
      by_cases hc : cs.getD (idxU W (bl.getD j cz)).toNat 0 ≤ 0
      · rw [dd_t hc, Bool.true_or, if_pos rfl] at e; exact h2 e
      · have h3 : bl.getD j cz ∈ cellsF W cs bl := (cellsF_mem hok).2 ⟨⟨h1, by omega⟩, hm⟩
        rw [kp_mem hok hon h1, dd_t h3, Bool.or_true, if_pos rfl] at e; exact h2 e
    obtain ⟨l', w', h1, _⟩ := bar_least (hok.dead _) this
    exact ⟨_, h1⟩
  · rw [tot_cst fun p hp => (okB_mem hW hB hp).2, ← hs, sumC_eq]
    have hn : (cellsF W cs bl).Nodup := by
      unfold cellsF
      refine List.Pairwise.filter _ (List.Pairwise.imp (fun {a b} hlt e => ?_) (booms_sorted (cs := cs) hW))
      subst e; unfold ltC at hlt; omega
    have e1 := sum_le (f := fun p => cstI cs (idxU W p)) hn (fun p _ => cst_pos' cs _) (m := bl) (fun p hp hnm => absurd ((cellsF_mem hok).1 hp).2 hnm)
    have e2 := sum_le (f := fun p => cstI cs (idxU W p)) (bar_nodup hb) (fun p _ => cst_pos' cs _) (m := cellsF W cs bl) (fun p hp hnm => by
      have h1 := bar_mem hb hp
      unfold cstI
      by_cases hc : cs.getD (idxU W p).toNat 0 > 0
      · exact absurd ((cellsF_mem hok).2 ⟨⟨h1.1, hc⟩, hp⟩) hnm
      · rw [if_neg hc])
    omega
end
end Go.Proofs.Ytbhpnhcdjmcaoaa

/- Boom: the booms of a chart, those of a list. -/
namespace Go.Proofs.Ytbhpnhcdjmcaoaa
open Go.RowKit
set_option linter.unusedVariables false
set_option linter.unusedSimpArgs false
def boomsK (W : Int) (cs : List Int) (k : Nat) : List Cell := ((List.range k).filter fun i => decide (cs.getD i 0 > 0)).map fun i : Nat => cellI W (i : Int)
theorem boomsK_t {W : Int} {cs : List Int} {k : Nat} (h : cs.getD k 0 > 0) : boomsK W cs (k + 1) = boomsK W cs k ++ [cellI W k] := by
  unfold boomsK
  rw [List.range_succ, List.filter_append, List.map_append, List.filter_cons_of_pos (by rw [decide_eq_true_eq]; exact h)]; rfl
theorem boomsK_f {W : Int} {cs : List Int} {k : Nat} (h : ¬ cs.getD k 0 > 0) : boomsK W cs (k + 1) = boomsK W cs k := by
  unfold boomsK
  rw [List.range_succ, List.filter_append, List.map_append, List.filter_cons_of_neg (by rw [decide_eq_true_eq]; exact h)]
  simp
theorem boomsK_len (W : Int) (cs : List Int) (k : Nat) : (boomsK W cs k).length ≤ k := by
  unfold boomsK
  rw [List.length_map]
  exact Nat.le_trans (List.length_filter_le _ _) (by simp)
set_option maxRecDepth 10000 in
set_option maxHeartbeats 4000000 in
theorem booms_spec (W H : Int) (cs : List Int) (hW : 0 < W) (hl : cs.length ≤ 300) :
    Spec Try.prog 55 [chR W H cs.length] [⟨0, .ro 0, cs.map C.i⟩] 1 (fun v L' _ => cellsX (boomsL W cs) v L') := by
  have hlm : (cs.map C.i).length = cs.length := by simp
  refine Spec.of tok Try.func55 rfl rfl rfl fun n0 cx => vc_ok tok ?_
  repeat ((conv => whnf); first | (refine And.intro (by first | omega | exact Nat.le_of_ble_eq_true rfl | (dsimp only [inK]; omega) | (simp only [mulS_eq]; omega) | (simp only [mulS_eq, setL_length]; omega) | (simp only [setL_length]; omega) | (simp only [setL_length, List.length_map]; omega) | (exact ⟨by omega, by omega, by first | exact Nat.le_of_ble_eq_true rfl | (dsimp only; omega) | (simp only [setL_length]; omega) | (simp only [setL_length, List.length_map]; omega)⟩) | (exact ⟨by omega, by first | rfl | omega, by omega, Nat.le_of_ble_eq_true rfl, Nat.le_of_ble_eq_true rfl⟩) | (exact ⟨rfl, rfl, rfl, Nat.le_of_ble_eq_true rfl, by first | rfl | omega | exact Nat.le_of_ble_eq_true rfl | (dsimp only; omega) | (simp; done) | (simp; omega), by first | rfl | omega | exact Nat.le_of_ble_eq_true rfl | (dsimp only; omega) | (simp; done) | (simp; omega), by omega, Nat.le_of_ble_eq_true rfl⟩) | exact Eq.refl true) ?_) | refine Exists.intro _ (And.intro rfl ?_) | refine And.intro (And.intro rfl (chk_rowI _ _ _ _)) ?_ | refine br_t (by omega) ?_ | refine br_f (by omega) ?_ | refine bs_t (by omega) ?_ | refine bs_f (by omega) ?_ | refine fun (K' : K3) hK' => ?_ | (refine hK' _ _ _ ?_; clear hK' K') | refine draw_auto tok mixed (by kernel_rfl) ?_ | refine bs_bt (Eq.refl true) ?_ | refine bs_bf (Eq.refl false) ?_ | refine br_bt (Eq.refl true) ?_ | refine br_bf (Eq.refl false) ?_ | refine CallK.m ?_ | refine Two.l ?_ | refine And.intro (And.intro rfl rfl) ?_)
  refine Tri.loop (γ := Nat) (fun k => k ≤ cs.length) (fun k => [(1, V.c (.ptr 1 0)), (3, V.c (.sl 2 (boomsK W cs k).length)), (7, V.c (.sl 0 cs.length)), (8, V.i cs.length), (9, V.i (k : Nat))]) (fun k => [⟨2, .vec 57 2, cellC (boomsK W cs k)⟩, ⟨1, .own 24, [C.i W, C.i H, .sl 0 cs.length]⟩, ⟨0, .ro 0, cs.map C.i⟩]) 3 (fun k => cs.length - k) 0 (R0 := [(2, none)]) ?_ ?_ ?_
  · omega
  · skip
    refine ⟨?_, ?_, rfl, rfl, by first | exact Nat.le_of_ble_eq_true rfl | exact Nat.le_refl _ | omega⟩
    · repeat (first | exact trivial | (refine And.intro (covS_syn (by rfl) rfl (by first | exact trivial | exact Nat.le_of_ble_eq_true rfl | exact hy | exact (fun p hp => nomatch hp) | (show (_ : Nat) < _; omega))) ?_) | refine And.intro (covS_bool rfl rfl (by rfl)) ?_)
    · repeat (first | exact trivial | refine And.intro (covE_nil rfl (Nat.le_of_ble_eq_true rfl) rfl rfl) ?_ | (refine And.intro (covE_some rfl (Nat.le_of_ble_eq_true rfl) (by first | exact wf_ints _ _ | exact wf_bools _ _ | first | exact wf_cells _ _ | simp [C.wf]) rfl (by first | exact ren_ints _ _ | exact ren_bools _ _ | exact ren_shares _ _ | rfl)) ?_))
  · intro k hk
    refine vc_ok tok ?_
    by_cases hlt : k < cs.length
    · have hat := at_spec W H cs.length (k : Int) hW (by omega)
      have hb := boomsK_len W cs k
      have hcl := cellC_len (boomsK W cs k)
      by_cases hc : cs.getD k 0 > 0
      · repeat ((conv => whnf); first | (refine And.intro (by first | omega | exact Nat.le_of_ble_eq_true rfl | (dsimp only [inK]; omega) | (simp only [mulS_eq]; omega) | (simp only [mulS_eq, setL_length]; omega) | (simp only [setL_length]; omega) | (simp only [setL_length, List.length_map]; omega) | (exact ⟨by omega, by omega, by first | exact Nat.le_of_ble_eq_true rfl | (dsimp only; omega) | (simp only [setL_length]; omega) | (simp only [setL_length, List.length_map]; omega)⟩) | (exact ⟨by omega, by first | rfl | omega, by omega, Nat.le_of_ble_eq_true rfl, Nat.le_of_ble_eq_true rfl⟩) | (exact ⟨rfl, rfl, rfl, Nat.le_of_ble_eq_true rfl, by first | rfl | omega | exact Nat.le_of_ble_eq_true rfl | (dsimp only; omega) | (simp; done) | (simp; omega), by first | rfl | omega | exact Nat.le_of_ble_eq_true rfl | (dsimp only; omega) | (simp; done) | (simp; omega), by omega, Nat.le_of_ble_eq_true rfl⟩) | exact Eq.refl true) ?_) | with_reducible refine ld (intL hlt) ?_ | refine Exists.intro _ (And.intro rfl ?_) | refine And.intro (And.intro rfl (chk_rowI _ _ _ _)) ?_ | refine br_t (by omega) ?_ | refine br_f (by omega) ?_ | refine bs_t (by omega) ?_ | refine bs_f (by omega) ?_ | refine fun (K' : K3) hK' => ?_ | (refine hK' _ _ _ ?_; clear hK' K') | refine draw_auto tok mixed (by kernel_rfl) ?_ | refine br_t hc ?_ | refine CallK.val (R := []) hat (by kernel_rfl) rfl (by simp [V.wf, A.wf, C.wf]) trivial rfl rfl (by simp [V.wf, A.wf, C.wf]) ?_ | refine bs_bt (Eq.refl true) ?_ | refine bs_bf (Eq.refl false) ?_ | refine br_bt (Eq.refl true) ?_ | refine br_bf (Eq.refl false) ?_ | refine CallK.m ?_ | refine Two.l ?_ | refine And.intro (And.intro rfl rfl) ?_)
        refine ⟨k + 1, [(2, some 4)], by omega, by omega, ?_⟩
        have hnew : cellC (boomsK W cs (k + 1)) = cellC (boomsK W cs k) ++ [C.i ((k : Int) % W), C.i ((k : Int) / W)] := by
          rw [boomsK_t hc, cellC_app]; rfl
        have hnl : (boomsK W cs (k + 1)).length = (boomsK W cs k).length + 1 := by rw [boomsK_t hc, List.length_append]; rfl
        rw [hnl]
        refine ⟨?_, ?_, rfl, rfl, by first | exact Nat.le_of_ble_eq_true rfl | exact Nat.le_refl _ | omega⟩
        · repeat (first | exact trivial | (refine And.intro (covS_syn (by first | rfl | (refine congrArg some (congrArg V.i ?_); omega)) rfl (by first | exact trivial | exact Nat.le_of_ble_eq_true rfl | exact hy | exact (fun p hp => nomatch hp) | (show (_ : Nat) < _; omega))) ?_) | refine And.intro (covS_bool rfl rfl (by rfl)) ?_)
        · repeat (first | exact trivial | (refine And.intro (covE_some rfl (Nat.le_of_ble_eq_true rfl) (wf_cells _ _) rfl ((ren_cells _ _).trans (congrArg some (by rw [hnew]; rfl)))) ?_) | refine And.intro (covE_nil rfl (Nat.le_of_ble_eq_true rfl) rfl rfl) ?_ | (refine And.intro (covE_some rfl (Nat.le_of_ble_eq_true rfl) (by first | exact wf_ints _ _ | exact wf_bools _ _ | first | exact wf_cells _ _ | simp [C.wf]) rfl (by first | exact ren_ints _ _ | exact ren_bools _ _ | exact ren_shares _ _ | rfl)) ?_))
      · repeat ((conv => whnf); first | (refine And.intro (by first | omega | exact Nat.le_of_ble_eq_true rfl | (dsimp only [inK]; omega) | (simp only [mulS_eq]; omega) | (simp only [mulS_eq, setL_length]; omega) | (simp only [setL_length]; omega) | (simp only [setL_length, List.length_map]; omega) | (exact ⟨by omega, by omega, by first | exact Nat.le_of_ble_eq_true rfl | (dsimp only; omega) | (simp only [setL_length]; omega) | (simp only [setL_length, List.length_map]; omega)⟩) | (exact ⟨by omega, by first | rfl | omega, by omega, Nat.le_of_ble_eq_true rfl, Nat.le_of_ble_eq_true rfl⟩) | (exact ⟨rfl, rfl, rfl, Nat.le_of_ble_eq_true rfl, by first | rfl | omega | exact Nat.le_of_ble_eq_true rfl | (dsimp only; omega) | (simp; done) | (simp; omega), by first | rfl | omega | exact Nat.le_of_ble_eq_true rfl | (dsimp only; omega) | (simp; done) | (simp; omega), by omega, Nat.le_of_ble_eq_true rfl⟩) | exact Eq.refl true) ?_) | with_reducible refine ld (intL hlt) ?_ | refine Exists.intro _ (And.intro rfl ?_) | refine And.intro (And.intro rfl (chk_rowI _ _ _ _)) ?_ | refine br_t (by omega) ?_ | refine br_f (by omega) ?_ | refine bs_t (by omega) ?_ | refine bs_f (by omega) ?_ | refine fun (K' : K3) hK' => ?_ | (refine hK' _ _ _ ?_; clear hK' K') | refine draw_auto tok mixed (by kernel_rfl) ?_ | refine br_f hc ?_ | refine bs_bt (Eq.refl true) ?_ | refine bs_bf (Eq.refl false) ?_ | refine br_bt (Eq.refl true) ?_ | refine br_bf (Eq.refl false) ?_ | refine CallK.m ?_ | refine Two.l ?_ | refine And.intro (And.intro rfl rfl) ?_)
        refine ⟨k + 1, [], by omega, by omega, ?_⟩
        rw [boomsK_f hc]
        refine ⟨?_, ?_, rfl, rfl, by first | exact Nat.le_of_ble_eq_true rfl | exact Nat.le_refl _ | omega⟩
        · repeat (first | exact trivial | (refine And.intro (covS_syn (by first | rfl | (refine congrArg some (congrArg V.i ?_); omega)) rfl (by first | exact trivial | exact Nat.le_of_ble_eq_true rfl | exact hy | exact (fun p hp => nomatch hp) | (show (_ : Nat) < _; omega))) ?_) | refine And.intro (covS_bool rfl rfl (by rfl)) ?_)
        · repeat (first | exact trivial | (refine And.intro (covE_id (Nat.le_of_ble_eq_true rfl) (by first | exact wf_ints _ _ | exact wf_bools _ _ | first | exact wf_cells _ _ | simp [C.wf]) rfl (by rfl)) ?_))
    · have hkl : k = cs.length := by omega
      subst hkl
      repeat ((conv => whnf); first | (refine And.intro (by first | omega | exact Nat.le_of_ble_eq_true rfl | (dsimp only [inK]; omega) | (simp only [mulS_eq]; omega) | (simp only [mulS_eq, setL_length]; omega) | (simp only [setL_length]; omega) | (simp only [setL_length, List.length_map]; omega) | (exact ⟨by omega, by omega, by first | exact Nat.le_of_ble_eq_true rfl | (dsimp only; omega) | (simp only [setL_length]; omega) | (simp only [setL_length, List.length_map]; omega)⟩) | (exact ⟨by omega, by first | rfl | omega, by omega, Nat.le_of_ble_eq_true rfl, Nat.le_of_ble_eq_true rfl⟩) | (exact ⟨rfl, rfl, rfl, Nat.le_of_ble_eq_true rfl, by first | rfl | omega | exact Nat.le_of_ble_eq_true rfl | (dsimp only; omega) | (simp; done) | (simp; omega), by first | rfl | omega | exact Nat.le_of_ble_eq_true rfl | (dsimp only; omega) | (simp; done) | (simp; omega), by omega, Nat.le_of_ble_eq_true rfl⟩) | exact Eq.refl true) ?_) | refine Exists.intro _ (And.intro rfl ?_) | refine And.intro (And.intro rfl (chk_rowI _ _ _ _)) ?_ | refine br_t (by omega) ?_ | refine br_f (by omega) ?_ | refine bs_t (by omega) ?_ | refine bs_f (by omega) ?_ | refine fun (K' : K3) hK' => ?_ | (refine hK' _ _ _ ?_; clear hK' K') | refine draw_auto tok mixed (by kernel_rfl) ?_ | refine bs_bt (Eq.refl true) ?_ | refine bs_bf (Eq.refl false) ?_ | refine br_bt (Eq.refl true) ?_ | refine br_bf (Eq.refl false) ?_ | refine CallK.m ?_ | refine Two.l ?_ | refine And.intro (And.intro rfl rfl) ?_)
      exact .inr ⟨2, rfl, rfl⟩
end Go.Proofs.Ytbhpnhcdjmcaoaa

/- Boom: the booms of a list. -/
namespace Go.Proofs.Ytbhpnhcdjmcaoaa
open Go.RowKit
set_option linter.unusedVariables false
set_option linter.unusedSimpArgs false
def memK (l : List Cell) (p : Cell) (j : Nat) : Bool := (l.take j).any fun q => decide (p = q)
theorem memK_succ {l : List Cell} {p : Cell} {j : Nat} (h : j < l.length) : memK l p (j + 1) = (memK l p j || decide (p = l.getD j cz)) := by
  unfold memK
  rw [List.take_add_one, show l[j]?.toList = [l.getD j cz] by rw [List.getElem?_eq_getElem h, List.getD_eq_getElem?_getD, List.getElem?_eq_getElem h]; rfl]
  simp
theorem memK_end (l : List Cell) (p : Cell) : memK l p l.length = decide (p ∈ l) := by
  unfold memK
  rw [List.take_length, Bool.eq_iff_iff, List.any_eq_true, decide_eq_true_eq]
  exact ⟨fun ⟨q, h1, h2⟩ => by rw [of_decide_eq_true h2]; exact h1, fun h => ⟨p, h, by simp⟩⟩
def fltK (b l : List Cell) (k : Nat) : List Cell := (b.take k).filter fun p => decide (p ∈ l)
theorem fltK_succ {b l : List Cell} {k : Nat} (h : k < b.length) : fltK b l (k + 1) = fltK b l k ++ (if decide (b.getD k cz ∈ l) then [b.getD k cz] else []) := by
  unfold fltK
  rw [List.take_add_one, show b[k]?.toList = [b.getD k cz] by rw [List.getElem?_eq_getElem h, List.getD_eq_getElem?_getD, List.getElem?_eq_getElem h]; rfl, List.filter_append]
  congr 1
  cases hd : decide (b.getD k cz ∈ l) <;> simp only [List.filter_cons, hd, List.filter_nil] <;> rfl
theorem fltK_len (b l : List Cell) (k : Nat) : (fltK b l k).length ≤ k := by
  unfold fltK
  exact Nat.le_trans (List.length_filter_le _ _) (by simp; omega)
theorem boomsL_len (W : Int) (cs : List Int) : (boomsL W cs).length ≤ cs.length := boomsK_len W cs cs.length
set_option maxRecDepth 10000 in
set_option maxHeartbeats 8000000 in
theorem lawCells_spec (W H : Int) (cs : List Int) (l : List Cell) (hW : 0 < W) (hl : cs.length ≤ 300) (hll : l.length ≤ 600) :
    Spec Try.prog 36 [chR W H cs.length, V.c (.sl 1 l.length)] [⟨0, .ro 0, cs.map C.i⟩, ⟨1, .ro 2, cellC l⟩] 2 (fun v L' _ => cellsX (cellsF W cs l) v L') := by
  have hbs := booms_spec W H cs hW hl
  have hbl := boomsL_len W cs
  have hcll := cellC_len l
  have hend : cellsF W cs l = fltK (boomsL W cs) l (boomsL W cs).length := by unfold cellsF fltK; rw [List.take_length]
  obtain ⟨b, hb⟩ : ∃ b, b = boomsL W cs := ⟨_, rfl⟩
  rw [hend]
  rw [← hb] at hbs hbl ⊢
  have hcb := cellC_len b
  refine Spec.of tok Try.func36 rfl rfl rfl fun n0 cx => vc_ok tok ?_
  repeat ((conv => whnf); first | (refine And.intro (by first | omega | exact Nat.le_of_ble_eq_true rfl | (dsimp only [inK]; omega) | (simp only [mulS_eq]; omega) | (simp only [mulS_eq, setL_length]; omega) | (simp only [setL_length]; omega) | (simp only [setL_length, List.length_map]; omega) | (exact ⟨by omega, by omega, by first | exact Nat.le_of_ble_eq_true rfl | (dsimp only; omega) | (simp only [setL_length]; omega) | (simp only [setL_length, List.length_map]; omega)⟩) | (exact ⟨by omega, by first | rfl | omega, by omega, Nat.le_of_ble_eq_true rfl, Nat.le_of_ble_eq_true rfl⟩) | (exact ⟨rfl, rfl, rfl, Nat.le_of_ble_eq_true rfl, by first | rfl | omega | exact Nat.le_of_ble_eq_true rfl | (dsimp only; omega) | (simp; done) | (simp; omega), by first | rfl | omega | exact Nat.le_of_ble_eq_true rfl | (dsimp only; omega) | (simp; done) | (simp; omega), by omega, Nat.le_of_ble_eq_true rfl⟩) | exact Eq.refl true) ?_) | refine Exists.intro _ (And.intro rfl ?_) | refine And.intro (And.intro rfl (chk_rowI _ _ _ _)) ?_ | refine br_t (by omega) ?_ | refine br_f (by omega) ?_ | refine bs_t (by omega) ?_ | refine bs_f (by omega) ?_ | refine fun (K' : K3) hK' => ?_ | (refine hK' _ _ _ ?_; clear hK' K') | refine draw_auto tok mixed (by kernel_rfl) ?_ | refine CallK.cellsR (R := []) hbs (by kernel_rfl) rfl (by simp [V.wf, A.wf, C.wf]) ⟨roE_ints (l := 0) rfl (by omega) rfl (.inl rfl), trivial⟩ rfl ?_ | refine bs_bt (Eq.refl true) ?_ | refine bs_bf (Eq.refl false) ?_ | refine br_bt (Eq.refl true) ?_ | refine br_bf (Eq.refl false) ?_ | refine CallK.m ?_ | refine Two.l ?_ | refine And.intro (And.intro rfl rfl) ?_)
  refine Tri.loop (γ := Nat) (fun k => k ≤ b.length) (fun k => [(1, V.c (.sl 1 l.length)), (5, V.c (.sl 4 (fltK b l k).length)), (12, V.c (.sl 3 b.length)), (13, V.i b.length), (14, V.i (k : Nat))]) (fun k => [⟨4, .vec 57 2, cellC (fltK b l k)⟩, ⟨3, .vec 57 2, cellC b⟩, ⟨0, .ro 0, cs.map C.i⟩, ⟨1, .ro 2, cellC l⟩]) 5 (fun k => b.length - k) 0 (R0 := [(4, none)]) ?_ ?_ ?_
  · omega
  · skip
    refine ⟨?_, ?_, rfl, rfl, by first | exact Nat.le_of_ble_eq_true rfl | exact Nat.le_refl _ | omega⟩
    · repeat (first | exact trivial | (refine And.intro (covS_syn (by first | rfl | (refine congrArg some (congrArg V.i ?_); omega)) rfl (by first | exact trivial | exact Nat.le_of_ble_eq_true rfl | exact hy | exact (fun p hp => nomatch hp) | (show (_ : Nat) < _; omega))) ?_) | refine And.intro (covS_bool rfl rfl (by rfl)) ?_)
    · repeat (first | exact trivial | refine And.intro (covE_some rfl (Nat.le_of_ble_eq_true rfl) (wf_cells _ _) rfl (ren_cells _ _)) ?_ | refine And.intro (covE_nil rfl (Nat.le_of_ble_eq_true rfl) rfl rfl) ?_ | (refine And.intro (covE_some rfl (Nat.le_of_ble_eq_true rfl) (by first | exact wf_ints _ _ | exact wf_bools _ _ | first | exact wf_cells _ _ | simp [C.wf]) rfl (by first | exact ren_ints _ _ | exact ren_bools _ _ | exact ren_shares _ _ | rfl)) ?_))
  · intro k hk
    refine vc_ok tok ?_
    by_cases hlt : k < b.length
    · have hld := cellT (l := b) (k := k) rfl hlt
      have hsu := fltK_succ (l := l) hlt
      have hfl := fltK_len b l k
      have hcl := cellC_len (fltK b l k)
      obtain ⟨p, hp⟩ : ∃ p, p = b.getD k cz := ⟨_, rfl⟩
      rw [← hp] at hld hsu
      repeat ((conv => whnf); first | (refine And.intro (by first | omega | exact Nat.le_of_ble_eq_true rfl | (dsimp only [inK]; omega) | (simp only [mulS_eq]; omega) | (simp only [mulS_eq, setL_length]; omega) | (simp only [setL_length]; omega) | (simp only [setL_length, List.length_map]; omega) | (exact ⟨by omega, by omega, by first | exact Nat.le_of_ble_eq_true rfl | (dsimp only; omega) | (simp only [setL_length]; omega) | (simp only [setL_length, List.length_map]; omega)⟩) | (exact ⟨by omega, by first | rfl | omega, by omega, Nat.le_of_ble_eq_true rfl, Nat.le_of_ble_eq_true rfl⟩) | (exact ⟨rfl, rfl, rfl, Nat.le_of_ble_eq_true rfl, by first | rfl | omega | exact Nat.le_of_ble_eq_true rfl | (dsimp only; omega) | (simp; done) | (simp; omega), by first | rfl | omega | exact Nat.le_of_ble_eq_true rfl | (dsimp only; omega) | (simp; done) | (simp; omega), by omega, Nat.le_of_ble_eq_true rfl⟩) | exact Eq.refl true) ?_) | with_reducible refine ld (hld) ?_ | refine Exists.intro _ (And.intro rfl ?_) | refine And.intro (And.intro rfl (chk_rowI _ _ _ _)) ?_ | refine br_t (by omega) ?_ | refine br_f (by omega) ?_ | refine bs_t (by omega) ?_ | refine bs_f (by omega) ?_ | refine fun (K' : K3) hK' => ?_ | (refine hK' _ _ _ ?_; clear hK' K') | refine draw_auto tok mixed (by kernel_rfl) ?_ | refine bs_bt (Eq.refl true) ?_ | refine bs_bf (Eq.refl false) ?_ | refine br_bt (Eq.refl true) ?_ | refine br_bf (Eq.refl false) ?_ | refine CallK.m ?_ | refine Two.l ?_ | refine And.intro (And.intro rfl rfl) ?_)
      refine Tri.loop (γ := Nat) (fun j => j ≤ l.length) (fun j => [(1, V.c (.sl 1 l.length)), (5, V.c (.sl 4 (fltK b l k).length)), (7, V.c (.ptr 5 0)), (8, V.c (.bool (memK l p j))), (12, V.c (.sl 3 b.length)), (13, V.i b.length), (14, V.i (k : Nat)), (18, V.c (.sl 1 l.length)), (19, V.i l.length), (20, V.i (j : Nat))])
        (fun j => [⟨5, .own 57, [C.i p.1, C.i p.2]⟩, ⟨4, .vec 57 2, cellC (fltK b l k)⟩, ⟨3, .vec 57 2, cellC b⟩, ⟨0, .ro 0, cs.map C.i⟩, ⟨1, .ro 2, cellC l⟩]) 6 (fun j => l.length - j) 0 (R0 := []) ?_ ?_ ?_
      · omega
      · skip
        refine ⟨?_, ?_, rfl, rfl, by first | exact Nat.le_of_ble_eq_true rfl | exact Nat.le_refl _ | omega⟩
        · repeat (first | exact trivial | (refine And.intro (covS_syn (by first | rfl | (refine congrArg some (congrArg V.i ?_); omega)) rfl (by first | exact trivial | exact Nat.le_of_ble_eq_true rfl | exact hy | exact (fun p hp => nomatch hp) | (show (_ : Nat) < _; omega))) ?_) | (refine And.intro (covS_bool rfl rfl (by first | rfl | rfl)) ?_))
        · repeat (first | exact trivial | (refine And.intro (covE_id (Nat.le_of_ble_eq_true rfl) (by first | exact wf_ints _ _ | exact wf_bools _ _ | first | exact wf_cells _ _ | simp [C.wf]) rfl (by rfl)) ?_))
      · intro j hj
        refine vc_ok tok ?_
        by_cases hjl : j < l.length
        · have hld2 := cellT (l := l) (k := j) rfl hjl
          have hms := memK_succ (p := p) hjl
          obtain ⟨q, hq⟩ : ∃ q, q = l.getD j cz := ⟨_, rfl⟩
          rw [← hq] at hld2 hms
          cases hm : memK l p j with
          | true =>
            have hm1 : memK l p (j + 1) = true := by rw [hms, hm]; rfl
            repeat ((conv => whnf); first | (refine And.intro (by first | omega | exact Nat.le_of_ble_eq_true rfl | (dsimp only [inK]; omega) | (simp only [mulS_eq]; omega) | (simp only [mulS_eq, setL_length]; omega) | (simp only [setL_length]; omega) | (simp only [setL_length, List.length_map]; omega) | (exact ⟨by omega, by omega, by first | exact Nat.le_of_ble_eq_true rfl | (dsimp only; omega) | (simp only [setL_length]; omega) | (simp only [setL_length, List.length_map]; omega)⟩) | (exact ⟨by omega, by first | rfl | omega, by omega, Nat.le_of_ble_eq_true rfl, Nat.le_of_ble_eq_true rfl⟩) | (exact ⟨rfl, rfl, rfl, Nat.le_of_ble_eq_true rfl, by first | rfl | omega | exact Nat.le_of_ble_eq_true rfl | (dsimp only; omega) | (simp; done) | (simp; omega), by first | rfl | omega | exact Nat.le_of_ble_eq_true rfl | (dsimp only; omega) | (simp; done) | (simp; omega), by omega, Nat.le_of_ble_eq_true rfl⟩) | exact Eq.refl true) ?_) | with_reducible refine ld (hld2) ?_ | refine Exists.intro _ (And.intro rfl ?_) | refine And.intro (And.intro rfl (chk_rowI _ _ _ _)) ?_ | refine br_t (by omega) ?_ | refine br_f (by omega) ?_ | refine bs_t (by omega) ?_ | refine bs_f (by omega) ?_ | refine fun (K' : K3) hK' => ?_ | (refine hK' _ _ _ ?_; clear hK' K') | refine draw_auto tok mixed (by kernel_rfl) ?_ | refine bs_bt rfl ?_ | refine bs_bt (Eq.refl true) ?_ | refine bs_bf (Eq.refl false) ?_ | refine br_bt (Eq.refl true) ?_ | refine br_bf (Eq.refl false) ?_ | refine CallK.m ?_ | refine Two.l ?_ | refine And.intro (And.intro rfl rfl) ?_)
            refine ⟨j + 1, [], by omega, by omega, ?_⟩
            rw [hm1]
            refine ⟨?_, ?_, rfl, rfl, by first | exact Nat.le_of_ble_eq_true rfl | exact Nat.le_refl _ | omega⟩
            · repeat (first | exact trivial | (refine And.intro (covS_syn (by first | rfl | (refine congrArg some (congrArg V.i ?_); omega)) rfl (by first | exact trivial | exact Nat.le_of_ble_eq_true rfl | exact hy | exact (fun p hp => nomatch hp) | (show (_ : Nat) < _; omega))) ?_) | (refine And.intro (covS_bool rfl rfl (by first | rfl | rfl)) ?_))
            · repeat (first | exact trivial | (refine And.intro (covE_id (Nat.le_of_ble_eq_true rfl) (by first | exact wf_ints _ _ | exact wf_bools _ _ | first | exact wf_cells _ _ | simp [C.wf]) rfl (by rfl)) ?_))
          | false =>
            have hm1 : memK l p (j + 1) = (decide (p.1 = q.1) && (decide (p.2 = q.2) && true)) := by
              rw [hms, hm, Bool.false_or, Bool.and_true, ← Bool.decide_and, decide_eq_decide]
              exact Prod.ext_iff
            repeat ((conv => whnf); first | (refine And.intro (by first | omega | exact Nat.le_of_ble_eq_true rfl | (dsimp only [inK]; omega) | (simp only [mulS_eq]; omega) | (simp only [mulS_eq, setL_length]; omega) | (simp only [setL_length]; omega) | (simp only [setL_length, List.length_map]; omega) | (exact ⟨by omega, by omega, by first | exact Nat.le_of_ble_eq_true rfl | (dsimp only; omega) | (simp only [setL_length]; omega) | (simp only [setL_length, List.length_map]; omega)⟩) | (exact ⟨by omega, by first | rfl | omega, by omega, Nat.le_of_ble_eq_true rfl, Nat.le_of_ble_eq_true rfl⟩) | (exact ⟨rfl, rfl, rfl, Nat.le_of_ble_eq_true rfl, by first | rfl | omega | exact Nat.le_of_ble_eq_true rfl | (dsimp only; omega) | (simp; done) | (simp; omega), by first | rfl | omega | exact Nat.le_of_ble_eq_true rfl | (dsimp only; omega) | (simp; done) | (simp; omega), by omega, Nat.le_of_ble_eq_true rfl⟩) | exact Eq.refl true) ?_) | with_reducible refine ld (hld2) ?_ | refine Exists.intro _ (And.intro rfl ?_) | refine And.intro (And.intro rfl (chk_rowI _ _ _ _)) ?_ | refine br_t (by omega) ?_ | refine br_f (by omega) ?_ | refine bs_t (by omega) ?_ | refine bs_f (by omega) ?_ | refine fun (K' : K3) hK' => ?_ | (refine hK' _ _ _ ?_; clear hK' K') | refine draw_auto tok mixed (by kernel_rfl) ?_ | refine bs_bf rfl ?_ | refine bs_bt (Eq.refl true) ?_ | refine bs_bf (Eq.refl false) ?_ | refine br_bt (Eq.refl true) ?_ | refine br_bf (Eq.refl false) ?_ | refine CallK.m ?_ | refine Two.l ?_ | refine And.intro (And.intro rfl rfl) ?_)
            refine ⟨j + 1, [], by omega, by omega, ?_⟩
            rw [hm1]
            refine ⟨?_, ?_, rfl, rfl, by first | exact Nat.le_of_ble_eq_true rfl | exact Nat.le_refl _ | omega⟩
            · repeat (first | exact trivial | (refine And.intro (covS_syn (by first | rfl | (refine congrArg some (congrArg V.i ?_); omega)) rfl (by first | exact trivial | exact Nat.le_of_ble_eq_true rfl | exact hy | exact (fun p hp => nomatch hp) | (show (_ : Nat) < _; omega))) ?_) | (refine And.intro (covS_bool rfl rfl (by first | rfl | rfl)) ?_))
            · repeat (first | exact trivial | (refine And.intro (covE_id (Nat.le_of_ble_eq_true rfl) (by first | exact wf_ints _ _ | exact wf_bools _ _ | first | exact wf_cells _ _ | simp [C.wf]) rfl (by rfl)) ?_))
        · have hje : j = l.length := by omega
          subst hje
          rw [memK_end]
          cases hm : decide (p ∈ l) with
          | true =>
            rw [hm] at hsu
            repeat ((conv => whnf); first | (refine And.intro (by first | omega | exact Nat.le_of_ble_eq_true rfl | (dsimp only [inK]; omega) | (simp only [mulS_eq]; omega) | (simp only [mulS_eq, setL_length]; omega) | (simp only [setL_length]; omega) | (simp only [setL_length, List.length_map]; omega) | (exact ⟨by omega, by omega, by first | exact Nat.le_of_ble_eq_true rfl | (dsimp only; omega) | (simp only [setL_length]; omega) | (simp only [setL_length, List.length_map]; omega)⟩) | (exact ⟨by omega, by first | rfl | omega, by omega, Nat.le_of_ble_eq_true rfl, Nat.le_of_ble_eq_true rfl⟩) | (exact ⟨rfl, rfl, rfl, Nat.le_of_ble_eq_true rfl, by first | rfl | omega | exact Nat.le_of_ble_eq_true rfl | (dsimp only; omega) | (simp; done) | (simp; omega), by first | rfl | omega | exact Nat.le_of_ble_eq_true rfl | (dsimp only; omega) | (simp; done) | (simp; omega), by omega, Nat.le_of_ble_eq_true rfl⟩) | exact Eq.refl true) ?_) | refine Exists.intro _ (And.intro rfl ?_) | refine And.intro (And.intro rfl (chk_rowI _ _ _ _)) ?_ | refine br_t (by omega) ?_ | refine br_f (by omega) ?_ | refine bs_t (by omega) ?_ | refine bs_f (by omega) ?_ | refine fun (K' : K3) hK' => ?_ | (refine hK' _ _ _ ?_; clear hK' K') | refine draw_auto tok mixed (by kernel_rfl) ?_ | refine br_bt rfl ?_ | refine bs_bt (Eq.refl true) ?_ | refine bs_bf (Eq.refl false) ?_ | refine br_bt (Eq.refl true) ?_ | refine br_bf (Eq.refl false) ?_ | refine CallK.m ?_ | refine Two.l ?_ | refine And.intro (And.intro rfl rfl) ?_)
            refine ⟨k + 1, [(4, some 7)], by omega, by omega, ?_⟩
            have hnew : cellC (fltK b l (k + 1)) = cellC (fltK b l k) ++ [C.i p.1, C.i p.2] := by
              rw [hsu, cellC_app]; rfl
            have hnl : (fltK b l (k + 1)).length = (fltK b l k).length + 1 := by rw [hsu, List.length_append]; rfl
            rw [hnl]
            refine ⟨?_, ?_, rfl, rfl, by first | exact Nat.le_of_ble_eq_true rfl | exact Nat.le_refl _ | omega⟩
            · repeat (first | exact trivial | (refine And.intro (covS_syn (by first | rfl | (refine congrArg some (congrArg V.i ?_); omega)) rfl (by first | exact trivial | exact Nat.le_of_ble_eq_true rfl | exact hy | exact (fun p hp => nomatch hp) | (show (_ : Nat) < _; omega))) ?_) | refine And.intro (covS_bool rfl rfl (by rfl)) ?_)
            · repeat (first | exact trivial | (refine And.intro (covE_some rfl (Nat.le_of_ble_eq_true rfl) (wf_cells _ _) rfl ((ren_cells _ _).trans (congrArg some (by rw [hnew]; rfl)))) ?_) | refine And.intro (covE_some rfl (Nat.le_of_ble_eq_true rfl) (wf_cells _ _) rfl (ren_cells _ _)) ?_ | refine And.intro (covE_nil rfl (Nat.le_of_ble_eq_true rfl) rfl rfl) ?_ | (refine And.intro (covE_some rfl (Nat.le_of_ble_eq_true rfl) (by first | exact wf_ints _ _ | exact wf_bools _ _ | first | exact wf_cells _ _ | simp [C.wf]) rfl (by first | exact ren_ints _ _ | exact ren_bools _ _ | exact ren_shares _ _ | rfl)) ?_))
          | false =>
            rw [hm] at hsu
            have hnew : fltK b l (k + 1) = fltK b l k := by rw [hsu]; simp
            repeat ((conv => whnf); first | (refine And.intro (by first | omega | exact Nat.le_of_ble_eq_true rfl | (dsimp only [inK]; omega) | (simp only [mulS_eq]; omega) | (simp only [mulS_eq, setL_length]; omega) | (simp only [setL_length]; omega) | (simp only [setL_length, List.length_map]; omega) | (exact ⟨by omega, by omega, by first | exact Nat.le_of_ble_eq_true rfl | (dsimp only; omega) | (simp only [setL_length]; omega) | (simp only [setL_length, List.length_map]; omega)⟩) | (exact ⟨by omega, by first | rfl | omega, by omega, Nat.le_of_ble_eq_true rfl, Nat.le_of_ble_eq_true rfl⟩) | (exact ⟨rfl, rfl, rfl, Nat.le_of_ble_eq_true rfl, by first | rfl | omega | exact Nat.le_of_ble_eq_true rfl | (dsimp only; omega) | (simp; done) | (simp; omega), by first | rfl | omega | exact Nat.le_of_ble_eq_true rfl | (dsimp only; omega) | (simp; done) | (simp; omega), by omega, Nat.le_of_ble_eq_true rfl⟩) | exact Eq.refl true) ?_) | refine Exists.intro _ (And.intro rfl ?_) | refine And.intro (And.intro rfl (chk_rowI _ _ _ _)) ?_ | refine br_t (by omega) ?_ | refine br_f (by omega) ?_ | refine bs_t (by omega) ?_ | refine bs_f (by omega) ?_ | refine fun (K' : K3) hK' => ?_ | (refine hK' _ _ _ ?_; clear hK' K') | refine draw_auto tok mixed (by kernel_rfl) ?_ | refine br_bf rfl ?_ | refine bs_bt (Eq.refl true) ?_ | refine bs_bf (Eq.refl false) ?_ | refine br_bt (Eq.refl true) ?_ | refine br_bf (Eq.refl false) ?_ | refine CallK.m ?_ | refine Two.l ?_ | refine And.intro (And.intro rfl rfl) ?_)
            refine ⟨k + 1, [], by omega, by omega, ?_⟩
            rw [hnew]
            refine ⟨?_, ?_, rfl, rfl, by first | exact Nat.le_of_ble_eq_true rfl | exact Nat.le_refl _ | omega⟩
            · repeat (first | exact trivial | (refine And.intro (covS_syn (by first | rfl | (refine congrArg some (congrArg V.i ?_); omega)) rfl (by first | exact trivial | exact Nat.le_of_ble_eq_true rfl | exact hy | exact (fun p hp => nomatch hp) | (show (_ : Nat) < _; omega))) ?_) | refine And.intro (covS_bool rfl rfl (by rfl)) ?_)
            · repeat (first | exact trivial | (refine And.intro (covE_id (Nat.le_of_ble_eq_true rfl) (by first | exact wf_ints _ _ | exact wf_bools _ _ | first | exact wf_cells _ _ | simp [C.wf]) rfl (by rfl)) ?_))
    · have hkl : k = b.length := by omega
      subst hkl
      repeat ((conv => whnf); first | (refine And.intro (by first | omega | exact Nat.le_of_ble_eq_true rfl | (dsimp only [inK]; omega) | (simp only [mulS_eq]; omega) | (simp only [mulS_eq, setL_length]; omega) | (simp only [setL_length]; omega) | (simp only [setL_length, List.length_map]; omega) | (exact ⟨by omega, by omega, by first | exact Nat.le_of_ble_eq_true rfl | (dsimp only; omega) | (simp only [setL_length]; omega) | (simp only [setL_length, List.length_map]; omega)⟩) | (exact ⟨by omega, by first | rfl | omega, by omega, Nat.le_of_ble_eq_true rfl, Nat.le_of_ble_eq_true rfl⟩) | (exact ⟨rfl, rfl, rfl, Nat.le_of_ble_eq_true rfl, by first | rfl | omega | exact Nat.le_of_ble_eq_true rfl | (dsimp only; omega) | (simp; done) | (simp; omega), by first | rfl | omega | exact Nat.le_of_ble_eq_true rfl | (dsimp only; omega) | (simp; done) | (simp; omega), by omega, Nat.le_of_ble_eq_true rfl⟩) | exact Eq.refl true) ?_) | refine Exists.intro _ (And.intro rfl ?_) | refine And.intro (And.intro rfl (chk_rowI _ _ _ _)) ?_ | refine br_t (by omega) ?_ | refine br_f (by omega) ?_ | refine bs_t (by omega) ?_ | refine bs_f (by omega) ?_ | refine fun (K' : K3) hK' => ?_ | (refine hK' _ _ _ ?_; clear hK' K') | refine draw_auto tok mixed (by kernel_rfl) ?_ | refine bs_bt (Eq.refl true) ?_ | refine bs_bf (Eq.refl false) ?_ | refine br_bt (Eq.refl true) ?_ | refine br_bf (Eq.refl false) ?_ | refine CallK.m ?_ | refine Two.l ?_ | refine And.intro (And.intro rfl rfl) ?_)
      exact .inr ⟨4, rfl, rfl⟩
end Go.Proofs.Ytbhpnhcdjmcaoaa

/- Boom: the law of the sets of booms. -/
namespace Go.Proofs.Ytbhpnhcdjmcaoaa
open Go.RowKit
set_option linter.unusedVariables false
set_option linter.unusedSimpArgs false
theorem sets_long (W H : Int) (cs : List Int) (bs l : List Cell) (hcs : cs.length < 9223372036854775808) (hb : bs.length < 9223372036854775808) (hl : l.length < 9223372036854775808) (h : (cs.length : Int) > 300 ∨ (bs.length : Int) > 250 ∨ (l.length : Int) > 250) :
    Spec Try.prog 8 [chR W H cs.length, V.c (.sl 1 bs.length), V.c (.sl 2 l.length)] [⟨0, .ro 0, cs.map C.i⟩, ⟨1, .ro 2, cellC bs⟩, ⟨2, .ro 2, cellC l⟩] 3 (Is (V.c (.bool true))) := by
  refine Spec.of tok Try.func8 rfl rfl rfl fun n0 cx => vc_ok tok ?_
  by_cases h1 : (cs.length : Int) > 300
  · repeat ((conv => whnf); first | refine Exists.intro _ (And.intro rfl ?_) | refine bs_t (by omega) ?_ | refine fun (K' : K3) hK' => ?_ | (refine hK' _ _ _ ?_; clear hK' K') | refine wide_k hcs ?_ | refine awake_k ?_ | refine CallK.m ?_)
    intro ρ; rfl
  · by_cases h2 : (bs.length : Int) > 250
    · repeat ((conv => whnf); first | refine Exists.intro _ (And.intro rfl ?_) | refine bs_t (by omega) ?_ | refine bs_f (by omega) ?_ | refine fun (K' : K3) hK' => ?_ | (refine hK' _ _ _ ?_; clear hK' K') | refine wide_k hcs ?_ | refine long_k hb ?_ | refine awake_k ?_ | refine CallK.m ?_)
      intro ρ; rfl
    · have h3 : (l.length : Int) > 250 := by omega
      repeat ((conv => whnf); first | refine Exists.intro _ (And.intro rfl ?_) | refine bs_t (by omega) ?_ | refine bs_f (by omega) ?_ | refine fun (K' : K3) hK' => ?_ | (refine hK' _ _ _ ?_; clear hK' K') | refine wide_k hcs ?_ | refine long_k hl ?_ | refine long_k hb ?_ | refine awake_k ?_ | refine CallK.m ?_)
      intro ρ; rfl
theorem cellsF_len (W : Int) (cs : List Int) (l : List Cell) : (cellsF W cs l).length ≤ cs.length := by
  have := boomsL_len W cs
  have := List.length_filter_le (fun p => decide (p ∈ l)) (boomsL W cs)
  unfold cellsF; omega
theorem app_two (bs l : List Cell) : cellC (bs ++ l) = (([] : List C) ++ (cellC bs).take (bs.length * 2)) ++ (cellC l).take (l.length * 2) := by
  rw [List.nil_append, List.take_of_length_le (by rw [cellC_len]; omega), List.take_of_length_le (by rw [cellC_len]; omega), cellC_app]
theorem len_app1 (bs : List Cell) : (([] : List C) ++ (cellC bs).take (bs.length * 2)).length = (0 + bs.length) * 2 := by
  rw [List.nil_append, List.length_take, cellC_len]; omega
theorem le_cells (l : List Cell) : l.length * 2 ≤ (cellC l).length := by rw [cellC_len]; omega
theorem chk_appA (p : Nat → Bool) (l : List Cell) (n : Nat) (lab : Nat) (kd : Kd) : (([⟨lab, kd, ([] : List C) ++ (cellC l).take n⟩] : List E).all fun e => e.cs.all (C.chk p)) = true := by
  simp only [List.all_cons, List.all_nil, Bool.and_true, List.nil_append]
  exact List.all_eq_true.2 fun c hc => List.all_eq_true.1 (chk_cells p l) c (List.mem_of_mem_take hc)
theorem chk_appB (p : Nat → Bool) (l m : List Cell) (n k : Nat) (lab : Nat) (kd : Kd) : (([⟨lab, kd, (([] : List C) ++ (cellC l).take n) ++ (cellC m).take k⟩] : List E).all fun e => e.cs.all (C.chk p)) = true := by
  simp only [List.all_cons, List.all_nil, Bool.and_true, List.nil_append, List.all_append, Bool.and_eq_true]
  exact ⟨List.all_eq_true.2 fun c hc => List.all_eq_true.1 (chk_cells p l) c (List.mem_of_mem_take hc), List.all_eq_true.2 fun c hc => List.all_eq_true.1 (chk_cells p m) c (List.mem_of_mem_take hc)⟩
theorem blB_of {W H : Int} {cs : List Int} {bs : List Cell} (hv : okC W H cs = true) (hB : okB W H cs bs = true) : blB W H cs bs = (chanO W H cs.length (wetB cs (boomF W H bs))).isNone ∧ blE W H cs bs = 0 := by
  unfold blB blE; rw [hv, hB]; exact ⟨rfl, rfl⟩
set_option maxRecDepth 10000 in
set_option maxHeartbeats 8000000 in
theorem sets_spec (W H : Int) (cs : List Int) (bs l : List Cell) (hcs : ¬ (cs.length : Int) > 300) (hbs : ¬ (bs.length : Int) > 250) (hls : ¬ (l.length : Int) > 250) :
    Spec Try.prog 8 [chR W H cs.length, V.c (.sl 1 bs.length), V.c (.sl 2 l.length)] [⟨0, .ro 0, cs.map C.i⟩, ⟨1, .ro 2, cellC bs⟩, ⟨2, .ro 2, cellC l⟩] 3 (Is (V.c (.bool true))) := by
  have hva := rvalid_spec W H cs (by omega)
  have hl : cs.length ≤ 300 := by omega
  have hcb : (cellC bs).length = 2 * bs.length := cellC_len bs
  have hcl : (cellC l).length = 2 * l.length := cellC_len l
  refine Spec.of tok Try.func8 rfl rfl rfl fun n0 cx => vc_ok tok ?_
  cases hv : okC W H cs with
  | false =>
    repeat ((conv => whnf); first | refine Exists.intro _ (And.intro rfl ?_) | refine bs_f (by omega) ?_ | refine fun (K' : K3) hK' => ?_ | (refine hK' _ _ _ ?_; clear hK' K') | refine wide_k (by omega) ?_ | refine long_k (by omega) ?_ | refine CallK.val (R := []) hva (by kernel_rfl) rfl (by simp [V.wf, A.wf, C.wf, V.i]) ⟨roE_ints (l := 0) rfl (by omega) rfl (.inl rfl), trivial⟩ rfl rfl trivial ?_ | refine br_bt (congrArg Bool.not hv) ?_ | refine awake_k ?_ | refine CallK.m ?_)
    intro ρ; rfl
  | true =>
    have hok := okC_iff.1 hv
    have hW : 0 < W := by have := hok.w; omega
    have hF := cellsF_ok hok bs
    have hA := cellsF_ok hok (bs ++ l)
    have hFl := cellsF_len W cs bs
    have hAl := cellsF_len W cs (bs ++ l)
    have k1 := lawCells_spec W H cs bs hW hl (by omega)
    have k2 := lawCells_spec W H cs (bs ++ l) hW hl (by rw [List.length_append]; omega)
    rw [show (bs ++ l).length = 0 + bs.length + l.length by simp] at k2
    have happ := app_two bs l
    have k3 := pBlocks_spec W H cs (cellsF W cs bs) hl (by omega)
    have k4 := pBlocks_spec W H cs (cellsF W cs (bs ++ l)) hl (by omega)
    rw [(blB_of hv hF).1, (blB_of hv hF).2] at k3
    rw [(blB_of hv hA).1, (blB_of hv hA).2] at k4
    have k6 := total_spec W H cs (cellsF W cs bs) hok (okB_on hW hF) (by omega)
    have hsub : ∀ p ∈ cellsF W cs bs, p ∈ cellsF W cs (bs ++ l) := fun p hp => by
      rw [cellsF_mem hok] at hp ⊢
      exact ⟨hp.1, List.mem_append.2 (.inl hp.2)⟩
    have hmono := fun h => blocks_mono hok hF hA hsub h
    have hcF := fun h => blocks_cost hok hF h
    have hcA := fun h => blocks_cost hok hA h
    have hown := fun l w h => own_blocks (l := l) (w := w) hok h
    obtain ⟨ff, hff⟩ : ∃ f, f = cellsF W cs bs := ⟨_, rfl⟩
    obtain ⟨fa, hfa⟩ : ∃ f, f = cellsF W cs (bs ++ l) := ⟨_, rfl⟩
    obtain ⟨cf, hcfe⟩ : ∃ c, c = chanO W H cs.length (wetB cs (boomF W H (cellsF W cs bs))) := ⟨_, rfl⟩
    obtain ⟨ca, hcae⟩ : ∃ c, c = chanO W H cs.length (wetB cs (boomF W H (cellsF W cs (bs ++ l)))) := ⟨_, rfl⟩
    rw [← hcfe] at k3
    rw [← hcae] at k4
    simp only [← hcfe, ← hcae] at hmono hcF hcA
    obtain ⟨tf, htf⟩ : ∃ t, t = totC W cs (cellsF W cs bs) := ⟨_, rfl⟩
    rw [← htf] at k6
    simp only [← htf] at hcF
    rw [← hff] at k1 k3 k6
    rw [← hfa] at k2 k4
    clear hsub
    cases hb : barO W H cs with
    | none =>
      have k5 := cheapN hl hv hb
      have n1 : cf ≠ none := fun h => by obtain ⟨_, _, he, _⟩ := hcF h; rw [hb] at he; cases he
      have n2 : ca ≠ none := fun h => by obtain ⟨_, _, he, _⟩ := hcA h; rw [hb] at he; cases he
      obtain ⟨c1, rfl⟩ := Option.ne_none_iff_exists'.1 n1
      obtain ⟨c2, rfl⟩ := Option.ne_none_iff_exists'.1 n2
      repeat ((conv => whnf); first | (refine And.intro (by first | omega | (dsimp only [inK]; omega) | (exact ⟨rfl, rfl, rfl, Nat.le_of_ble_eq_true rfl, by rfl, by dsimp only; omega, by omega, Nat.le_of_ble_eq_true rfl⟩) | exact Eq.refl true) ?_) | refine Exists.intro _ (And.intro rfl ?_) | refine br_t (by omega) ?_ | refine br_f (by omega) ?_ | refine bs_f (by omega) ?_ | refine fun (K' : K3) hK' => ?_ | (refine hK' _ _ _ ?_; clear hK' K') | refine draw_kill [5, 6] tok mixed (by decide +kernel) ?_ | refine wide_k (by omega) ?_ | refine long_k (by omega) ?_ | refine CallK.val (R := []) hva (by kernel_rfl) rfl (by simp [V.wf, A.wf, C.wf, V.i]) ⟨roE_ints (l := 0) rfl (by omega) rfl (.inl rfl), trivial⟩ rfl rfl trivial ?_ | refine br_bf (congrArg Bool.not hv) ?_ | refine CallK.cellsR (R := []) k1 (by kernel_rfl) rfl (by simp [V.wf, A.wf, C.wf, V.i]) ⟨roE_ints (l := 0) rfl (by omega) rfl (.inl rfl), roE_cells (l := 1) rfl (by omega) rfl (.inr rfl), trivial⟩ rfl ?_ | refine And.intro ⟨rfl, rfl, rfl, Nat.le_of_ble_eq_true rfl, len_app1 bs, le_cells l, by omega, Nat.le_of_ble_eq_true rfl⟩ ?_ | refine And.intro (And.intro rfl (chk_appA _ _ _ _ _)) ?_ | refine And.intro (And.intro rfl (chk_appB _ _ _ _ _ _ _)) ?_ | refine And.intro (And.intro rfl (chk_rowC _ _ _ _)) ?_ | (refine HD_mk (fun _ h => CallK.cellsR (R := [(0, some 0), (1, some 7)]) k2 (by kernel_rfl) rfl (by simp [V.wf, A.wf, C.wf, V.i]) ⟨roE_ints (l := 0) rfl (by omega) rfl (.inl rfl), ⟨by show 1 < 2; omega, wf_cells _ _, _, _, rfl, .inr rfl, (ren_cells _ _).trans (congrArg some happ)⟩, trivial⟩ rfl h) ?_) | refine CallK.val (R := [(0, some 0), (1, some 4)]) k3 (by kernel_rfl) rfl (by simp [V.wf, A.wf, C.wf, V.i]) ⟨roE_ints (l := 0) rfl (by omega) rfl (.inl rfl), roE_cells (l := 4) rfl (by omega) rfl (.inl rfl), trivial⟩ rfl rfl (by simp [V.wf, A.wf, C.wf]) ?_ | refine CallK.val (R := [(0, some 0), (1, some 8)]) k4 (by kernel_rfl) rfl (by simp [V.wf, A.wf, C.wf, V.i]) ⟨roE_ints (l := 0) rfl (by omega) rfl (.inl rfl), roE_cells (l := 8) rfl (by omega) rfl (.inl rfl), trivial⟩ rfl rfl (by simp [V.wf, A.wf, C.wf]) ?_ | refine CallK.val (R := []) k5 (by kernel_rfl) rfl (by simp [V.wf, A.wf, C.wf, V.i]) ⟨roE_ints (l := 0) rfl (by omega) rfl (.inl rfl), trivial⟩ rfl rfl (by simp [V.wf, A.wf, C.wf]) ?_ | refine br_bt (Eq.refl true) ?_ | refine awake_k ?_ | refine CallK.m ?_ | refine And.intro (And.intro rfl rfl) ?_)
      intro ρ; rfl
    | some q =>
      obtain ⟨bl, w⟩ := q
      have k5 := cheapS hl hv hb
      have k7 := pBarrier_spec W H cs hl
      obtain ⟨e1, e2⟩ := barC_some hv hb
      rw [e1, e2] at k7
      have hbi := bar_is hok hb
      have hbl : (cellsL W bl).length ≤ 100 := hbi.1.len.2
      have k8 := lawCells_spec W H cs (cellsL W bl) hW hl (by omega)
      have hO := cellsF_ok hok (cellsL W bl)
      have hOl := cellsF_len W cs (cellsL W bl)
      have k9 := pBlocks_spec W H cs (cellsF W cs (cellsL W bl)) hl (by omega)
      obtain ⟨o1, o2⟩ := hown bl w hb
      rw [(blB_of hv hO).1, (blB_of hv hO).2, o1] at k9
      have k10 := total_spec W H cs (cellsF W cs (cellsL W bl)) hok (okB_on hW hO) (by omega)
      rw [o2] at k10
      obtain ⟨x, hx⟩ : ∃ x, x = w.1 := ⟨_, rfl⟩
      obtain ⟨bc, hbc⟩ : ∃ b, b = cellsL W bl := ⟨_, rfl⟩
      rw [← hbc] at k7 k8 k9 k10 hbl
      obtain ⟨fo, hfo⟩ : ∃ b, b = cellsF W cs bc := ⟨_, rfl⟩
      rw [← hfo] at k8 k9 k10
      rw [← hx] at k5 k10
      cases cf with
      | none =>
        have h1 := hmono rfl
        have h2 : x ≤ tf := by
          obtain ⟨_, w', he, hle⟩ := hcF rfl
          rw [hb] at he; cases he; omega
        rw [h1] at k4
        repeat ((conv => whnf); first | (refine And.intro (by first | omega | (dsimp only [inK]; omega) | (exact ⟨rfl, rfl, rfl, Nat.le_of_ble_eq_true rfl, by rfl, by dsimp only; omega, by omega, Nat.le_of_ble_eq_true rfl⟩) | exact Eq.refl true) ?_) | refine Exists.intro _ (And.intro rfl ?_) | refine br_t (by omega) ?_ | refine br_f (by omega) ?_ | refine bs_f (by omega) ?_ | refine fun (K' : K3) hK' => ?_ | (refine hK' _ _ _ ?_; clear hK' K') | refine draw_kill [5, 6] tok mixed (by decide +kernel) ?_ | refine wide_k (by omega) ?_ | refine long_k (by omega) ?_ | refine CallK.val (R := []) hva (by kernel_rfl) rfl (by simp [V.wf, A.wf, C.wf, V.i]) ⟨roE_ints (l := 0) rfl (by omega) rfl (.inl rfl), trivial⟩ rfl rfl trivial ?_ | refine br_bf (congrArg Bool.not hv) ?_ | refine CallK.cellsR (R := []) k1 (by kernel_rfl) rfl (by simp [V.wf, A.wf, C.wf, V.i]) ⟨roE_ints (l := 0) rfl (by omega) rfl (.inl rfl), roE_cells (l := 1) rfl (by omega) rfl (.inr rfl), trivial⟩ rfl ?_ | refine And.intro ⟨rfl, rfl, rfl, Nat.le_of_ble_eq_true rfl, len_app1 bs, le_cells l, by omega, Nat.le_of_ble_eq_true rfl⟩ ?_ | refine And.intro (And.intro rfl (chk_appA _ _ _ _ _)) ?_ | refine And.intro (And.intro rfl (chk_appB _ _ _ _ _ _ _)) ?_ | refine And.intro (And.intro rfl (chk_rowC _ _ _ _)) ?_ | (refine HD_mk (fun _ h => CallK.cellsR (R := [(0, some 0), (1, some 7)]) k2 (by kernel_rfl) rfl (by simp [V.wf, A.wf, C.wf, V.i]) ⟨roE_ints (l := 0) rfl (by omega) rfl (.inl rfl), ⟨by show 1 < 2; omega, wf_cells _ _, _, _, rfl, .inr rfl, (ren_cells _ _).trans (congrArg some happ)⟩, trivial⟩ rfl h) ?_) | refine CallK.val (R := [(0, some 0), (1, some 4)]) k3 (by kernel_rfl) rfl (by simp [V.wf, A.wf, C.wf, V.i]) ⟨roE_ints (l := 0) rfl (by omega) rfl (.inl rfl), roE_cells (l := 4) rfl (by omega) rfl (.inl rfl), trivial⟩ rfl rfl (by simp [V.wf, A.wf, C.wf]) ?_ | refine CallK.val (R := [(0, some 0), (1, some 8)]) k4 (by kernel_rfl) rfl (by simp [V.wf, A.wf, C.wf, V.i]) ⟨roE_ints (l := 0) rfl (by omega) rfl (.inl rfl), roE_cells (l := 8) rfl (by omega) rfl (.inl rfl), trivial⟩ rfl rfl (by simp [V.wf, A.wf, C.wf]) ?_ | refine CallK.val (R := []) k5 (by kernel_rfl) rfl (by simp [V.wf, A.wf, C.wf, V.i]) ⟨roE_ints (l := 0) rfl (by omega) rfl (.inl rfl), trivial⟩ rfl rfl (by simp [V.wf, A.wf, C.wf]) ?_ | refine CallK.val (R := [(0, some 0), (1, some 4)]) k6 (by kernel_rfl) rfl (by simp [V.wf, A.wf, C.wf, V.i]) ⟨roE_ints (l := 0) rfl (by omega) rfl (.inl rfl), roE_cells (l := 4) rfl (by omega) rfl (.inl rfl), trivial⟩ rfl rfl trivial ?_ | refine CallK.cellsE (R := []) k7 (by kernel_rfl) rfl (by simp [V.wf, A.wf, C.wf, V.i]) ⟨roE_ints (l := 0) rfl (by omega) rfl (.inl rfl), trivial⟩ rfl ?_ | refine CallK.cellsR (R := [(0, some 0), (1, some 9)]) k8 (by kernel_rfl) rfl (by simp [V.wf, A.wf, C.wf, V.i]) ⟨roE_ints (l := 0) rfl (by omega) rfl (.inl rfl), roE_cells (l := 9) rfl (by omega) rfl (.inr rfl), trivial⟩ rfl ?_ | refine CallK.val (R := [(0, some 0), (1, some 10)]) k9 (by kernel_rfl) rfl (by simp [V.wf, A.wf, C.wf, V.i]) ⟨roE_ints (l := 0) rfl (by omega) rfl (.inl rfl), roE_cells (l := 10) rfl (by omega) rfl (.inl rfl), trivial⟩ rfl rfl (by simp [V.wf, A.wf, C.wf]) ?_ | refine CallK.val (R := [(0, some 0), (1, some 10)]) k10 (by kernel_rfl) rfl (by simp [V.wf, A.wf, C.wf, V.i]) ⟨roE_ints (l := 0) rfl (by omega) rfl (.inl rfl), roE_cells (l := 10) rfl (by omega) rfl (.inl rfl), trivial⟩ rfl rfl trivial ?_ | refine bs_bf (Eq.refl false) ?_ | refine br_bt (Eq.refl true) ?_ | refine awake_k ?_ | refine CallK.m ?_ | refine And.intro (And.intro rfl rfl) ?_)
        intro ρ; rfl
      | some c1 =>
        obtain ⟨b, hbb⟩ : ∃ b, b = ca.isNone := ⟨_, rfl⟩
        rw [← hbb] at k4
        repeat ((conv => whnf); first | (refine And.intro (by first | omega | (dsimp only [inK]; omega) | (exact ⟨rfl, rfl, rfl, Nat.le_of_ble_eq_true rfl, by rfl, by dsimp only; omega, by omega, Nat.le_of_ble_eq_true rfl⟩) | exact Eq.refl true) ?_) | refine Exists.intro _ (And.intro rfl ?_) | refine br_t (by omega) ?_ | refine br_f (by omega) ?_ | refine bs_f (by omega) ?_ | refine fun (K' : K3) hK' => ?_ | (refine hK' _ _ _ ?_; clear hK' K') | refine draw_kill [5, 6] tok mixed (by decide +kernel) ?_ | refine wide_k (by omega) ?_ | refine long_k (by omega) ?_ | refine CallK.val (R := []) hva (by kernel_rfl) rfl (by simp [V.wf, A.wf, C.wf, V.i]) ⟨roE_ints (l := 0) rfl (by omega) rfl (.inl rfl), trivial⟩ rfl rfl trivial ?_ | refine br_bf (congrArg Bool.not hv) ?_ | refine CallK.cellsR (R := []) k1 (by kernel_rfl) rfl (by simp [V.wf, A.wf, C.wf, V.i]) ⟨roE_ints (l := 0) rfl (by omega) rfl (.inl rfl), roE_cells (l := 1) rfl (by omega) rfl (.inr rfl), trivial⟩ rfl ?_ | refine And.intro ⟨rfl, rfl, rfl, Nat.le_of_ble_eq_true rfl, len_app1 bs, le_cells l, by omega, Nat.le_of_ble_eq_true rfl⟩ ?_ | refine And.intro (And.intro rfl (chk_appA _ _ _ _ _)) ?_ | refine And.intro (And.intro rfl (chk_appB _ _ _ _ _ _ _)) ?_ | refine And.intro (And.intro rfl (chk_rowC _ _ _ _)) ?_ | (refine HD_mk (fun _ h => CallK.cellsR (R := [(0, some 0), (1, some 7)]) k2 (by kernel_rfl) rfl (by simp [V.wf, A.wf, C.wf, V.i]) ⟨roE_ints (l := 0) rfl (by omega) rfl (.inl rfl), ⟨by show 1 < 2; omega, wf_cells _ _, _, _, rfl, .inr rfl, (ren_cells _ _).trans (congrArg some happ)⟩, trivial⟩ rfl h) ?_) | refine CallK.val (R := [(0, some 0), (1, some 4)]) k3 (by kernel_rfl) rfl (by simp [V.wf, A.wf, C.wf, V.i]) ⟨roE_ints (l := 0) rfl (by omega) rfl (.inl rfl), roE_cells (l := 4) rfl (by omega) rfl (.inl rfl), trivial⟩ rfl rfl (by simp [V.wf, A.wf, C.wf]) ?_ | refine CallK.val (R := [(0, some 0), (1, some 8)]) k4 (by kernel_rfl) rfl (by simp [V.wf, A.wf, C.wf, V.i]) ⟨roE_ints (l := 0) rfl (by omega) rfl (.inl rfl), roE_cells (l := 8) rfl (by omega) rfl (.inl rfl), trivial⟩ rfl rfl (by simp [V.wf, A.wf, C.wf]) ?_ | refine CallK.val (R := []) k5 (by kernel_rfl) rfl (by simp [V.wf, A.wf, C.wf, V.i]) ⟨roE_ints (l := 0) rfl (by omega) rfl (.inl rfl), trivial⟩ rfl rfl (by simp [V.wf, A.wf, C.wf]) ?_ | refine CallK.cellsE (R := []) k7 (by kernel_rfl) rfl (by simp [V.wf, A.wf, C.wf, V.i]) ⟨roE_ints (l := 0) rfl (by omega) rfl (.inl rfl), trivial⟩ rfl ?_ | refine CallK.cellsR (R := [(0, some 0), (1, some 9)]) k8 (by kernel_rfl) rfl (by simp [V.wf, A.wf, C.wf, V.i]) ⟨roE_ints (l := 0) rfl (by omega) rfl (.inl rfl), roE_cells (l := 9) rfl (by omega) rfl (.inr rfl), trivial⟩ rfl ?_ | refine CallK.val (R := [(0, some 0), (1, some 10)]) k9 (by kernel_rfl) rfl (by simp [V.wf, A.wf, C.wf, V.i]) ⟨roE_ints (l := 0) rfl (by omega) rfl (.inl rfl), roE_cells (l := 10) rfl (by omega) rfl (.inl rfl), trivial⟩ rfl rfl (by simp [V.wf, A.wf, C.wf]) ?_ | refine CallK.val (R := [(0, some 0), (1, some 10)]) k10 (by kernel_rfl) rfl (by simp [V.wf, A.wf, C.wf, V.i]) ⟨roE_ints (l := 0) rfl (by omega) rfl (.inl rfl), roE_cells (l := 10) rfl (by omega) rfl (.inl rfl), trivial⟩ rfl rfl trivial ?_ | refine br_bf (Eq.refl false) ?_ | refine br_bt (Eq.refl true) ?_ | refine awake_k ?_ | refine CallK.m ?_ | refine And.intro (And.intro rfl rfl) ?_)
        intro ρ; rfl
theorem sets_any (W H : Int) (cs : List Int) (bs l : List Cell) (ao : Option Addr) (c : Nat) (bo : Option Addr) (d : Nat) (co : Option Addr) (e : Nat) (w : World) (h : IntsAt w ao cs) (h2 : CellsAt w bo d bs) (h3 : CellsAt w co e l) :
    Calls Try.prog 8 #[.agg #[.int .i64 W, .int .i64 H, .slice ao cs.length c], .slice bo bs.length d, .slice co l.length e] w fun e w' => e = .returned (.bool true) ∧ Below w.heap.size w w' := by
  have hp : Hp w.heap.size (envL [(ao, c), (bo, d), (co, e)]) w [⟨0, .ro 0, cs.map C.i⟩, ⟨1, .ro 2, cellC bs⟩, ⟨2, .ro 2, cellC l⟩] 3 := by
    refine Hp.rosz (fun x hx => ?_) rfl
    simp only [List.mem_cons, List.not_mem_nil, or_false] at hx
    rcases hx with rfl | rfl | rfl
    · exact ent_ints h (by show 0 < 3; omega) rfl
    · exact ent_cells h2 (by show 1 < 3; omega) rfl
    · exact ent_cells h3 (by show 2 < 3; omega) rfl
  by_cases hl : (cs.length : Int) > 300 ∨ (bs.length : Int) > 250 ∨ (l.length : Int) > 250
  · exact isTrue_any (vs := [chR W H cs.length, V.c (.sl 1 bs.length), V.c (.sl 2 l.length)]) (sets_long W H cs bs l h.2 h2.2.2 h3.2.2 hl) hp (by simp [V.wf, A.wf, C.wf]) rfl
  · exact isTrue_any (vs := [chR W H cs.length, V.c (.sl 1 bs.length), V.c (.sl 2 l.length)]) (sets_spec W H cs bs l (fun e => hl (.inl e)) (fun e => hl (.inr (.inl e))) (fun e => hl (.inr (.inr e)))) hp (by simp [V.wf, A.wf, C.wf]) rfl
end Go.Proofs.Ytbhpnhcdjmcaoaa

