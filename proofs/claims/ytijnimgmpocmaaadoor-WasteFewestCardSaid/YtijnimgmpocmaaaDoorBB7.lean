/- Texts of the proof, part 7: J5, Y1, L3, O3, L11, D1. -/
import Derived.Test.YtijnimgmpocmaaaDoorBB6
import Derived.WalkKit
import Derived.Below
import Derived.Lib.TrailingZeros
import Derived.Laws.OwnMore
import Derived.Maps.AppendAt
import Derived.Laws.IdiomCopy
import Derived.Laws.CopyRow
import Derived.IntWalk
import Derived.StillTail
import Derived.Scope
import Derived.ChangeKeysEq
import Derived.Laws.Small
import Derived.OrdersIn
import Derived.TacticsIn
import Derived.OwnWalkIn
import Derived.RangeFuncNested
import Derived.RangeFuncLeaves
import Derived.RangeFuncRecord
import Derived.Maps.Keyed
import Derived.Maps.RangeRun
import Derived.DeepKeys4
import Derived.Test.YtijnimgmpocmaaaDoorRows
import Derived.KernelRfl
import Derived.Shelf.Spec.TrailingZeros
import Derived.PlainAid
import Derived.StillTailTactics
import Derived.WalkSpells
import Derived.OwnWalk
import Derived.Deep.RegionLaw
import Derived.Lib.SliceRun
import Derived.Deep.OwnRows
import Derived.LoopTactic
import Derived.Lib.Hide
import Derived.ProofKit
import Derived.OpenShut
import Derived.Lib.SmallJoins
import Derived.Deep.Slices
import Derived.Deep.RegionHeld3
import Derived.LaidMore
import Derived.Stop.Joined
/- Waste, plain: the fewest skips, kinds that all clash, kinds apart; how many numbers a list has. -/
namespace Go.Proofs.YtijnimgmpocmaaaDoor
open Go.RowKit
set_option linter.unusedVariables false
set_option linter.unusedSimpArgs false
theorem few_nat {n : Nat} {qs : List (Nat × Nat)} (hk : Knd n qs) : ∃ k : Nat, fewI (tabS n qs) n = (k : Int) ∧ 1 ≤ k ∧ k ≤ n ∧ ∀ x, (∃ f : List Nat, f.length = n ∧ (∀ s ∈ f, s < x) ∧ rgt (clP qs) f) ↔ k ≤ x := by
  obtain ⟨k, h1, h2, h3, h4⟩ := fewI_least hk
  have hi := fun x => few_iff (x := x) h3 h4
  refine ⟨k, h2, ?_, h1, hi⟩
  rcases Nat.eq_zero_or_pos k with h | h
  · exfalso
    obtain ⟨f, e1, e2, _⟩ := (hi 0).2 (by omega)
    have := hk.rng
    match f, e1, e2 with
    | [], e1, _ => simp at e1; omega
    | s :: f, _, e2 => have := e2 s (by simp); omega
  · exact h
/-! How many different numbers a list has. -/
def uqK (l : List Int) (i k : Nat) : Bool := (List.range k).all fun j => !decide (l.getD i 0 = l.getD j 0)
def usdK (l : List Int) (k : Nat) : Nat := ((List.range k).filter fun i => uqK l i i).length
def usd (l : List Int) : Nat := usdK l l.length
theorem uqK_succ (l : List Int) (i k : Nat) : uqK l i (k + 1) = (uqK l i k && !decide (l.getD i 0 = l.getD k 0)) := by simp [uqK, List.range_succ, List.all_append]
theorem usdK_succ (l : List Int) (k : Nat) : usdK l (k + 1) = usdK l k + (uqK l k k).toNat := by
  unfold usdK
  rw [List.range_succ, List.filter_append, List.length_append]
  cases h : uqK l k k <;> simp [h]
theorem usdK_le (l : List Int) (k : Nat) : usdK l k ≤ k := by
  unfold usdK
  have := List.length_filter_le (fun i => uqK l i i) (List.range k)
  rwa [List.length_range] at this
theorem fst_ex (l : List Int) : ∀ i, i < l.length → ∃ j, j ≤ i ∧ uqK l j j = true ∧ l.getD j 0 = l.getD i 0 := by
  intro i
  induction i using Nat.strongRecOn with
  | _ i ih =>
    intro hi
    cases h : uqK l i i with
    | true => exact ⟨i, Nat.le_refl _, h, rfl⟩
    | false =>
      rw [← Bool.not_eq_true, uqK, List.all_eq_true] at h
      have : ∃ j, j < i ∧ l.getD i 0 = l.getD j 0 := by
        apply Classical.byContradiction
        intro h2
        refine h fun j hj => ?_
        have : ¬ l.getD i 0 = l.getD j 0 := fun e => h2 ⟨j, List.mem_range.1 hj, e⟩
        rw [decide_eq_false this]; rfl
      obtain ⟨j, hj, he⟩ := this
      obtain ⟨m, h1, h2, h3⟩ := ih j hj (by omega)
      exact ⟨m, by omega, h2, by rw [h3, he]⟩
def fstS (l : List Int) : List Nat := (List.range l.length).filter fun i => uqK l i i
theorem fstS_len (l : List Int) : (fstS l).length = usd l := rfl
def nmI (l : List Int) (i : Nat) : Nat := (fstS l).findIdx fun j => decide (l.getD j 0 = l.getD i 0)
theorem nmI_lt {l : List Int} {i : Nat} (hi : i < l.length) : nmI l i < usd l := by
  rw [← fstS_len]
  obtain ⟨j, h1, h2, h3⟩ := fst_ex l i hi
  exact List.findIdx_lt_length_of_exists ⟨j, List.mem_filter.2 ⟨List.mem_range.2 (by omega), h2⟩, by simpa using h3⟩
theorem nmI_at {l : List Int} {i : Nat} (hi : i < l.length) : l.getD ((fstS l).getD (nmI l i) 0) 0 = l.getD i 0 := by
  have h := nmI_lt hi
  rw [← fstS_len] at h
  have h2 := List.findIdx_getElem (p := fun j => decide (l.getD j 0 = l.getD i 0)) (xs := fstS l) (w := h)
  have e : (fstS l).getD (nmI l i) 0 = (fstS l)[nmI l i]'h := by simp [List.getD_eq_getElem?_getD, h]
  rw [e]
  exact of_decide_eq_true h2
theorem nmI_inj {l : List Int} {i j : Nat} (hi : i < l.length) (hj : j < l.length) (h : nmI l i = nmI l j) : l.getD i 0 = l.getD j 0 := by
  rw [← nmI_at hi, h, nmI_at hj]
theorem rgtP_iff {qs : List (Nat × Nat)} {l : List Int} : rgtP qs l = true ↔ ∀ a b, (a, b) ∈ qs → l.getD a 0 ≠ l.getD b 0 := by
  unfold rgtP
  rw [List.all_eq_true]
  constructor
  · intro h a b hab e
    have := h _ hab
    simp only at this
    rw [decide_eq_true e] at this; cases this
  · rintro h ⟨a, b⟩ hab
    have := h a b hab
    simp only
    rw [decide_eq_false this]; rfl
section
variable {n k : Nat} {qs : List (Nat × Nat)} (hk : Knd n qs) (hi : ∀ x, (∃ f : List Nat, f.length = n ∧ (∀ s ∈ f, s < x) ∧ rgt (clP qs) f) ↔ k ≤ x)
include hk hi
theorem usd_ge {l : List Int} (hl : l.length = n) (hr : rgtP qs l = true) : k ≤ usd l := by
  rw [rgtP_iff] at hr
  refine (hi _).1 ⟨(List.range n).map (nmI l), by simp, fun s hs => ?_, fun i j hij hj hc => ?_⟩
  · obtain ⟨i, h1, rfl⟩ := List.mem_map.1 hs
    exact nmI_lt (by have := List.mem_range.1 h1; omega)
  · rw [List.length_map, List.length_range] at hj
    have g : ∀ i, i < n → ((List.range n).map (nmI l)).getD i 0 = nmI l i := fun i hi => by simp [List.getD_eq_getElem?_getD, hi]
    rw [g i (by omega), g j hj]
    exact fun e => hr i j (clP_iff.1 hc) (nmI_inj (by omega) (by omega) e)
omit hk hi in
theorem usd_le {l : List Int} {x : Nat} (h : ∀ z ∈ l, 0 ≤ z ∧ z < x) : usd l ≤ x := by
  have hg : ∀ i, i < l.length → 0 ≤ l.getD i 0 ∧ l.getD i 0 < x := fun i hi => by
    rw [List.getD_eq_getElem?_getD, List.getElem?_eq_getElem hi]
    exact h _ (List.getElem_mem _)
  have h1 : ((fstS l).map fun i => (l.getD i 0).toNat).Nodup := by
    rw [List.nodup_iff_pairwise_ne, List.pairwise_map]
    have h2 : (fstS l).Pairwise (· < ·) := List.Pairwise.filter _ List.pairwise_lt_range
    refine h2.imp_of_mem fun {a b} ha hb hab he => ?_
    obtain ⟨ha1, _⟩ := List.mem_filter.1 ha
    obtain ⟨hb1, hb2⟩ := List.mem_filter.1 hb
    have ha1 := List.mem_range.1 ha1
    have hb1 := List.mem_range.1 hb1
    rw [uqK, List.all_eq_true] at hb2
    have h3 := hb2 a (List.mem_range.2 hab)
    have h4 := hg a ha1
    have h5 := hg b hb1
    rw [decide_eq_true (show l.getD b 0 = l.getD a 0 by omega)] at h3; cases h3
  have := nodup_len h1 (m := List.range x) fun y hy => by
    obtain ⟨i, hi, rfl⟩ := List.mem_map.1 hy
    have := hg i (List.mem_range.1 (List.mem_filter.1 hi).1)
    exact List.mem_range.2 (by omega)
  rw [List.length_map, List.length_range, fstS_len] at this
  exact this
omit hk hi in
theorem bestK_ok {ok : Nat → Bool} (h0 : ok 0 = true) : ∀ m, ok (bestK ok m) = true
  | 0 => h0
  | m + 1 => by
    show ok (stB ok (bestK ok m) m) = true
    unfold stB
    split
    · rename_i h; exact h.1
    · exact bestK_ok h0 m
omit hk hi in
theorem bestK_max {ok : Nat → Bool} : ∀ {m s : Nat}, s < m → ok s = true → (bitsL s).length ≤ (bitsL (bestK ok m)).length
  | m + 1, s, hs, h => by
    have hmono : (bitsL (bestK ok m)).length ≤ (bitsL (stB ok (bestK ok m) m)).length := by
      unfold stB
      split
      · rename_i h; rcases h.2 with h | h <;> omega
      · exact Nat.le_refl _
    rcases Nat.lt_or_ge s m with h1 | h1
    · exact Nat.le_trans (bestK_max h1 h) hmono
    · obtain rfl : s = m := by omega
      show _ ≤ (bitsL (stB ok (bestK ok s) s)).length
      unfold stB
      split
      · exact Nat.le_refl _
      · rename_i h2
        rcases Nat.lt_or_ge (bitsL (bestK ok s)).length (bitsL s).length with h3 | h3
        · exact absurd ⟨h, .inl h3⟩ h2
        · exact h3
omit hk hi in
theorem okS_0 (cl : Nat → Nat → Bool) (c : Bool) : okS cl c 0 = true := rfl
omit hk hi in
theorem bits_lt {s n b : Nat} (hs : s < 2 ^ n) (hb : b ∈ bitsL s) : b < n := by
  have h := (List.mem_filter.1 hb).2
  rcases Nat.lt_or_ge b n with h1 | h1
  · exact h1
  · rw [Nat.testBit_lt_two_pow (Nat.lt_of_lt_of_le hs (Nat.pow_le_pow_right (by omega) h1))] at h; cases h
theorem all_few : (bitsL (allQ n qs)).length ≤ k := by
  obtain ⟨f, e1, e2, e3⟩ := (hi k).2 (Nat.le_refl _)
  rw [← bestK_all hk]
  have h1 := bestK_ok (okS_0 (symC (clP qs)) true) (2 ^ n)
  have h2 := bestK_lt (okS (symC (clP qs)) true) (Nat.two_pow_pos n)
  obtain ⟨s, hs⟩ : ∃ s, s = bestK (okS (symC (clP qs)) true) (2 ^ n) := ⟨_, rfl⟩
  rw [← hs] at h1 h2 ⊢
  rw [okS_iff] at h1
  have h3 : ((bitsL s).map fun a => f.getD a 0).Nodup := by
    rw [List.nodup_iff_pairwise_ne, List.pairwise_map]
    refine (bitsL_sorted s).imp_of_mem fun {a b} ha hb hab he => ?_
    have h4 := h1 b a hb ha hab
    have h5 := bits_lt h2 hb
    rw [symC_sym] at h4
    rw [symC_lt _ hab] at h4
    exact e3 a b hab (by omega) h4 he
  have := nodup_len h3 (m := List.range k) fun y hy => by
    obtain ⟨a, ha, rfl⟩ := List.mem_map.1 hy
    have := bits_lt h2 ha
    refine List.mem_range.2 (e2 _ ?_)
    rw [List.getD_eq_getElem?_getD, List.getElem?_eq_getElem (by omega)]
    exact List.getElem_mem _
  rwa [List.length_map, List.length_range] at this
omit hk hi in
theorem flt_add (p : Nat → Bool) : ∀ f : List Nat, f.length = (f.filter p).length + (f.filter fun s => !p s).length
  | [] => rfl
  | x :: f => by
    have := flt_add p f
    rw [List.filter_cons, List.filter_cons]
    cases h : p x <;> simp [h] <;> omega
omit hk hi in
theorem cls_le (m : Nat) : ∀ (k : Nat) (f : List Nat), (∀ s ∈ f, s < k) → (∀ c, (f.filter fun s => decide (s = c)).length ≤ m) → f.length ≤ k * m
  | 0, [], _, _ => by simp
  | 0, s :: f, h, _ => by have := h s (by simp); omega
  | k + 1, f, h, hc => by
    have h1 := cls_le m k (f.filter fun s => decide (s < k)) (fun s hs => by simpa using (List.mem_filter.1 hs).2) (fun c => by
      refine Nat.le_trans (List.Sublist.length_le ?_) (hc c)
      exact List.Sublist.filter _ List.filter_sublist)
    have h2 := flt_add (fun s => decide (s < k)) f
    have h3 : (f.filter fun s => !decide (s < k)) = f.filter fun s => decide (s = k) := List.filter_congr fun s hs => by
      have := h s hs
      by_cases e : s = k
      · subst e; simp
      · rw [decide_eq_false e, decide_eq_true (show s < k by omega)]; rfl
    rw [h3] at h2
    have h4 := hc k
    rw [Nat.succ_mul]; omega
theorem apart_few : n ≤ k * (bitsL (apaQ n qs)).length := by
  obtain ⟨f, e1, e2, e3⟩ := (hi k).2 (Nat.le_refl _)
  have hn := hk.rng
  rw [← bestK_apart hk]
  have key : ∀ c, (f.filter fun s => decide (s = c)).length ≤ (bitsL (bestK (okS (symC (clP qs)) false) (2 ^ n))).length := by
    intro c
    obtain ⟨g, hg⟩ : ∃ g, g = (List.range n).filter fun b => decide (f.getD b 0 = c) := ⟨_, rfl⟩
    have hgm : ∀ b, b ∈ g ↔ b < n ∧ f.getD b 0 = c := fun b => by rw [hg, List.mem_filter, List.mem_range, decide_eq_true_iff]
    have hb : ∀ b, b ∈ bitsL (bitsOf g) ↔ b ∈ g := fun b => by
      unfold bitsL
      rw [List.mem_filter, bitsOf_bit, List.contains_iff_mem, List.mem_range]
      exact ⟨fun h => h.2, fun h => ⟨by have := (hgm b).1 h; omega, h⟩⟩
    have hlt : bitsOf g < 2 ^ n := by
      apply Nat.lt_pow_two_of_testBit
      intro i hin
      cases h : (bitsOf g).testBit i with
      | false => rfl
      | true =>
        rw [bitsOf_bit, List.contains_iff_mem] at h
        have := (hgm i).1 h; omega
    have hmax := bestK_max (ok := okS (symC (clP qs)) false) hlt (okS_iff.2 fun a b ha hb' hba => by
      have h1 := (hgm a).1 ((hb a).1 ha)
      have h2 := (hgm b).1 ((hb b).1 hb')
      cases hc : symC (clP qs) a b with
      | false => rfl
      | true =>
        rw [symC_sym, symC_lt _ hba] at hc
        exact absurd (h2.2.trans h1.2.symm) (e3 b a hba (by omega) hc))
    refine Nat.le_trans ?_ hmax
    have h1 : (f.filter fun s => decide (s = c)).length = g.length := by
      have hf : f = (List.range n).map fun b => f.getD b 0 := by
        refine List.ext_getElem (by simp [e1]) fun i h1 h2 => ?_
        simp [List.getD_eq_getElem?_getD, h1]
      have : f.filter (fun s => decide (s = c)) = g.map fun b => f.getD b 0 := by
        conv => lhs; rw [hf, List.filter_map]
        rw [hg]; rfl
      rw [this, List.length_map]
    rw [h1]
    refine nodup_len ?_ fun b hbm => (hb b).2 hbm
    rw [hg]; exact List.nodup_range.filter _
  have := cls_le _ k f e2 key
  omega
omit hi in
theorem frst_k {x : Nat} (hkx : k ≤ x) (hi : ∀ x, (∃ f : List Nat, f.length = n ∧ (∀ s ∈ f, s < x) ∧ rgt (clP qs) f) ↔ k ≤ x) : ∃ l, frst (symC (clP qs)) x n [] = some l ∧ l.length = n ∧ (∀ s ∈ l, s < x) ∧ rgt (clP qs) l := by
  obtain ⟨f, e1, e2, e3⟩ := (hi x).2 hkx
  obtain ⟨l, hl⟩ := frst_iff.2 ⟨f, e1, e2, rgt_sym.2 e3⟩
  have := frst_sound hl (rgt_nil _) (by simp)
  exact ⟨l, hl, by simpa using this.1, this.2.2, rgt_sym.1 this.2.1⟩
omit hi in
theorem frst_no {x : Nat} (hkx : x < k) (hi : ∀ x, (∃ f : List Nat, f.length = n ∧ (∀ s ∈ f, s < x) ∧ rgt (clP qs) f) ↔ k ≤ x) : frst (symC (clP qs)) x n [] = none := by
  cases h : frst (symC (clP qs)) x n [] with
  | none => rfl
  | some l =>
    obtain ⟨f, e1, e2, e3⟩ := frst_iff.1 ⟨l, h⟩
    have := (hi x).1 ⟨f, e1, e2, rgt_sym.1 e3⟩
    omega
theorem cnt_k (x : Nat) : (x < k → cntO n qs x = 0) ∧ (k ≤ x → 1 ≤ cntO n qs x) := by
  rw [cnt_pv hk]
  have h1 := pv_iff (clP qs) n x
  rw [hi x] at h1
  have h2 : 0 ≤ pv (clP qs) n (x : Int) := by
    rw [pv_num]; unfold num; exact sumAll_nonneg n fun f => by split <;> omega
  constructor
  · intro h
    by_cases h3 : 0 < pv (clP qs) n (x : Int)
    · have := h1.1 h3; omega
    · omega
  · intro h; have := h1.2 h; omega
end
theorem rgt_natI {n : Nat} {qs : List (Nat × Nat)} (hk : Knd n qs) {l : List Nat} (hl : l.length = n) (h : rgt (clP qs) l) : rgtP qs (natI l) = true := by
  rw [rgtP_iff]
  intro a b hab e
  have h1 := hk.ok _ hab
  simp only at h1
  rw [natI_get (by omega), natI_get (by omega)] at e
  exact h a b h1.1 (by omega) (clP_iff.2 hab) (by omega)
theorem plA_iff {f : Nat → Nat → Bool} {n a b : Nat} : (a, b) ∈ plA f n n ↔ a < b ∧ b < n ∧ f a b = true := by
  unfold plA plB
  simp only [List.mem_flatMap, List.mem_map, List.mem_filter, List.mem_range, Bool.and_eq_true, decide_eq_true_iff, Prod.mk.injEq]
  constructor
  · rintro ⟨x, hx, y, ⟨h1, h2, h3⟩, rfl, rfl⟩; exact ⟨h2, h1, h3⟩
  · rintro ⟨h1, h2, h3⟩; exact ⟨a, by omega, b, ⟨h2, h1, h3⟩, rfl, rfl⟩
theorem plA_nodup (f : Nat → Nat → Bool) (n : Nat) : (plA f n n).Nodup := by
  unfold plA plB
  rw [List.nodup_iff_pairwise_ne, List.pairwise_flatMap]
  refine ⟨fun a _ => ?_, ?_⟩
  · rw [List.pairwise_map]
    refine ((List.nodup_iff_pairwise_ne.1 (List.nodup_range (n := n))).filter _).imp fun hne e => hne ?_
    simpa using e
  · refine (List.nodup_iff_pairwise_ne.1 (List.nodup_range (n := n))).imp fun hne p hp q hq e => hne ?_
    obtain ⟨_, _, rfl⟩ := List.mem_map.1 hp
    obtain ⟨_, _, rfl⟩ := List.mem_map.1 hq
    simp only [Prod.mk.injEq] at e; exact e.1
theorem otQ_knd {n : Nat} {qs : List (Nat × Nat)} (hk : Knd n qs) : Knd n (otQ n qs) := by
  rw [otQ_pl hk]
  refine ⟨hk.rng, fun p hp => ?_, plA_nodup _ _⟩
  obtain ⟨h1, h2, _⟩ := plA_iff.1 (show (p.1, p.2) ∈ _ from hp)
  exact ⟨h1, h2⟩
theorem all_other {n : Nat} {qs : List (Nat × Nat)} (hk : Knd n qs) : allQ n (otQ n qs) = apaQ n qs := by
  rw [← bestK_all (otQ_knd hk), ← bestK_apart hk]
  refine bestK_congr fun s hs => ?_
  have hc : ∀ a b, b < a → a < n → symC (clP (otQ n qs)) a b = !symC (clP qs) a b := fun a b hba ha => by
    rw [symC_sym, symC_lt _ hba, symC_sym (clP qs), Bool.eq_iff_iff, clP_iff, otQ_pl hk, plA_iff]
    exact ⟨fun h => h.2.2, fun h => ⟨hba, ha, h⟩⟩
  rw [Bool.eq_iff_iff, okS_iff, okS_iff]
  constructor
  · intro h a b ha hb hba
    have h1 := h a b ha hb hba
    rw [hc a b hba (bits_lt hs ha)] at h1
    simpa using h1
  · intro h a b ha hb hba
    rw [hc a b hba (bits_lt hs ha), h a b ha hb hba]; rfl
end Go.Proofs.YtijnimgmpocmaaaDoor

/- Waste: how many different numbers a list has, walked. -/
namespace Go.Proofs.YtijnimgmpocmaaaDoor
open Go.RowKit
set_option linter.unusedVariables false
set_option linter.unusedSimpArgs false
set_option maxRecDepth 10000 in
set_option maxHeartbeats 8000000 in
theorem used_spec (zs : List Int) (hz : zs.length ≤ 1000) : Spec Tryd.prog 49 [V.c (.sl 0 zs.length)] [⟨0, .ro 1, zs.map C.i⟩] 1 (Is (V.i (usd zs))) := by
  have hlz : ∀ i, i < zs.length → (zs.map C.i)[mulS ((i : Nat) : Int).toNat 1]? = some (C.i (zs.getD i 0)) := fun i hi => intLz rfl hi
  have hzm : (zs.map C.i).length = zs.length := List.length_map ..
  refine Spec.of tok Tryd.func49 rfl rfl rfl fun n0 cx => vc_ok tok ?_
  repeat ((conv => whnf); first | (refine And.intro (by first | omega | exact Nat.le_of_ble_eq_true rfl | (dsimp only [inK]; omega) | (simp only [mulS_eq]; omega) | (simp only [mulS_eq, setL_length]; omega) | (simp only [setL_length]; omega) | (simp only [setL_length, List.length_map]; omega) | (exact ⟨by omega, by omega, by first | exact Nat.le_of_ble_eq_true rfl | (dsimp only; omega) | (simp only [setL_length]; omega) | (simp only [setL_length, List.length_map]; omega)⟩) | (exact ⟨by omega, by first | rfl | omega, by omega, Nat.le_of_ble_eq_true rfl, Nat.le_of_ble_eq_true rfl⟩) | (exact ⟨rfl, rfl, rfl, Nat.le_of_ble_eq_true rfl, by first | rfl | omega | exact Nat.le_of_ble_eq_true rfl | (dsimp only; omega) | (simp; done) | (simp; omega), by first | rfl | omega | exact Nat.le_of_ble_eq_true rfl | (dsimp only; omega) | (simp; done) | (simp; omega), by omega, Nat.le_of_ble_eq_true rfl⟩) | exact Eq.refl true) ?_) | refine Exists.intro _ (And.intro rfl ?_) | refine And.intro (And.intro rfl (chk_rowI _ _ _ _)) ?_ | refine br_t (by omega) ?_ | refine br_f (by omega) ?_ | refine bs_t (by omega) ?_ | refine bs_f (by omega) ?_ | refine fun (K' : K3) hK' => ?_ | (refine hK' _ _ _ ?_; clear hK' K') | refine draw_auto tok mixed (by kernel_rfl) ?_ | refine bs_bt (Eq.refl true) ?_ | refine bs_bf (Eq.refl false) ?_ | refine br_bt (Eq.refl true) ?_ | refine br_bf (Eq.refl false) ?_ | refine CallK.m ?_ | refine Two.l ?_ | refine And.intro (And.intro rfl rfl) ?_)
  refine Tri.loop (γ := Nat) (fun i => i ≤ zs.length) (fun i => [(0, V.c (.sl 0 zs.length)), (3, V.i (usdK zs i)), (9, V.c (.sl 0 zs.length)), (10, V.i zs.length), (11, V.i (i : Nat))])
    (fun i => [⟨0, .ro 1, zs.map C.i⟩]) 1 (fun i => zs.length - i) 0 (R0 := []) ?_ ?_ ?_
  · exact Nat.zero_le _
  · skip
    refine ⟨?_, ?_, rfl, rfl, by first | exact Nat.le_of_ble_eq_true rfl | exact Nat.le_refl _ | omega⟩
    · repeat (first | exact trivial | (refine And.intro (covS_syn (by rfl) rfl (by first | exact trivial | exact Nat.le_of_ble_eq_true rfl | exact hy | (first | ((show ∀ p ∈ (_ : List (Nat × Nat)), p.1 < _); decide) | exact (fun p hp => nomatch hp)) | (show (_ : Nat) < _; omega))) ?_) | refine And.intro (covS_bool rfl rfl (by rfl)) ?_)
    · repeat (first | exact trivial | (refine And.intro (covE_id (Nat.le_of_ble_eq_true rfl) (by first | exact wf_ints _ _ | exact wf_bools _ _ | first | exact wf_us _ _ | exact wf_cells _ _ | exact wf_ints _ _ | (simp [C.wf]; done) | simp [C.wf]) rfl (by rfl)) ?_))
  · intro i hi
    refine vc_ok tok ?_
    by_cases hil : i < zs.length
    · have hli := hlz i hil
      have hus := usdK_succ zs i
      have hub := usdK_le zs i
      obtain ⟨u, hu⟩ : ∃ u, u = usdK zs i := ⟨_, rfl⟩
      rw [← hu] at hus hub ⊢
      repeat ((conv => whnf); first | (refine And.intro (by first | omega | exact Nat.le_of_ble_eq_true rfl | (dsimp only [inK]; omega) | (simp only [mulS_eq]; omega) | (simp only [mulS_eq, setL_length]; omega) | (simp only [setL_length]; omega) | (simp only [setL_length, List.length_map]; omega) | (exact ⟨by omega, by omega, by first | exact Nat.le_of_ble_eq_true rfl | (dsimp only; omega) | (simp only [setL_length]; omega) | (simp only [setL_length, List.length_map]; omega)⟩) | (exact ⟨by omega, by first | rfl | omega, by omega, Nat.le_of_ble_eq_true rfl, Nat.le_of_ble_eq_true rfl⟩) | (exact ⟨rfl, rfl, rfl, Nat.le_of_ble_eq_true rfl, by first | rfl | omega | exact Nat.le_of_ble_eq_true rfl | (dsimp only; omega) | (simp; done) | (simp; omega), by first | rfl | omega | exact Nat.le_of_ble_eq_true rfl | (dsimp only; omega) | (simp; done) | (simp; omega), by omega, Nat.le_of_ble_eq_true rfl⟩) | exact Eq.refl true) ?_) | with_reducible refine ld (hli) ?_ | refine Exists.intro _ (And.intro rfl ?_) | refine And.intro (And.intro rfl (chk_rowI _ _ _ _)) ?_ | refine br_t (by omega) ?_ | refine br_f (by omega) ?_ | refine bs_t (by omega) ?_ | refine bs_f (by omega) ?_ | refine fun (K' : K3) hK' => ?_ | (refine hK' _ _ _ ?_; clear hK' K') | refine draw_auto tok mixed (by kernel_rfl) ?_ | refine bs_bt (Eq.refl true) ?_ | refine bs_bf (Eq.refl false) ?_ | refine br_bt (Eq.refl true) ?_ | refine br_bf (Eq.refl false) ?_ | refine CallK.m ?_ | refine Two.l ?_ | refine And.intro (And.intro rfl rfl) ?_)
      refine Tri.loop (γ := Nat × Bool) (fun g => g.1 ≤ i ∧ g.2 = uqK zs i g.1) (fun (j, b) => [(0, V.c (.sl 0 zs.length)), (3, V.i (u : Nat)), (5, V.i (zs.getD i 0)), (6, V.c (.bool b)), (9, V.c (.sl 0 zs.length)), (10, V.i zs.length), (11, V.i (i : Nat)), (18, V.c (.sl 0 i)), (19, V.i (i : Nat)), (20, V.i (j : Nat))])
        (fun (j, b) => [⟨0, .ro 1, zs.map C.i⟩]) 1 (fun g => i - g.1) (0, true) (R0 := []) ?_ ?_ ?_
      · exact ⟨Nat.zero_le _, rfl⟩
      · skip
        refine ⟨?_, ?_, rfl, rfl, by first | exact Nat.le_of_ble_eq_true rfl | exact Nat.le_refl _ | omega⟩
        · repeat (first | exact trivial | (refine And.intro (covS_syn (by first | rfl | (refine congrArg some (congrArg V.i ?_); rfl)) rfl (by first | exact trivial | exact Nat.le_of_ble_eq_true rfl | exact hy | (first | ((show ∀ p ∈ (_ : List (Nat × Nat)), p.1 < _); decide) | exact (fun p hp => nomatch hp)) | (show (_ : Nat) < _; omega))) ?_) | (refine And.intro (covS_bool rfl rfl (by first | rfl | rfl)) ?_))
        · repeat (first | exact trivial | (refine And.intro (covE_id (Nat.le_of_ble_eq_true rfl) (by first | exact wf_ints _ _ | exact wf_bools _ _ | first | exact wf_us _ _ | exact wf_cells _ _ | exact wf_ints _ _ | (simp [C.wf]; done) | simp [C.wf]) rfl (by rfl)) ?_))
      · rintro ⟨j, b⟩ ⟨hj, hb⟩
        simp only at hj hb
        refine vc_ok tok ?_
        by_cases hjl : j < i
        · have hlj := hlz j (by omega)
          have hfs := uqK_succ zs i j
          rw [← hb] at hfs
          cases b with
          | false =>
            repeat ((conv => whnf); first | (refine And.intro (by first | omega | exact Nat.le_of_ble_eq_true rfl | (dsimp only [inK]; omega) | (simp only [mulS_eq]; omega) | (simp only [mulS_eq, setL_length]; omega) | (simp only [setL_length]; omega) | (simp only [setL_length, List.length_map]; omega) | (exact ⟨by omega, by omega, by first | exact Nat.le_of_ble_eq_true rfl | (dsimp only; omega) | (simp only [setL_length]; omega) | (simp only [setL_length, List.length_map]; omega)⟩) | (exact ⟨by omega, by first | rfl | omega, by omega, Nat.le_of_ble_eq_true rfl, Nat.le_of_ble_eq_true rfl⟩) | (exact ⟨rfl, rfl, rfl, Nat.le_of_ble_eq_true rfl, by first | rfl | omega | exact Nat.le_of_ble_eq_true rfl | (dsimp only; omega) | (simp; done) | (simp; omega), by first | rfl | omega | exact Nat.le_of_ble_eq_true rfl | (dsimp only; omega) | (simp; done) | (simp; omega), by omega, Nat.le_of_ble_eq_true rfl⟩) | exact Eq.refl true) ?_) | with_reducible refine ld (hlj) ?_ | refine Exists.intro _ (And.intro rfl ?_) | refine And.intro (And.intro rfl (chk_rowI _ _ _ _)) ?_ | refine br_t (by omega) ?_ | refine br_f (by omega) ?_ | refine bs_t (by omega) ?_ | refine bs_f (by omega) ?_ | refine fun (K' : K3) hK' => ?_ | (refine hK' _ _ _ ?_; clear hK' K') | refine draw_auto tok mixed (by kernel_rfl) ?_ | refine bs_bt (Eq.refl true) ?_ | refine bs_bf (Eq.refl false) ?_ | refine br_bt (Eq.refl true) ?_ | refine br_bf (Eq.refl false) ?_ | refine CallK.m ?_ | refine Two.l ?_ | refine And.intro (And.intro rfl rfl) ?_)
            refine ⟨(j + 1, false), [], ⟨by simp only; omega, by simp only; rw [hfs]; rfl⟩, by simp only; omega, ?_⟩
            refine ⟨?_, ?_, rfl, rfl, by first | exact Nat.le_of_ble_eq_true rfl | exact Nat.le_refl _ | omega⟩
            · repeat (first | exact trivial | (refine And.intro (covS_syn (by first | rfl | (refine congrArg some (congrArg V.i ?_); (show (_ : Int) = ((j + 1 : Nat) : Int); omega))) rfl (by first | exact trivial | exact Nat.le_of_ble_eq_true rfl | exact hy | (first | ((show ∀ p ∈ (_ : List (Nat × Nat)), p.1 < _); decide) | exact (fun p hp => nomatch hp)) | (show (_ : Nat) < _; omega))) ?_) | (refine And.intro (covS_bool rfl rfl (by first | rfl | rfl)) ?_))
            · repeat (first | exact trivial | (refine And.intro (covE_id (Nat.le_of_ble_eq_true rfl) (by first | exact wf_ints _ _ | exact wf_bools _ _ | first | exact wf_us _ _ | exact wf_cells _ _ | exact wf_ints _ _ | (simp [C.wf]; done) | simp [C.wf]) rfl (by rfl)) ?_))
          | true =>
            by_cases h : zs.getD i 0 = zs.getD j 0
            · rw [decide_eq_true h] at hfs
              have hne : ¬ zs.getD i 0 ≠ zs.getD j 0 := fun h2 => h2 h
              repeat ((conv => whnf); first | (refine And.intro (by first | omega | exact Nat.le_of_ble_eq_true rfl | (dsimp only [inK]; omega) | (simp only [mulS_eq]; omega) | (simp only [mulS_eq, setL_length]; omega) | (simp only [setL_length]; omega) | (simp only [setL_length, List.length_map]; omega) | (exact ⟨by omega, by omega, by first | exact Nat.le_of_ble_eq_true rfl | (dsimp only; omega) | (simp only [setL_length]; omega) | (simp only [setL_length, List.length_map]; omega)⟩) | (exact ⟨by omega, by first | rfl | omega, by omega, Nat.le_of_ble_eq_true rfl, Nat.le_of_ble_eq_true rfl⟩) | (exact ⟨rfl, rfl, rfl, Nat.le_of_ble_eq_true rfl, by first | rfl | omega | exact Nat.le_of_ble_eq_true rfl | (dsimp only; omega) | (simp; done) | (simp; omega), by first | rfl | omega | exact Nat.le_of_ble_eq_true rfl | (dsimp only; omega) | (simp; done) | (simp; omega), by omega, Nat.le_of_ble_eq_true rfl⟩) | exact Eq.refl true) ?_) | with_reducible refine ld (hlj) ?_ | refine Exists.intro _ (And.intro rfl ?_) | refine And.intro (And.intro rfl (chk_rowI _ _ _ _)) ?_ | refine br_t (by omega) ?_ | refine br_f (by omega) ?_ | refine bs_t (by omega) ?_ | refine bs_f (by omega) ?_ | refine fun (K' : K3) hK' => ?_ | (refine hK' _ _ _ ?_; clear hK' K') | refine draw_auto tok mixed (by kernel_rfl) ?_ | refine bs_f hne ?_ | refine br_f hne ?_ | refine bs_bt (Eq.refl true) ?_ | refine bs_bf (Eq.refl false) ?_ | refine br_bt (Eq.refl true) ?_ | refine br_bf (Eq.refl false) ?_ | refine CallK.m ?_ | refine Two.l ?_ | refine And.intro (And.intro rfl rfl) ?_)
              refine ⟨(j + 1, false), [], ⟨by simp only; omega, by simp only; rw [hfs]; rfl⟩, by simp only; omega, ?_⟩
              refine ⟨?_, ?_, rfl, rfl, by first | exact Nat.le_of_ble_eq_true rfl | exact Nat.le_refl _ | omega⟩
              · repeat (first | exact trivial | (refine And.intro (covS_syn (by first | rfl | (refine congrArg some (congrArg V.i ?_); (show (_ : Int) = ((j + 1 : Nat) : Int); omega))) rfl (by first | exact trivial | exact Nat.le_of_ble_eq_true rfl | exact hy | (first | ((show ∀ p ∈ (_ : List (Nat × Nat)), p.1 < _); decide) | exact (fun p hp => nomatch hp)) | (show (_ : Nat) < _; omega))) ?_) | (refine And.intro (covS_bool rfl rfl (by first | rfl | (first | exact decide_eq_false hne | rfl))) ?_))
              · repeat (first | exact trivial | (refine And.intro (covE_id (Nat.le_of_ble_eq_true rfl) (by first | exact wf_ints _ _ | exact wf_bools _ _ | first | exact wf_us _ _ | exact wf_cells _ _ | exact wf_ints _ _ | (simp [C.wf]; done) | simp [C.wf]) rfl (by rfl)) ?_))
            · rw [decide_eq_false h] at hfs
              repeat ((conv => whnf); first | (refine And.intro (by first | omega | exact Nat.le_of_ble_eq_true rfl | (dsimp only [inK]; omega) | (simp only [mulS_eq]; omega) | (simp only [mulS_eq, setL_length]; omega) | (simp only [setL_length]; omega) | (simp only [setL_length, List.length_map]; omega) | (exact ⟨by omega, by omega, by first | exact Nat.le_of_ble_eq_true rfl | (dsimp only; omega) | (simp only [setL_length]; omega) | (simp only [setL_length, List.length_map]; omega)⟩) | (exact ⟨by omega, by first | rfl | omega, by omega, Nat.le_of_ble_eq_true rfl, Nat.le_of_ble_eq_true rfl⟩) | (exact ⟨rfl, rfl, rfl, Nat.le_of_ble_eq_true rfl, by first | rfl | omega | exact Nat.le_of_ble_eq_true rfl | (dsimp only; omega) | (simp; done) | (simp; omega), by first | rfl | omega | exact Nat.le_of_ble_eq_true rfl | (dsimp only; omega) | (simp; done) | (simp; omega), by omega, Nat.le_of_ble_eq_true rfl⟩) | exact Eq.refl true) ?_) | with_reducible refine ld (hlj) ?_ | refine Exists.intro _ (And.intro rfl ?_) | refine And.intro (And.intro rfl (chk_rowI _ _ _ _)) ?_ | refine br_t (by omega) ?_ | refine br_f (by omega) ?_ | refine bs_t (by omega) ?_ | refine bs_f (by omega) ?_ | refine fun (K' : K3) hK' => ?_ | (refine hK' _ _ _ ?_; clear hK' K') | refine draw_auto tok mixed (by kernel_rfl) ?_ | refine bs_t h ?_ | refine br_t h ?_ | refine bs_bt (Eq.refl true) ?_ | refine bs_bf (Eq.refl false) ?_ | refine br_bt (Eq.refl true) ?_ | refine br_bf (Eq.refl false) ?_ | refine CallK.m ?_ | refine Two.l ?_ | refine And.intro (And.intro rfl rfl) ?_)
              refine ⟨(j + 1, true), [], ⟨by simp only; omega, by simp only; rw [hfs]; rfl⟩, by simp only; omega, ?_⟩
              refine ⟨?_, ?_, rfl, rfl, by first | exact Nat.le_of_ble_eq_true rfl | exact Nat.le_refl _ | omega⟩
              · repeat (first | exact trivial | (refine And.intro (covS_syn (by first | rfl | (refine congrArg some (congrArg V.i ?_); (show (_ : Int) = ((j + 1 : Nat) : Int); omega))) rfl (by first | exact trivial | exact Nat.le_of_ble_eq_true rfl | exact hy | (first | ((show ∀ p ∈ (_ : List (Nat × Nat)), p.1 < _); decide) | exact (fun p hp => nomatch hp)) | (show (_ : Nat) < _; omega))) ?_) | (refine And.intro (covS_bool rfl rfl (by first | rfl | (first | exact decide_eq_true h | rfl))) ?_))
              · repeat (first | exact trivial | (refine And.intro (covE_id (Nat.le_of_ble_eq_true rfl) (by first | exact wf_ints _ _ | exact wf_bools _ _ | first | exact wf_us _ _ | exact wf_cells _ _ | exact wf_ints _ _ | (simp [C.wf]; done) | simp [C.wf]) rfl (by rfl)) ?_))
        · obtain rfl : j = i := by omega
          rw [← hb] at hus
          cases b with
          | false =>
            have hus : usdK zs (j + 1) = u := hus
            repeat ((conv => whnf); first | (refine And.intro (by first | omega | exact Nat.le_of_ble_eq_true rfl | (dsimp only [inK]; omega) | (simp only [mulS_eq]; omega) | (simp only [mulS_eq, setL_length]; omega) | (simp only [setL_length]; omega) | (simp only [setL_length, List.length_map]; omega) | (exact ⟨by omega, by omega, by first | exact Nat.le_of_ble_eq_true rfl | (dsimp only; omega) | (simp only [setL_length]; omega) | (simp only [setL_length, List.length_map]; omega)⟩) | (exact ⟨by omega, by first | rfl | omega, by omega, Nat.le_of_ble_eq_true rfl, Nat.le_of_ble_eq_true rfl⟩) | (exact ⟨rfl, rfl, rfl, Nat.le_of_ble_eq_true rfl, by first | rfl | omega | exact Nat.le_of_ble_eq_true rfl | (dsimp only; omega) | (simp; done) | (simp; omega), by first | rfl | omega | exact Nat.le_of_ble_eq_true rfl | (dsimp only; omega) | (simp; done) | (simp; omega), by omega, Nat.le_of_ble_eq_true rfl⟩) | exact Eq.refl true) ?_) | refine Exists.intro _ (And.intro rfl ?_) | refine And.intro (And.intro rfl (chk_rowI _ _ _ _)) ?_ | refine br_t (by omega) ?_ | refine br_f (by omega) ?_ | refine bs_t (by omega) ?_ | refine bs_f (by omega) ?_ | refine fun (K' : K3) hK' => ?_ | (refine hK' _ _ _ ?_; clear hK' K') | refine draw_auto tok mixed (by kernel_rfl) ?_ | refine bs_bt (Eq.refl true) ?_ | refine bs_bf (Eq.refl false) ?_ | refine br_bt (Eq.refl true) ?_ | refine br_bf (Eq.refl false) ?_ | refine CallK.m ?_ | refine Two.l ?_ | refine And.intro (And.intro rfl rfl) ?_)
            refine ⟨j + 1, [], by omega, by omega, ?_⟩
            rw [hus]
            refine ⟨?_, ?_, rfl, rfl, by first | exact Nat.le_of_ble_eq_true rfl | exact Nat.le_refl _ | omega⟩
            · repeat (first | exact trivial | (refine And.intro (covS_syn (by first | rfl | (refine congrArg some (congrArg V.i ?_); omega)) rfl (by first | exact trivial | exact Nat.le_of_ble_eq_true rfl | exact hy | (first | ((show ∀ p ∈ (_ : List (Nat × Nat)), p.1 < _); decide) | exact (fun p hp => nomatch hp)) | (show (_ : Nat) < _; omega))) ?_) | refine And.intro (covS_bool rfl rfl (by rfl)) ?_)
            · repeat (first | exact trivial | (refine And.intro (covE_id (Nat.le_of_ble_eq_true rfl) (by first | exact wf_ints _ _ | exact wf_bools _ _ | first | exact wf_us _ _ | exact wf_cells _ _ | exact wf_ints _ _ | (simp [C.wf]; done) | simp [C.wf]) rfl (by rfl)) ?_))
          | true =>
            have hus : usdK zs (j + 1) = u + 1 := hus
            repeat ((conv => whnf); first | (refine And.intro (by first | omega | exact Nat.le_of_ble_eq_true rfl | (dsimp only [inK]; omega) | (simp only [mulS_eq]; omega) | (simp only [mulS_eq, setL_length]; omega) | (simp only [setL_length]; omega) | (simp only [setL_length, List.length_map]; omega) | (exact ⟨by omega, by omega, by first | exact Nat.le_of_ble_eq_true rfl | (dsimp only; omega) | (simp only [setL_length]; omega) | (simp only [setL_length, List.length_map]; omega)⟩) | (exact ⟨by omega, by first | rfl | omega, by omega, Nat.le_of_ble_eq_true rfl, Nat.le_of_ble_eq_true rfl⟩) | (exact ⟨rfl, rfl, rfl, Nat.le_of_ble_eq_true rfl, by first | rfl | omega | exact Nat.le_of_ble_eq_true rfl | (dsimp only; omega) | (simp; done) | (simp; omega), by first | rfl | omega | exact Nat.le_of_ble_eq_true rfl | (dsimp only; omega) | (simp; done) | (simp; omega), by omega, Nat.le_of_ble_eq_true rfl⟩) | exact Eq.refl true) ?_) | refine Exists.intro _ (And.intro rfl ?_) | refine And.intro (And.intro rfl (chk_rowI _ _ _ _)) ?_ | refine br_t (by omega) ?_ | refine br_f (by omega) ?_ | refine bs_t (by omega) ?_ | refine bs_f (by omega) ?_ | refine fun (K' : K3) hK' => ?_ | (refine hK' _ _ _ ?_; clear hK' K') | refine draw_auto tok mixed (by kernel_rfl) ?_ | refine bs_bt (Eq.refl true) ?_ | refine bs_bf (Eq.refl false) ?_ | refine br_bt (Eq.refl true) ?_ | refine br_bf (Eq.refl false) ?_ | refine CallK.m ?_ | refine Two.l ?_ | refine And.intro (And.intro rfl rfl) ?_)
            refine ⟨j + 1, [], by omega, by omega, ?_⟩
            rw [hus]
            refine ⟨?_, ?_, rfl, rfl, by first | exact Nat.le_of_ble_eq_true rfl | exact Nat.le_refl _ | omega⟩
            · repeat (first | exact trivial | (refine And.intro (covS_syn (by first | rfl | (refine congrArg some (congrArg V.i ?_); omega)) rfl (by first | exact trivial | exact Nat.le_of_ble_eq_true rfl | exact hy | (first | ((show ∀ p ∈ (_ : List (Nat × Nat)), p.1 < _); decide) | exact (fun p hp => nomatch hp)) | (show (_ : Nat) < _; omega))) ?_) | refine And.intro (covS_bool rfl rfl (by rfl)) ?_)
            · repeat (first | exact trivial | (refine And.intro (covE_id (Nat.le_of_ble_eq_true rfl) (by first | exact wf_ints _ _ | exact wf_bools _ _ | first | exact wf_us _ _ | exact wf_cells _ _ | exact wf_ints _ _ | (simp [C.wf]; done) | simp [C.wf]) rfl (by rfl)) ?_))
    · obtain rfl : i = zs.length := by omega
      repeat ((conv => whnf); first | (refine And.intro (by first | omega | exact Nat.le_of_ble_eq_true rfl | (dsimp only [inK]; omega) | (simp only [mulS_eq]; omega) | (simp only [mulS_eq, setL_length]; omega) | (simp only [setL_length]; omega) | (simp only [setL_length, List.length_map]; omega) | (exact ⟨by omega, by omega, by first | exact Nat.le_of_ble_eq_true rfl | (dsimp only; omega) | (simp only [setL_length]; omega) | (simp only [setL_length, List.length_map]; omega)⟩) | (exact ⟨by omega, by first | rfl | omega, by omega, Nat.le_of_ble_eq_true rfl, Nat.le_of_ble_eq_true rfl⟩) | (exact ⟨rfl, rfl, rfl, Nat.le_of_ble_eq_true rfl, by first | rfl | omega | exact Nat.le_of_ble_eq_true rfl | (dsimp only; omega) | (simp; done) | (simp; omega), by first | rfl | omega | exact Nat.le_of_ble_eq_true rfl | (dsimp only; omega) | (simp; done) | (simp; omega), by omega, Nat.le_of_ble_eq_true rfl⟩) | exact Eq.refl true) ?_) | refine Exists.intro _ (And.intro rfl ?_) | refine And.intro (And.intro rfl (chk_rowI _ _ _ _)) ?_ | refine br_t (by omega) ?_ | refine br_f (by omega) ?_ | refine bs_t (by omega) ?_ | refine bs_f (by omega) ?_ | refine fun (K' : K3) hK' => ?_ | (refine hK' _ _ _ ?_; clear hK' K') | refine draw_auto tok mixed (by kernel_rfl) ?_ | refine bs_bt (Eq.refl true) ?_ | refine bs_bf (Eq.refl false) ?_ | refine br_bt (Eq.refl true) ?_ | refine br_bf (Eq.refl false) ?_ | refine CallK.m ?_ | refine Two.l ?_ | refine And.intro (And.intro rfl rfl) ?_)
      intro ρ; rfl
end Go.Proofs.YtijnimgmpocmaaaDoor

/- Waste: the law of the fillings. -/
namespace Go.Proofs.YtijnimgmpocmaaaDoor
open Go.RowKit
set_option linter.unusedVariables false
set_option linter.unusedSimpArgs false
theorem long_spec (m : Nat) (hm : m < 9223372036854775808) : Spec Tryd.prog 15 [V.c (.sl 0 m)] [] 1 (Is (V.c (.bool (decide ((m : Int) > 60))))) := by
  refine Spec.of tok Tryd.func15 rfl rfl rfl fun n0 cx => vc_ok tok ?_
  repeat ((conv => whnf); first | (refine And.intro (by first | omega | exact Nat.le_of_ble_eq_true rfl | (dsimp only [inK]; omega) | (simp only [mulS_eq]; omega) | (simp only [mulS_eq, setL_length]; omega) | (simp only [setL_length]; omega) | (simp only [setL_length, List.length_map]; omega) | (exact ⟨by omega, by omega, by first | exact Nat.le_of_ble_eq_true rfl | (dsimp only; omega) | (simp only [setL_length]; omega) | (simp only [setL_length, List.length_map]; omega)⟩) | (exact ⟨by omega, by first | rfl | omega, by omega, Nat.le_of_ble_eq_true rfl, Nat.le_of_ble_eq_true rfl⟩) | (exact ⟨rfl, rfl, rfl, Nat.le_of_ble_eq_true rfl, by first | rfl | omega | exact Nat.le_of_ble_eq_true rfl | (dsimp only; omega) | (simp; done) | (simp; omega), by first | rfl | omega | exact Nat.le_of_ble_eq_true rfl | (dsimp only; omega) | (simp; done) | (simp; omega), by omega, Nat.le_of_ble_eq_true rfl⟩) | exact Eq.refl true) ?_) | refine Exists.intro _ (And.intro rfl ?_) | refine And.intro (And.intro rfl (chk_rowI _ _ _ _)) ?_ | refine br_t (by omega) ?_ | refine br_f (by omega) ?_ | refine bs_t (by omega) ?_ | refine bs_f (by omega) ?_ | refine fun (K' : K3) hK' => ?_ | (refine hK' _ _ _ ?_; clear hK' K') | refine draw_auto tok mixed (by kernel_rfl) ?_ | refine bs_bt (Eq.refl true) ?_ | refine bs_bf (Eq.refl false) ?_ | refine br_bt (Eq.refl true) ?_ | refine br_bf (Eq.refl false) ?_ | refine CallK.m ?_ | refine Two.l ?_ | refine And.intro (And.intro rfl rfl) ?_)
  intro ρ; rfl
section
variable {n0 nx : Nat} {L : List E} {K : V → List E → Nat → Prop}
theorem long_k {m a : Nat} (hm : m < 9223372036854775808) (hK : K (V.c (.bool (decide ((m : Int) > 60)))) [] nx) : CallK Tryd.prog n0 15 [V.c (.sl a m)] L nx K :=
  CallK.val (R := [(0, some a)]) (long_spec m hm) (by kernel_rfl) rfl (by simp [V.wf, A.wf, C.wf]) trivial rfl rfl trivial hK
end
section
variable (N : Int) (ps : List Cell) (l : List Int)
end
section
variable (n : Nat) (qs : List (Nat × Nat)) (l : List Int) (hk : Knd n qs) (h2 : ¬ (l.length : Int) > 60)
include hk h2
end
end Go.Proofs.YtijnimgmpocmaaaDoor

/- Waste: rows of numbers that came in, with the room behind them. -/
namespace Go.Proofs.YtijnimgmpocmaaaDoor
open Go.RowKit
set_option linter.unusedVariables false
set_option linter.unusedSimpArgs false
open Go.ChangeShapes Go.WideShapes Go.ChangeAt Go.RowKit Go.Deep Go.Joins
def IntsC (W : World) (ao : Option Addr) (c : Nat) (l : List Int) : Prop := IntsAt W ao l ∧ l.length ≤ c
section
variable {H : Type} {enc : TypeId × Value → H} {W : World} {sp : Nat → Bool}
theorem open_ints25C {n : Nat} {v : Value} {x : DataW H × List MemPlace} (h : DataW.trod enc Tryd.prog W 0 sp true n 25 [v] = some x) :
    ∃ (ao : Option Addr) (c : Nat) (l : List Int), v = .slice ao l.length c ∧ IntsC W ao c l := by
  rcases open_slice1 Tryd.underlying25 (by kernel_rfl) h with ⟨hcs, _⟩ | ⟨a, len, cap, m, f, V, D, Pl, hcs, _, hl, hmax, hm, _, hx⟩
  · cases hcs
    exact ⟨none, 0, [], rfl, ⟨fun hne => absurd rfl hne, by simp⟩, by simp⟩
  · cases hcs
    have hlm : len ≤ m := by rw [hm]; split <;> omega
    have hlen : len < 9223372036854775808 := by unfold maxLen at hmax; omega
    obtain ⟨b, hb⟩ := choose_lt (α := Int) (n := len) (p := fun i b => V i = .int .i64 b) (fun i hi => by
      obtain ⟨b, hb, _, hw⟩ := DataW.trod_int Tryd.underlying3 (hx i (by omega)).2
      exact ⟨b, by simpa using hb⟩)
    refine ⟨some a, cap, (List.range len).map b, by simp, ⟨ro_at (fun i hi => ?_), by simpa using hlen⟩, by simpa using hl⟩
    have hi' : i < len := by simpa using hi
    rw [(hx i (by omega)).1, hb i hi']
    simp [List.getD_eq_getElem?_getD, hi']
set_option maxRecDepth 100000 in
theorem open_intsvC {v : Value} {d : DataW H} {p : List MemPlace} {r : Reach} {b0 : Nat} (hv : Value.okWide Tryd.prog W r b0 25 v) (h : DataW.Trod enc Tryd.prog W 0 sp true 25 v d p) :
    ∃ (ao : Option Addr) (c : Nat) (l : List Int), v = .slice ao l.length c ∧ IntsC W ao c l := by
  obtain ⟨fuel, hf⟩ := h
  obtain ⟨ao, n, cp, rfl⟩ := okWide_slice Tryd.underlying25 hv
  simp only [Value.cells] at hf
  exact open_ints25C hf
end
theorem ent_ints1 {W : World} {ρ : Env} {l : List Int} {k nx c : Nat} {ao : Option Addr} (h : IntsC W ao c l) (hk : k < nx) (hr : ρ k = (ao, c)) : (∃ z, (Kd.ro 1) = .ro z ∧ (z = 0 ∨ (l.map C.i).length ≤ (ρ k).2 * z)) ∧ k < nx ∧ (∀ c ∈ l.map C.i, c.wf nx) ∧ RoAt W (ρ k).1 ((l.map C.i).map (C.den ρ)) := by
  refine ⟨⟨1, rfl, .inr ?_⟩, hk, wf_ints _ _, ?_⟩
  · rw [hr, List.length_map]; have := h.2; simp only; omega
  · rw [List.map_map, hr]; exact h.1.1
theorem hp_ki1 {W : World} {l : List Int} {ps : List Cell} {ao bo : Option Addr} {c d : Nat} (h : CellsAt W ao c ps) (h2 : IntsC W bo d l) (hF : Fct W.heap.size W) : Hp W.heap.size (envL [(ao, c), (bo, d)]) W [⟨0, .ro 2, cellC ps⟩, ⟨1, .ro 1, l.map C.i⟩] 2 := by
  refine Hp.rosz (fun e he => ?_) rfl hF
  simp only [List.mem_cons, List.not_mem_nil, or_false] at he
  rcases he with rfl | rfl
  · exact ent_cells h (by show 0 < 2; omega) rfl
  · exact ent_ints1 h2 (by show 1 < 2; omega) rfl
end Go.Proofs.YtijnimgmpocmaaaDoor

/- Waste: the law of the fewest skips. -/
namespace Go.Proofs.YtijnimgmpocmaaaDoor
open Go.RowKit
set_option linter.unusedVariables false
set_option linter.unusedSimpArgs false
section
variable (N : Int) (ps : List Cell) (l : List Int)
theorem few_long (hps : ps.length < 9223372036854775808) (hll : l.length < 9223372036854775808) (h : (ps.length : Int) > 60 ∨ (l.length : Int) > 60) :
    Spec Tryd.prog 11 [V.agg [C.i N, C.sl 0 ps.length], V.c (.sl 1 l.length)] [⟨0, .ro 2, cellC ps⟩, ⟨1, .ro 1, l.map C.i⟩] 2 (Is (V.c (.bool true))) := by
  refine Spec.of tok Tryd.func11 rfl rfl rfl fun n0 cx => vc_ok tok ?_
  by_cases h1 : (ps.length : Int) > 60
  · repeat ((conv => whnf); first | (refine And.intro (by first | omega | exact Nat.le_of_ble_eq_true rfl | (dsimp only [inK]; omega) | (simp only [mulS_eq]; omega) | (simp only [mulS_eq, setL_length]; omega) | (simp only [setL_length]; omega) | (simp only [setL_length, List.length_map]; omega) | (exact ⟨by omega, by omega, by first | exact Nat.le_of_ble_eq_true rfl | (dsimp only; omega) | (simp only [setL_length]; omega) | (simp only [setL_length, List.length_map]; omega)⟩) | (exact ⟨by omega, by first | rfl | omega, by omega, Nat.le_of_ble_eq_true rfl, Nat.le_of_ble_eq_true rfl⟩) | (exact ⟨rfl, rfl, rfl, Nat.le_of_ble_eq_true rfl, by first | rfl | omega | exact Nat.le_of_ble_eq_true rfl | (dsimp only; omega) | (simp; done) | (simp; omega), by first | rfl | omega | exact Nat.le_of_ble_eq_true rfl | (dsimp only; omega) | (simp; done) | (simp; omega), by omega, Nat.le_of_ble_eq_true rfl⟩) | exact Eq.refl true) ?_) | refine Exists.intro _ (And.intro rfl ?_) | refine And.intro (And.intro rfl (chk_rowI _ _ _ _)) ?_ | refine br_t (by omega) ?_ | refine br_f (by omega) ?_ | refine bs_t (by omega) ?_ | refine bs_f (by omega) ?_ | refine fun (K' : K3) hK' => ?_ | (refine hK' _ _ _ ?_; clear hK' K') | refine draw_auto tok mixed (by kernel_rfl) ?_ | refine wide_k hps ?_ | refine bs_t h1 ?_ | refine br_t h1 ?_ | refine awake_k ?_ | refine bs_bt (Eq.refl true) ?_ | refine bs_bf (Eq.refl false) ?_ | refine br_bt (Eq.refl true) ?_ | refine br_bf (Eq.refl false) ?_ | refine CallK.m ?_ | refine Two.l ?_ | refine And.intro (And.intro rfl rfl) ?_)
    intro ρ; rfl
  · have h2 : (l.length : Int) > 60 := by omega
    repeat ((conv => whnf); first | (refine And.intro (by first | omega | exact Nat.le_of_ble_eq_true rfl | (dsimp only [inK]; omega) | (simp only [mulS_eq]; omega) | (simp only [mulS_eq, setL_length]; omega) | (simp only [setL_length]; omega) | (simp only [setL_length, List.length_map]; omega) | (exact ⟨by omega, by omega, by first | exact Nat.le_of_ble_eq_true rfl | (dsimp only; omega) | (simp only [setL_length]; omega) | (simp only [setL_length, List.length_map]; omega)⟩) | (exact ⟨by omega, by first | rfl | omega, by omega, Nat.le_of_ble_eq_true rfl, Nat.le_of_ble_eq_true rfl⟩) | (exact ⟨rfl, rfl, rfl, Nat.le_of_ble_eq_true rfl, by first | rfl | omega | exact Nat.le_of_ble_eq_true rfl | (dsimp only; omega) | (simp; done) | (simp; omega), by first | rfl | omega | exact Nat.le_of_ble_eq_true rfl | (dsimp only; omega) | (simp; done) | (simp; omega), by omega, Nat.le_of_ble_eq_true rfl⟩) | exact Eq.refl true) ?_) | refine Exists.intro _ (And.intro rfl ?_) | refine And.intro (And.intro rfl (chk_rowI _ _ _ _)) ?_ | refine br_t (by omega) ?_ | refine br_f (by omega) ?_ | refine bs_t (by omega) ?_ | refine bs_f (by omega) ?_ | refine fun (K' : K3) hK' => ?_ | (refine hK' _ _ _ ?_; clear hK' K') | refine draw_auto tok mixed (by kernel_rfl) ?_ | refine wide_k hps ?_ | refine bs_f h1 ?_ | refine br_f h1 ?_ | refine long_k hll ?_ | refine bs_t h2 ?_ | refine br_t h2 ?_ | refine awake_k ?_ | refine bs_bt (Eq.refl true) ?_ | refine bs_bf (Eq.refl false) ?_ | refine br_bt (Eq.refl true) ?_ | refine br_bf (Eq.refl false) ?_ | refine CallK.m ?_ | refine Two.l ?_ | refine And.intro (And.intro rfl rfl) ?_)
    intro ρ; rfl
set_option maxRecDepth 10000 in
theorem few_no (h1 : ¬ (ps.length : Int) > 60) (h2 : ¬ (l.length : Int) > 60) (hv : okK' N ps = false) :
    Spec Tryd.prog 11 [V.agg [C.i N, C.sl 0 ps.length], V.c (.sl 1 l.length)] [⟨0, .ro 2, cellC ps⟩, ⟨1, .ro 1, l.map C.i⟩] 2 (Is (V.c (.bool true))) := by
  have k6 := rvalid_spec N ps (by omega)
  rw [hv] at k6
  refine Spec.of tok Tryd.func11 rfl rfl rfl fun n0 cx => vc_ok tok ?_
  repeat ((conv => whnf); first | (refine And.intro (by first | omega | exact Nat.le_of_ble_eq_true rfl | (dsimp only [inK]; omega) | (simp only [mulS_eq]; omega) | (simp only [mulS_eq, setL_length]; omega) | (simp only [setL_length]; omega) | (simp only [setL_length, List.length_map]; omega) | (exact ⟨by omega, by omega, by first | exact Nat.le_of_ble_eq_true rfl | (dsimp only; omega) | (simp only [setL_length]; omega) | (simp only [setL_length, List.length_map]; omega)⟩) | (exact ⟨by omega, by first | rfl | omega, by omega, Nat.le_of_ble_eq_true rfl, Nat.le_of_ble_eq_true rfl⟩) | (exact ⟨rfl, rfl, rfl, Nat.le_of_ble_eq_true rfl, by first | rfl | omega | exact Nat.le_of_ble_eq_true rfl | (dsimp only; omega) | (simp; done) | (simp; omega), by first | rfl | omega | exact Nat.le_of_ble_eq_true rfl | (dsimp only; omega) | (simp; done) | (simp; omega), by omega, Nat.le_of_ble_eq_true rfl⟩) | exact Eq.refl true) ?_) | refine Exists.intro _ (And.intro rfl ?_) | refine And.intro (And.intro rfl (chk_rowI _ _ _ _)) ?_ | refine br_t (by omega) ?_ | refine br_f (by omega) ?_ | refine bs_t (by omega) ?_ | refine bs_f (by omega) ?_ | refine fun (K' : K3) hK' => ?_ | (refine hK' _ _ _ ?_; clear hK' K') | refine draw_auto tok mixed (by kernel_rfl) ?_ | refine wide_k (by omega) ?_ | refine bs_f h1 ?_ | refine br_f h1 ?_ | refine long_k (by omega) ?_ | refine bs_f h2 ?_ | refine br_f h2 ?_ | (refine CallK.val (R := []) k6 (by kernel_rfl) rfl (by simp [V.wf, A.wf, C.wf, V.i]) ⟨roE_f (flat_c _) (l := 0) rfl (by omega) rfl (.inr rfl), trivial⟩ rfl rfl (by first | trivial | simp [V.wf, A.wf, C.wf]) ?_) | refine awake_k ?_ | refine bs_bt (Eq.refl true) ?_ | refine bs_bf (Eq.refl false) ?_ | refine br_bt (Eq.refl true) ?_ | refine br_bf (Eq.refl false) ?_ | refine CallK.m ?_ | refine Two.l ?_ | refine And.intro (And.intro rfl rfl) ?_)
  intro ρ; rfl
end
section
variable (n : Nat) (qs : List (Nat × Nat)) (l : List Int) (hk : Knd n qs) (h2 : ¬ (l.length : Int) > 60)
include hk h2
set_option maxRecDepth 20000 in
set_option maxHeartbeats 64000000 in
theorem few_yes : Spec Tryd.prog 11 [V.agg [C.i n, C.sl 0 (castP qs).length], V.c (.sl 1 l.length)] [⟨0, .ro 2, cellC (castP qs)⟩, ⟨1, .ro 1, l.map C.i⟩] 2 (Is (V.c (.bool true))) := by
  have hn := hk.rng
  have hpl : (castP qs).length ≤ 28 := by rw [castP_len]; exact knd_len hk
  have h1 : ¬ ((castP qs).length : Int) > 60 := by omega
  have kv := rvalid_spec n (castP qs) (by omega)
  rw [knd_ok hk] at kv
  obtain ⟨k, hf, hk1, hkn, hi⟩ := few_nat hk
  have k1 := Fewest_spec n qs hk
  rw [hf] at k1
  clear hf
  obtain ⟨r, hr, hrl, hrb, hrr⟩ := frst_k hk (Nat.le_refl k) hi
  have k2 := First_some n k qs hk (by omega) r hr
  have hnl : (natI r).length = n := by rw [natI_len, hrl]
  have hrn : rgtP qs (natI r) = true := rgt_natI hk hrl hrr
  have hrf : isF n (natI r) = true := by
    unfold isF
    rw [hnl, decide_eq_true rfl, Bool.true_and, Bool.not_eq_true', List.any_eq_false]
    intro z hz
    obtain ⟨a, ha, rfl⟩ := List.mem_map.1 hz
    have := hrb a ha
    have h3 : 0 ≤ ((a : Nat) : Int) ∧ ((a : Nat) : Int) ≤ 1000 := by omega
    show ¬ (!decide (0 ≤ ((a : Nat) : Int) ∧ ((a : Nat) : Int) ≤ 1000)) = true
    rw [decide_eq_true h3]; simp
  have k3 : Spec Tryd.prog 17 [V.agg [C.i n, C.sl 0 (castP qs).length], V.c (.sl 1 n)] [⟨0, .ro 2, cellC (castP qs)⟩, ⟨1, .ro 0, (natI r).map C.i⟩] 2 (Is (V.tup [A.c (.bool true), A.c (C.i 0)])) := by
    have h := Right_spec n qs (natI r) hk (by omega)
    unfold rightO at h
    rw [hrf, hrn, hnl] at h
    exact h
  have hk1' : ((k : Int) - 1) = ((k - 1 : Nat) : Int) := by omega
  have k4 : Spec Tryd.prog 48 [V.agg [C.i n, C.sl 0 (castP qs).length], V.i ((k : Int) - 1)] [⟨0, .ro 2, cellC (castP qs)⟩] 1 (Is (V.tup [A.c .nil, A.c (C.i 5)])) := by
    rw [hk1']; exact First_none n (k - 1) qs hk (by omega) (frst_no hk (by omega) hi)
  have k5 := AllClash_spec n qs hk
  have k6 := Apart_spec n qs hk
  have c0 : cntO n qs ((k : Int) - 1) = 0 := by rw [hk1']; exact (cnt_k hk hi (k - 1)).1 (by omega)
  have c1 : 1 ≤ cntO n qs (k : Int) := (cnt_k hk hi k).2 (Nat.le_refl _)
  have k7 := count_spec n ((k : Int) - 1) qs hk
  rw [if_pos (by omega), c0] at k7
  have k8 := count_spec n (k : Int) qs hk
  rw [if_pos (by omega)] at k8
  have b1 := all_few hk hi
  have b2 := apart_few hk hi
  have u1 : usd (natI r) = k := Nat.le_antisymm (usd_le fun z hz => by
    obtain ⟨a, ha, rfl⟩ := List.mem_map.1 hz
    have := hrb a ha; omega) (usd_ge hk hi hnl hrn)
  have k9 := used_spec (natI r) (by omega)
  rw [u1, hnl] at k9
  have k10 := Other_spec n qs hk
  have hok := otQ_knd hk
  have k11 := AllClash_spec n (otQ n qs) hok
  rw [all_other hk] at k11
  have hol : (castP (otQ n qs)).length ≤ 28 := by rw [castP_len]; exact knd_len hok
  have hl1 := bitsL_len (allQ n qs)
  have hl2 := bitsL_len (apaQ n qs)
  have s1 := sameN_spec (bitsL (apaQ n qs)) (by omega)
  have k12 := Right_spec n qs l hk (by omega)
  have k13 := used_spec l (by omega)
  have hug := fun h1 h2 => usd_ge hk hi (l := l) h1 h2
  obtain ⟨c, hc⟩ : ∃ c, c = cntO n qs (k : Int) := ⟨_, rfl⟩
  rw [← hc] at k8 c1
  obtain ⟨a, ha⟩ : ∃ a, a = bitsL (allQ n qs) := ⟨_, rfl⟩
  rw [← ha] at k5 b1 hl1
  obtain ⟨b, hb⟩ : ∃ b, b = bitsL (apaQ n qs) := ⟨_, rfl⟩
  rw [← hb] at k6 k11 s1 b2 hl2
  obtain ⟨pq, hpq⟩ : ∃ pq, pq = castP (otQ n qs) := ⟨_, rfl⟩
  rw [← hpq] at k10 k11 hol
  unfold rowI at k2 k5 k6 k11
  rw [hrl] at k2
  have t1 : ¬ (k : Int) < 1 := by omega
  have t2 : ¬ (k : Int) > n := by omega
  have t3 : ¬ c < 1 := by omega
  have t4 : ¬ (k : Int) < (a.length : Nat) := by omega
  have t5 : ¬ (k : Int) * ((b.length : Nat) : Int) < n := by
    have := Int.ofNat_le.2 b2
    rw [Int.natCast_mul] at this; omega
  have t6 : ¬ ((k : Nat) : Int) ≠ (k : Nat) := fun h => h rfl
  have t7 : 0 ≤ (k : Int) * ((b.length : Nat) : Int) ∧ (k : Int) * ((b.length : Nat) : Int) ≤ 64 := by
    have : k * b.length ≤ 8 * 8 := Nat.mul_le_mul (by omega) hl2
    rw [← Int.natCast_mul]; omega
  have cases3 : (∃ e : Int, e ≠ 0 ∧ rightO n qs l = V.tup [A.c .ff, A.c (C.i e)]) ∨ rightO n qs l = V.tup [A.c (.bool false), A.c (C.i 0)] ∨ (rightO n qs l = V.tup [A.c (.bool true), A.c (C.i 0)] ∧ k ≤ usd l) := by
    unfold rightO
    cases hfi : isF n l with
    | false => exact .inl ⟨71, by omega, rfl⟩
    | true =>
      cases hrg : rgtP qs l with
      | false => exact .inr (.inl rfl)
      | true => exact .inr (.inr ⟨rfl, hug (isF_len hfi) hrg⟩)
  refine Spec.of tok Tryd.func11 rfl rfl rfl fun n0 cx => vc_ok tok ?_
  repeat ((conv => whnf); first | (refine And.intro (by first | omega | exact Nat.le_of_ble_eq_true rfl | (dsimp only [inK]; omega) | (simp only [mulS_eq]; omega) | (simp only [mulS_eq, setL_length]; omega) | (simp only [setL_length]; omega) | (simp only [setL_length, List.length_map]; omega) | (exact ⟨by omega, by omega, by first | exact Nat.le_of_ble_eq_true rfl | (dsimp only; omega) | (simp only [setL_length]; omega) | (simp only [setL_length, List.length_map]; omega)⟩) | (exact ⟨by omega, by first | rfl | omega, by omega, Nat.le_of_ble_eq_true rfl, Nat.le_of_ble_eq_true rfl⟩) | (exact ⟨rfl, rfl, rfl, Nat.le_of_ble_eq_true rfl, by first | rfl | omega | exact Nat.le_of_ble_eq_true rfl | (dsimp only; omega) | (simp; done) | (simp; omega), by first | rfl | omega | exact Nat.le_of_ble_eq_true rfl | (dsimp only; omega) | (simp; done) | (simp; omega), by omega, Nat.le_of_ble_eq_true rfl⟩) | exact Eq.refl true) ?_) | refine Exists.intro _ (And.intro rfl ?_) | refine And.intro (And.intro rfl (chk_rowI _ _ _ _)) ?_ | refine br_t (by omega) ?_ | refine br_f (by omega) ?_ | refine bs_t (by omega) ?_ | refine bs_f (by omega) ?_ | refine fun (K' : K3) hK' => ?_ | (refine hK' _ _ _ ?_; clear hK' K') | refine draw_auto tok mixed (by kernel_rfl) ?_ | refine wide_k (by omega) ?_ | refine bs_f h1 ?_ | refine br_f h1 ?_ | refine long_k (by omega) ?_ | refine bs_f h2 ?_ | refine br_f h2 ?_ | (refine CallK.val (R := []) kv (by kernel_rfl) rfl (by simp [V.wf, A.wf, C.wf, V.i]) ⟨roE_f (flat_c _) (l := 0) rfl (by omega) rfl (.inr rfl), trivial⟩ rfl rfl (by first | trivial | simp [V.wf, A.wf, C.wf]) ?_) | (refine CallK.val (R := []) k1 (by kernel_rfl) rfl (by simp [V.wf, A.wf, C.wf, V.i]) ⟨roE_f (flat_c _) (l := 0) rfl (by omega) rfl (.inr rfl), trivial⟩ rfl rfl (by first | trivial | simp [V.wf, A.wf, C.wf]) ?_) | refine CallK.rowE (R := []) (flat_i _) k2 (by kernel_rfl) rfl (by simp [V.wf, A.wf, C.wf, V.i]) ⟨roE_f (flat_c _) (l := 0) rfl (by omega) rfl (.inr rfl), trivial⟩ rfl ?_ | (refine CallK.val (R := [(0, some 0), (1, some 3)]) k3 (by kernel_rfl) rfl (by simp [V.wf, A.wf, C.wf, V.i]) ⟨roE_f (flat_c _) (l := 0) rfl (by omega) rfl (.inr rfl), roE_f (flat_i _) (l := 3) rfl (by omega) rfl (.inl rfl), trivial⟩ rfl rfl (by first | trivial | simp [V.wf, A.wf, C.wf]) ?_) | (refine CallK.val (R := []) k4 (by kernel_rfl) rfl (by simp [V.wf, A.wf, C.wf, V.i]) ⟨roE_f (flat_c _) (l := 0) rfl (by omega) rfl (.inr rfl), trivial⟩ rfl rfl (by first | trivial | simp [V.wf, A.wf, C.wf]) ?_) | refine CallK.rowE (R := []) (flat_i _) k5 (by kernel_rfl) rfl (by simp [V.wf, A.wf, C.wf, V.i]) ⟨roE_f (flat_c _) (l := 0) rfl (by omega) rfl (.inr rfl), trivial⟩ rfl ?_ | refine CallK.rowE (R := []) (flat_i _) k6 (by kernel_rfl) rfl (by simp [V.wf, A.wf, C.wf, V.i]) ⟨roE_f (flat_c _) (l := 0) rfl (by omega) rfl (.inr rfl), trivial⟩ rfl ?_ | (refine CallK.val (R := []) k7 (by kernel_rfl) rfl (by simp [V.wf, A.wf, C.wf, V.i]) ⟨roE_f (flat_c _) (l := 0) rfl (by omega) rfl (.inr rfl), trivial⟩ rfl rfl (by first | trivial | simp [V.wf, A.wf, C.wf]) ?_) | (refine CallK.val (R := []) k8 (by kernel_rfl) rfl (by simp [V.wf, A.wf, C.wf, V.i]) ⟨roE_f (flat_c _) (l := 0) rfl (by omega) rfl (.inr rfl), trivial⟩ rfl rfl (by first | trivial | simp [V.wf, A.wf, C.wf]) ?_) | refine bs_f t1 ?_ | refine br_f t1 ?_ | refine bs_f t2 ?_ | refine br_f t2 ?_ | refine bs_f t3 ?_ | refine br_f t3 ?_ | refine bs_f t4 ?_ | refine br_f t4 ?_ | refine bs_f t5 ?_ | refine br_f t5 ?_ | refine bs_f t6 ?_ | refine br_f t6 ?_ | (refine CallK.val (R := [(0, some 3)]) k9 (by kernel_rfl) rfl (by simp [V.wf, A.wf, C.wf, V.i]) ⟨roE_f (flat_i _) (l := 3) rfl (by omega) rfl (.inr rfl), trivial⟩ rfl rfl (by first | trivial | simp [V.wf, A.wf, C.wf]) ?_) | refine CallK.rowA (R := []) (flat_c _) k10 (by kernel_rfl) rfl (by simp [V.wf, A.wf, C.wf, V.i]) ⟨roE_f (flat_c _) (l := 0) rfl (by omega) rfl (.inr rfl), trivial⟩ rfl ?_ | refine CallK.rowE (R := [(0, some 6)]) (flat_i _) k11 (by kernel_rfl) rfl (by simp [V.wf, A.wf, C.wf, V.i]) ⟨roE_f (flat_c _) (l := 6) rfl (by omega) rfl (.inr rfl), trivial⟩ rfl ?_ | (refine CallK.val (R := [(0, some 8), (1, some 5)]) s1 (by kernel_rfl) rfl (by simp [V.wf, A.wf, C.wf, V.i]) ⟨roE_f (flat_i _) (l := 8) rfl (by omega) rfl (.inl rfl), roE_f (flat_i _) (l := 5) rfl (by omega) rfl (.inl rfl), trivial⟩ rfl rfl (by first | trivial | simp [V.wf, A.wf, C.wf]) ?_) | refine bs_bt (Eq.refl true) ?_ | refine bs_bf (Eq.refl false) ?_ | refine br_bt (Eq.refl true) ?_ | refine br_bf (Eq.refl false) ?_ | refine CallK.m ?_ | refine Two.l ?_ | refine And.intro (And.intro rfl rfl) ?_)
  rcases cases3 with ⟨e, he, hro⟩ | hro | ⟨hro, hus⟩
  · rw [hro] at k12
    repeat ((conv => whnf); first | (refine And.intro (by first | omega | exact Nat.le_of_ble_eq_true rfl | (dsimp only [inK]; omega) | (simp only [mulS_eq]; omega) | (simp only [mulS_eq, setL_length]; omega) | (simp only [setL_length]; omega) | (simp only [setL_length, List.length_map]; omega) | (exact ⟨by omega, by omega, by first | exact Nat.le_of_ble_eq_true rfl | (dsimp only; omega) | (simp only [setL_length]; omega) | (simp only [setL_length, List.length_map]; omega)⟩) | (exact ⟨by omega, by first | rfl | omega, by omega, Nat.le_of_ble_eq_true rfl, Nat.le_of_ble_eq_true rfl⟩) | (exact ⟨rfl, rfl, rfl, Nat.le_of_ble_eq_true rfl, by first | rfl | omega | exact Nat.le_of_ble_eq_true rfl | (dsimp only; omega) | (simp; done) | (simp; omega), by first | rfl | omega | exact Nat.le_of_ble_eq_true rfl | (dsimp only; omega) | (simp; done) | (simp; omega), by omega, Nat.le_of_ble_eq_true rfl⟩) | exact Eq.refl true) ?_) | refine Exists.intro _ (And.intro rfl ?_) | refine And.intro (And.intro rfl (chk_rowI _ _ _ _)) ?_ | refine br_t (by omega) ?_ | refine br_f (by omega) ?_ | refine bs_t (by omega) ?_ | refine bs_f (by omega) ?_ | refine fun (K' : K3) hK' => ?_ | (refine hK' _ _ _ ?_; clear hK' K') | refine draw_auto tok mixed (by kernel_rfl) ?_ | (refine CallK.val (R := []) k12 (by kernel_rfl) rfl (by simp [V.wf, A.wf, C.wf, V.i]) ⟨roE_f (flat_c _) (l := 0) rfl (by omega) rfl (.inr rfl), roE_f (flat_i _) (l := 1) rfl (by omega) rfl (.inl rfl), trivial⟩ rfl rfl (by first | trivial | simp [V.wf, A.wf, C.wf]) ?_) | refine bs_t he ?_ | refine br_t he ?_ | refine awake_k ?_ | refine bs_bt (Eq.refl true) ?_ | refine bs_bf (Eq.refl false) ?_ | refine br_bt (Eq.refl true) ?_ | refine br_bf (Eq.refl false) ?_ | refine CallK.m ?_ | refine Two.l ?_ | refine And.intro (And.intro rfl rfl) ?_)
    intro ρ; rfl
  · rw [hro] at k12
    repeat ((conv => whnf); first | (refine And.intro (by first | omega | exact Nat.le_of_ble_eq_true rfl | (dsimp only [inK]; omega) | (simp only [mulS_eq]; omega) | (simp only [mulS_eq, setL_length]; omega) | (simp only [setL_length]; omega) | (simp only [setL_length, List.length_map]; omega) | (exact ⟨by omega, by omega, by first | exact Nat.le_of_ble_eq_true rfl | (dsimp only; omega) | (simp only [setL_length]; omega) | (simp only [setL_length, List.length_map]; omega)⟩) | (exact ⟨by omega, by first | rfl | omega, by omega, Nat.le_of_ble_eq_true rfl, Nat.le_of_ble_eq_true rfl⟩) | (exact ⟨rfl, rfl, rfl, Nat.le_of_ble_eq_true rfl, by first | rfl | omega | exact Nat.le_of_ble_eq_true rfl | (dsimp only; omega) | (simp; done) | (simp; omega), by first | rfl | omega | exact Nat.le_of_ble_eq_true rfl | (dsimp only; omega) | (simp; done) | (simp; omega), by omega, Nat.le_of_ble_eq_true rfl⟩) | exact Eq.refl true) ?_) | refine Exists.intro _ (And.intro rfl ?_) | refine And.intro (And.intro rfl (chk_rowI _ _ _ _)) ?_ | refine br_t (by omega) ?_ | refine br_f (by omega) ?_ | refine bs_t (by omega) ?_ | refine bs_f (by omega) ?_ | refine fun (K' : K3) hK' => ?_ | (refine hK' _ _ _ ?_; clear hK' K') | refine draw_auto tok mixed (by kernel_rfl) ?_ | (refine CallK.val (R := []) k12 (by kernel_rfl) rfl (by simp [V.wf, A.wf, C.wf, V.i]) ⟨roE_f (flat_c _) (l := 0) rfl (by omega) rfl (.inr rfl), roE_f (flat_i _) (l := 1) rfl (by omega) rfl (.inl rfl), trivial⟩ rfl rfl (by first | trivial | simp [V.wf, A.wf, C.wf]) ?_) | refine awake_k ?_ | refine bs_bt (Eq.refl true) ?_ | refine bs_bf (Eq.refl false) ?_ | refine br_bt (Eq.refl true) ?_ | refine br_bf (Eq.refl false) ?_ | refine CallK.m ?_ | refine Two.l ?_ | refine And.intro (And.intro rfl rfl) ?_)
    intro ρ; rfl
  · rw [hro] at k12
    have t8 : ((usd l : Nat) : Int) ≥ (k : Nat) := by omega
    repeat ((conv => whnf); first | (refine And.intro (by first | omega | exact Nat.le_of_ble_eq_true rfl | (dsimp only [inK]; omega) | (simp only [mulS_eq]; omega) | (simp only [mulS_eq, setL_length]; omega) | (simp only [setL_length]; omega) | (simp only [setL_length, List.length_map]; omega) | (exact ⟨by omega, by omega, by first | exact Nat.le_of_ble_eq_true rfl | (dsimp only; omega) | (simp only [setL_length]; omega) | (simp only [setL_length, List.length_map]; omega)⟩) | (exact ⟨by omega, by first | rfl | omega, by omega, Nat.le_of_ble_eq_true rfl, Nat.le_of_ble_eq_true rfl⟩) | (exact ⟨rfl, rfl, rfl, Nat.le_of_ble_eq_true rfl, by first | rfl | omega | exact Nat.le_of_ble_eq_true rfl | (dsimp only; omega) | (simp; done) | (simp; omega), by first | rfl | omega | exact Nat.le_of_ble_eq_true rfl | (dsimp only; omega) | (simp; done) | (simp; omega), by omega, Nat.le_of_ble_eq_true rfl⟩) | exact Eq.refl true) ?_) | refine Exists.intro _ (And.intro rfl ?_) | refine And.intro (And.intro rfl (chk_rowI _ _ _ _)) ?_ | refine br_t (by omega) ?_ | refine br_f (by omega) ?_ | refine bs_t (by omega) ?_ | refine bs_f (by omega) ?_ | refine fun (K' : K3) hK' => ?_ | (refine hK' _ _ _ ?_; clear hK' K') | refine draw_auto tok mixed (by kernel_rfl) ?_ | (refine CallK.val (R := []) k12 (by kernel_rfl) rfl (by simp [V.wf, A.wf, C.wf, V.i]) ⟨roE_f (flat_c _) (l := 0) rfl (by omega) rfl (.inr rfl), roE_f (flat_i _) (l := 1) rfl (by omega) rfl (.inl rfl), trivial⟩ rfl rfl (by first | trivial | simp [V.wf, A.wf, C.wf]) ?_) | (refine CallK.val (R := [(0, some 1)]) k13 (by kernel_rfl) rfl (by simp [V.wf, A.wf, C.wf, V.i]) ⟨roE_f (flat_i _) (l := 1) rfl (by omega) rfl (.inr rfl), trivial⟩ rfl rfl (by first | trivial | simp [V.wf, A.wf, C.wf]) ?_) | refine bs_t t8 ?_ | refine br_t t8 ?_ | refine awake_k ?_ | refine bs_bt (Eq.refl true) ?_ | refine bs_bf (Eq.refl false) ?_ | refine br_bt (Eq.refl true) ?_ | refine br_bf (Eq.refl false) ?_ | refine CallK.m ?_ | refine Two.l ?_ | refine And.intro (And.intro rfl rfl) ?_)
    intro ρ; rfl
end
theorem few_any (N : Int) (ps : List Cell) (l : List Int) (ao bo : Option Addr) (c d : Nat) (w : World) (h : CellsAt w ao c ps) (hb : IntsC w bo d l) (hF : Fct w.heap.size w) :
    Calls Tryd.prog 11 #[.agg #[.int .i64 N, .slice ao ps.length c], .slice bo l.length d] w fun e w' => e = .returned (.bool true) ∧ Below w.heap.size w w' := by
  by_cases hl : (ps.length : Int) > 60 ∨ (l.length : Int) > 60
  · exact isTrue_any (vs := [V.agg [C.i N, C.sl 0 ps.length], V.c (.sl 1 l.length)]) (few_long N ps l h.2.2 hb.1.2 hl) (hp_ki1 h hb hF) (by simp [V.wf, A.wf, C.wf]) rfl
  · have h1 : ¬ (ps.length : Int) > 60 := fun h => hl (.inl h)
    have h2 : ¬ (l.length : Int) > 60 := fun h => hl (.inr h)
    cases hv : okK' N ps with
    | false => exact isTrue_any (vs := [V.agg [C.i N, C.sl 0 ps.length], V.c (.sl 1 l.length)]) (few_no N ps l h1 h2 hv) (hp_ki1 h hb hF) (by simp [V.wf, A.wf, C.wf]) rfl
    | true =>
      obtain ⟨n, qs, rfl, rfl, hk⟩ := knd_of hv
      exact isTrue_any (vs := [V.agg [C.i n, C.sl 0 (castP qs).length], V.c (.sl 1 l.length)]) (few_yes n qs l hk h2) (hp_ki1 h hb hF) (by simp [V.wf, A.wf, C.wf]) rfl
end Go.Proofs.YtijnimgmpocmaaaDoor

/- Waste: what the listed variables give; a start that meets the condition. -/
namespace Go.Proofs.YtijnimgmpocmaaaDoor
open Go.RowKit
set_option linter.unusedVariables false
set_option linter.unusedSimpArgs false
open Go.ChangeShapes Go.WideShapes Go.ChangeAt Go.RowKit Go.Deep Go.Joins
abbrev laidV : List (String × DataW Unit) := [("math/bits.deBruijn32tab", Rows.laid_math_bits_deBruijn32tab), ("math/bits.deBruijn64tab", Rows.laid_math_bits_deBruijn64tab)]
theorem gTab : Tryd.prog.globalNamed "math/bits.deBruijn64tab" = some 1 := by kernel_rfl
theorem tTab : (Tryd.prog.globals[1]?).map (·.type) = some 120 := by kernel_rfl
theorem tabDat : (Rows.laid_math_bits_deBruijn64tab (H := Unit)) = .agg (Lib.deBruijn64tab.map fun n : Nat => .lit (.int .u8 n)) := rfl
set_option maxRecDepth 10000 in
theorem fct_of_laid {W : World} (h : laidMetH Tryd.prog laidV W) : Fct W.heap.size W := by
  have h' : laidMet Tryd.prog laidV W := h
  obtain ⟨ps, ⟨_, _, _, _, _, _, _, _, _, _, ⟨g, t, cs, fuel, p, q, hg, ht, hv, hd, _⟩, _⟩, _⟩ := h'
  obtain rfl := Option.some.inj (gTab.symm.trans hg)
  obtain rfl := Option.some.inj (tTab.symm.trans ht)
  rw [tabDat] at hd
  obtain ⟨xs, m, _, hx, hl, hxl, hgo⟩ := DataW.trod_array Tryd.underlying120 hd
  have hc1 : Tryd.prog.cellsOf 5 = 1 := by kernel_rfl
  have hc64 : Tryd.prog.cellsOf 120 = 64 := by kernel_rfl
  rw [hc64] at hl
  have hcell : ∀ j, j < Lib.deBruijn64tab.length → W.cell? ⟨1, j, none⟩ = some (.int .u8 (Lib.deBruijn64tab.getD j 0)) := by
    intro j hj
    have hj64 : j < 64 := hj
    have h3 := hgo j hj64
    rw [hc1, Nat.mul_one] at h3
    obtain ⟨y, hy⟩ : ∃ y, xs[j]? = some y := ⟨xs[j]'(by omega), List.getElem?_eq_getElem _⟩
    rw [hy] at h3
    obtain ⟨u, hu⟩ : ∃ u, cs.toList[j]? = some u := ⟨cs.toList[j]'(by omega), List.getElem?_eq_getElem _⟩
    have e1 : (cs.toList.drop j).take 1 = [u] := by
      rw [List.take_one, List.head?_drop, hu]; rfl
    rw [e1] at h3
    obtain ⟨z, e0, e2, _⟩ := DataW.trod_int Tryd.underlying5 h3
    have e0 : u = .int .u8 z := by simpa using e0
    have hxm : xs.map (·.1) = Lib.deBruijn64tab.map fun n : Nat => (DataW.lit (.int .u8 n) : DataW Unit) := by
      have := congrArg Prod.fst hx
      simp only [DataW.agg.injEq] at this
      exact this.symm
    have hym : (xs.map (·.1))[j]? = some y.1 := by rw [List.getElem?_map, hy]; rfl
    rw [hxm, List.getElem?_map] at hym
    have hz : (DataW.lit (.int .u8 (Lib.deBruijn64tab.getD j 0 : Nat)) : DataW Unit) = y.1 := by
      rw [List.getElem?_eq_getElem hj] at hym
      simp only [Option.map_some, Option.some.injEq] at hym
      rw [← hym, List.getD_eq_getElem?_getD, List.getElem?_eq_getElem hj]; rfl
    have hzz : (Lib.deBruijn64tab.getD j 0 : Int) = z := by
      rw [e2] at hz
      simpa using hz
    have hw := World.var?_cell gTab hv j
    rw [hw]
    have : cs[j]? = some u := by rw [← Array.getElem?_toList]; exact hu
    rw [this, e0, hzz]
  have h0 := hcell 0 (by decide)
  have hlt := World.block_lt_of_cell? _ _ h0
  refine ⟨hlt, ?_⟩
  have h1 := h0
  unfold World.cell? at h1
  cases hb : W.heap[1]? with
  | none => simp [hb] at h1
  | some o =>
    cases o with
    | cells c t fr => exact ⟨c, t, fr, rfl, hcell⟩
    | _ => simp [hb] at h1
theorem door_met (os : Os) (args : Array Value) : laidMetH Tryd.prog laidV ((World.doorLaid Tryd.prog 19 os).forCall (fun _ _ => 0) ⟨#[], args, []⟩).memory :=
  laidMetH_of_parts3 (fuel := 8) (laidMet_of_run' 8 (by kernel_rfl) (by kernel_rfl)) (by kernel_rfl) (by kernel_rfl)
end Go.Proofs.YtijnimgmpocmaaaDoor

