/- The cost of what comes about is that of what was there by the prices before. -/
import Derived.Test.YtnafllhgjidbkaaT34
namespace Go.Proofs.Ytnafllhgjidbkaa
open Go.RowKit Go.Shelf
set_option linter.unusedVariables false
set_option linter.unusedSimpArgs false
def valF (l : List Int) (st : List Int × Int) : Int := st.2 * l.getD st.1.length 0 + dotR st.1 l st.1.length
theorem dotR_set (a l : List Int) (t : Nat) (v : Int) (ht : t < a.length) : ∀ n, dotR (a.set t v) l n = dotR a l n + if t < n then (v - a.getD t 0) * l.getD t 0 else 0
  | 0 => by simp [dotR, sumR_zero]
  | n + 1 => by
    rw [dotR_succ, dotR_succ, dotR_set a l t v ht n, getD_set _ _ _ _ ht]
    by_cases e : n = t
    · subst e
      rw [if_neg (by omega), if_pos rfl, if_pos (by omega), Int.sub_mul]; omega
    · rw [if_neg e]
      by_cases h : t < n
      · rw [if_pos h, if_pos (by omega)]; omega
      · rw [if_neg h, if_neg (by omega)]; omega
theorem valF_step {l : List Int} {oil : Int} {st : List Int × Int} {x : Int × Int} (hl : l.length = st.1.length + 1) (hx : x.1 = -1 ∨ ∃ t : Nat, x.1 = t ∧ t < st.1.length) :
    valF l (stepF oil st x) = valF l st + oil * (x.2 * l.getD (tgt l x.1) 0) := by
  unfold stepF valF tgt
  by_cases h : x.1 = -1
  · rw [if_pos h, if_pos h]
    show (st.2 + oil * x.2) * l.getD st.1.length 0 + dotR st.1 l st.1.length = _
    rw [hl, Nat.add_sub_cancel, Int.add_mul, Int.mul_assoc]; omega
  · obtain ⟨t, ht, htl⟩ : ∃ t : Nat, x.1 = t ∧ t < st.1.length := by rcases hx with h' | h'; exact absurd h' h; exact h'
    rw [if_neg h, if_neg h, ht]
    simp only [Int.toNat_natCast, List.length_set]
    have e : st.1.getD t 0 + oil * x.2 - st.1.getD t 0 = oil * x.2 := by omega
    rw [dotR_set _ _ _ _ htl, if_pos htl, e, Int.mul_assoc]; omega
theorem valF_fold {l : List Int} {oil : Int} : ∀ (xs : List (Int × Int)) {st : List Int × Int}, l.length = st.1.length + 1 → (∀ x ∈ xs, x.1 = -1 ∨ ∃ t : Nat, x.1 = t ∧ t < st.1.length) → valF l (xs.foldl (stepF oil) st) = valF l st + oil * fsum l xs
  | [], st, _, _ => by simp [fsum]
  | x :: xs, st, hl, h => by
    rw [List.foldl_cons, valF_fold xs (by rw [stepF_len]; exact hl) (fun y hy => by rw [stepF_len]; exact h y (by simp [hy])), valF_step hl (h x (by simp))]
    simp only [fsum, List.map_cons, List.sum_cons, Int.mul_add]; omega
theorem zeros_getD (n i : Nat) : (List.replicate n (0 : Int)).getD i 0 = 0 := by rw [List.getD_eq_getElem?_getD, List.getElem?_replicate]; split <;> rfl
theorem dotR_zeros (n : Nat) (l : List Int) : ∀ k, dotR (List.replicate n 0) l k = 0
  | 0 => rfl
  | k + 1 => by
    rw [dotR_succ, dotR_zeros n l k]
    have : (List.replicate n (0 : Int)).getD k 0 = 0 := by rw [List.getD_eq_getElem?_getD, List.getElem?_replicate]; split <;> rfl
    rw [this]; simp
theorem valF_up {B : Bay} {s : Slk} {l : List Int} (hval : validP B) (hlen : s.Oil.length = B.Share.length) (hl : l.length = s.Oil.length + 1) : ∀ k, k ≤ s.Oil.length →
    valF l (mvUp B s k) = 16 * s.Away * l.getD s.Oil.length 0 + sumR k (fun i => s.Oil.getD i 0 * fsum l (flowsL B i))
  | 0, _ => by
    show valF l (List.replicate s.Oil.length 0, 16 * s.Away) = _
    unfold valF
    simp only [List.length_replicate]
    rw [dotR_zeros, sumR_zero]
  | k + 1, h => by
    rw [mvUp_succ]; unfold rowF
    rw [valF_fold _ (by rw [mvUp_len]; exact hl) (fun x hx => by rw [mvUp_len, hlen]; exact (flow_bd hval (by omega) x hx).1), valF_up hval hlen hl k (by omega), sumR_succ]; omega
theorem adj1 {B : Bay} {s : Slk} {l : List Int} (hval : validP B) (hlen : s.Oil.length = B.Share.length) (hl : l.length = s.Oil.length + 1) : costZ (mv B s) l = costZ s (bOne B l) := by
  have h1 := valF_up hval hlen hl s.Oil.length (Nat.le_refl _)
  have h2 : costZ (mv B s) l = valF l (mvUp B s s.Oil.length) := rfl
  rw [h2, h1]
  unfold costZ dotR
  have h3 : l.length - 1 = s.Oil.length := by omega
  have e1 : (bOne B l).getD s.Oil.length 0 = 16 * l.getD s.Oil.length 0 := by
    unfold bOne; rw [bUp_get B l _ _ (Nat.le_refl _) (by omega), if_pos h3.symm, h3]
  rw [e1]
  have e2 : sumR s.Oil.length (fun i => s.Oil.getD i 0 * (bOne B l).getD i 0) = sumR s.Oil.length (fun i => s.Oil.getD i 0 * fsum l (flowsL B i)) := sumR_congr (fun i hi => by
    unfold bOne; rw [bUp_get B l _ _ (Nat.le_refl _) (by omega), if_neg (by omega), if_pos (by omega)])
  rw [e2, Int.mul_comm 16 s.Away, Int.mul_assoc]
theorem bN_comm (B : Bay) (l : List Int) : ∀ n, bN B (bOne B l) n = bOne B (bN B l n)
  | 0 => rfl
  | n + 1 => by show bOne B (bN B (bOne B l) n) = bOne B (bOne B (bN B l n)); rw [bN_comm B l n]
theorem adjN {B : Bay} {s : Slk} (hval : validP B) (hlen : s.Oil.length = B.Share.length) : ∀ (n : Nat) (l : List Int), l.length = s.Oil.length + 1 → costZ (mvN B s n) l = costZ s (bN B l n)
  | 0, l, _ => rfl
  | n + 1, l, hl => by
    show costZ (mv B (mvN B s n)) l = costZ s (bOne B (bN B l n))
    rw [adj1 hval (by rw [mvN_len]; exact hlen) (by rw [mvN_len]; exact hl), adjN hval hlen n _ (by rw [bOne_len]; exact hl), bN_comm]
/-- One part of oil in a cell; the cell behind the last one is what is away. -/
def oneS (B : Bay) (i : Nat) : Slk := if i = B.Share.length then ⟨0, List.replicate B.Share.length 0, 1⟩ else ⟨0, (List.replicate B.Share.length 0).set i 1, 0⟩
theorem oneS_len (B : Bay) (i : Nat) : (oneS B i).Oil.length = B.Share.length := by unfold oneS; split <;> simp
theorem oneS_get {B : Bay} {i j : Nat} (hi : i < B.Share.length) : (oneS B i).Oil.getD j 0 = if j = i then 1 else 0 := by
  unfold oneS; rw [if_neg (by omega)]
  show ((List.replicate B.Share.length 0).set i 1).getD j 0 = _
  rw [getD_set _ _ _ _ (by simpa using hi)]
  split
  · rfl
  · rw [List.getD_eq_getElem?_getD, List.getElem?_replicate]; split <;> rfl
theorem sum_zeros (n : Nat) : (List.replicate n (0 : Int)).sum = 0 := by simp
theorem oneS_fits {B : Bay} {i : Nat} (hval : validP B) (hi : i ≤ B.Share.length) : fitsP B (oneS B i) := by
  have h1 := hval.2.2.2.1
  have hl : lim 0 = 36000 := by decide
  by_cases e : i = B.Share.length
  · have : oneS B i = ⟨0, List.replicate B.Share.length 0, 1⟩ := by unfold oneS; rw [if_pos e]
    rw [this]
    refine ⟨⟨by simp, by simp⟩, by simpa using h1, ?_, ⟨by simp, ?_⟩⟩
    · rw [amtB_iff]; intro k hk
      rw [List.getD_eq_getElem?_getD, List.getElem?_replicate]
      simp at hk; rw [if_pos hk]; simp [okB_iff, hl]
    · show (1 : Int) ≤ lim 0 - (List.replicate B.Share.length 0).sum
      rw [sum_zeros, hl]; omega
  · have hi' : i < B.Share.length := by omega
    have : oneS B i = ⟨0, (List.replicate B.Share.length 0).set i 1, 0⟩ := by unfold oneS; rw [if_neg e]
    have hs : ((List.replicate B.Share.length (0 : Int)).set i 1).sum = 1 := by
      rw [sum_set _ _ _ (by simpa using hi'), sum_zeros, List.getD_eq_getElem?_getD, List.getElem?_replicate, if_pos hi']; simp
    rw [this]
    refine ⟨⟨by simp, by simp⟩, by simpa using h1, ?_, ⟨by simp, ?_⟩⟩
    · rw [amtB_iff]; intro k hk
      show okB (lim 0) (((List.replicate B.Share.length 0).set i 1).getD k 0) = true
      rw [getD_set _ _ _ _ (by simpa using hi'), hl, okB_iff]
      split
      · omega
      · rw [List.getD_eq_getElem?_getD, List.getElem?_replicate]; split <;> simp
    · show (0 : Int) ≤ lim 0 - ((List.replicate B.Share.length 0).set i 1).sum
      rw [hs, hl]; omega
theorem oneS_cost {B : Bay} {l : List Int} {i : Nat} (hi : i ≤ B.Share.length) : costZ (oneS B i) l = l.getD i 0 := by
  unfold costZ
  by_cases e : i = B.Share.length
  · have : oneS B i = ⟨0, List.replicate B.Share.length 0, 1⟩ := by unfold oneS; rw [if_pos e]
    rw [this]
    simp only [List.length_replicate]
    rw [dotR_zeros, e]; omega
  · have hi' : i < B.Share.length := by omega
    have : oneS B i = ⟨0, (List.replicate B.Share.length 0).set i 1, 0⟩ := by unfold oneS; rw [if_neg e]
    rw [this]
    simp only [List.length_set, List.length_replicate]
    rw [dotR_set _ _ _ _ (by simpa using hi'), dotR_zeros, if_pos hi', zeros_getD]; omega
end Go.Proofs.Ytnafllhgjidbkaa
