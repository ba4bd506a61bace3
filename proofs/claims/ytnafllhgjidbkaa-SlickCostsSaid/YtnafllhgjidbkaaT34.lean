/- Prices before moves: the plain law, and the walk of before. -/
import Derived.Test.YtnafllhgjidbkaaT33
import Derived.Test.YtnafllhgjidbkaaT30
namespace Go.Proofs.Ytnafllhgjidbkaa
open Go.RowKit Go.Shelf
set_option linter.unusedVariables false
set_option linter.unusedSimpArgs false
attribute [local go_sem] Oper.semAt_some
/-! ### The plain law -/
def tgt (now : List Int) (to : Int) : Nat := if to = -1 then now.length - 1 else to.toNat
def bstep (now : List Int) (i : Nat) (st : List Int) (x : Int × Int) : List Int := st.set i (st.getD i 0 + x.2 * now.getD (tgt now x.1) 0)
def fsum (now : List Int) (xs : List (Int × Int)) : Int := (xs.map (fun x => x.2 * now.getD (tgt now x.1) 0)).sum
def brow (B : Bay) (now : List Int) (st : List Int) (i : Nat) : List Int := (flowsL B i).foldl (bstep now i) st
def bUp (B : Bay) (now : List Int) (k : Nat) : List Int := (List.range k).foldl (brow B now) ((List.replicate now.length 0).set (now.length - 1) (16 * now.getD (now.length - 1) 0))
def bOne (B : Bay) (now : List Int) : List Int := bUp B now (now.length - 1)
def bN (B : Bay) (l : List Int) : Nat → List Int
  | 0 => l
  | n + 1 => bOne B (bN B l n)
theorem bUp_succ (B : Bay) (now : List Int) (k : Nat) : bUp B now (k + 1) = brow B now (bUp B now k) k := by
  unfold bUp; rw [List.range_succ, List.foldl_append]; rfl
theorem bfold_len (now : List Int) (i : Nat) : ∀ (xs : List (Int × Int)) (st : List Int), (xs.foldl (bstep now i) st).length = st.length
  | [], _ => rfl
  | x :: xs, st => by rw [List.foldl_cons, bfold_len now i xs]; simp [bstep]
theorem bUp_len (B : Bay) (now : List Int) (k : Nat) : (bUp B now k).length = now.length := by
  induction k with
  | zero => simp [bUp]
  | succ k ih => rw [bUp_succ]; unfold brow; rw [bfold_len, ih]
theorem bOne_len (B : Bay) (now : List Int) : (bOne B now).length = now.length := bUp_len _ _ _
theorem bN_len (B : Bay) (l : List Int) (n : Nat) : (bN B l n).length = l.length := by
  induction n with
  | zero => rfl
  | succ n ih => show (bOne B (bN B l n)).length = _; rw [bOne_len, ih]
theorem bfold_get (now : List Int) (i j : Nat) : ∀ (xs : List (Int × Int)) (st : List Int), i < st.length → (xs.foldl (bstep now i) st).getD j 0 = st.getD j 0 + if j = i then fsum now xs else 0
  | [], st, _ => by simp [fsum]
  | x :: xs, st, h => by
    rw [List.foldl_cons, bfold_get now i j xs _ (by simpa [bstep] using h)]
    unfold bstep
    rw [getD_set _ _ _ _ h]
    by_cases e : j = i
    · subst e; simp [fsum]; omega
    · simp [e]
theorem bUp_get (B : Bay) (now : List Int) (j : Nat) : ∀ k, k ≤ now.length - 1 → 0 < now.length → (bUp B now k).getD j 0 = if j = now.length - 1 then 16 * now.getD (now.length - 1) 0 else if j < k then fsum now (flowsL B j) else 0
  | 0, _, h0 => by
    show ((List.replicate now.length 0).set (now.length - 1) (16 * now.getD (now.length - 1) 0)).getD j 0 = _
    rw [getD_set _ _ _ _ (by simp; omega)]
    by_cases e : j = now.length - 1
    · rw [if_pos e, if_pos e]
    · rw [if_neg e, if_neg e, if_neg (by omega)]
      rw [List.getD_eq_getElem?_getD, List.getElem?_replicate]; split <;> rfl
  | k + 1, hk, h0 => by
    rw [bUp_succ]; unfold brow
    rw [bfold_get now k j _ _ (by rw [bUp_len]; omega), bUp_get B now j k (by omega) h0]
    by_cases e : j = now.length - 1
    · rw [if_pos e, if_pos e, if_neg (by omega)]; omega
    · rw [if_neg e, if_neg e]
      by_cases h1 : j = k
      · subst h1; rw [if_neg (by omega), if_pos rfl, if_pos (by omega)]; omega
      · rw [if_neg h1]
        by_cases h2 : j < k
        · rw [if_pos h2, if_pos (by omega)]; omega
        · rw [if_neg h2, if_neg (by omega)]; omega
theorem fsum_bd {now : List Int} {M : Int} (hM : 0 ≤ M) (hb : ∀ j, 0 ≤ now.getD j 0 ∧ now.getD j 0 ≤ M) : ∀ (xs : List (Int × Int)), (∀ x ∈ xs, 0 ≤ x.2 ∧ x.2 ≤ 16) → 0 ≤ fsum now xs ∧ fsum now xs ≤ 16 * M * xs.length
  | [], _ => by simp [fsum]
  | x :: xs, h => by
    have h1 := fsum_bd hM hb xs (fun y hy => h y (by simp [hy]))
    have h2 := h x (by simp)
    have h3 := hb (tgt now x.1)
    have h4 : 0 ≤ x.2 * now.getD (tgt now x.1) 0 := Int.mul_nonneg h2.1 h3.1
    have h5 : x.2 * now.getD (tgt now x.1) 0 ≤ 16 * M := Int.le_trans (Int.mul_le_mul_of_nonneg_right h2.2 h3.1) (Int.mul_le_mul_of_nonneg_left h3.2 (by omega))
    have e : fsum now (x :: xs) = x.2 * now.getD (tgt now x.1) 0 + fsum now xs := by simp [fsum]
    rw [e, List.length_cons, Int.natCast_add, Int.mul_add]
    omega
theorem bOne_bd {B : Bay} {now : List Int} {M : Int} (hval : validP B) (hlen : now.length = B.Share.length + 1) (hM : 0 ≤ M) (hb : ∀ j, 0 ≤ now.getD j 0 ∧ now.getD j 0 ≤ M) : ∀ j, 0 ≤ (bOne B now).getD j 0 ∧ (bOne B now).getD j 0 ≤ 80 * M := by
  intro j
  unfold bOne
  rw [bUp_get B now j _ (Nat.le_refl _) (by omega)]
  have hl := hb (now.length - 1)
  split
  · omega
  · split
    · have h1 := fsum_bd hM hb (flowsL B j) (fun x hx => (flow_bd hval (by omega) x hx).2)
      have h2 := flowsL_len B j
      have h3 : 16 * M * (flowsL B j).length ≤ 16 * M * 5 := Int.mul_le_mul_of_nonneg_left (by omega) (by omega)
      omega
    · omega
theorem bN_bd {B : Bay} {l : List Int} (hval : validP B) (hlen : l.length = B.Share.length + 1) (hb : ∀ j, 0 ≤ l.getD j 0 ∧ l.getD j 0 ≤ 1000) : ∀ n j, 0 ≤ (bN B l n).getD j 0 ∧ (bN B l n).getD j 0 ≤ 1000 * 80 ^ n
  | 0, j => by simpa [bN] using hb j
  | n + 1, j => by
    have := bOne_bd (M := 1000 * 80 ^ n) hval (by rw [bN_len]; exact hlen) (Int.mul_nonneg (by omega) (Int.pow_nonneg (by omega))) (bN_bd hval hlen hb n) j
    show 0 ≤ (bOne B (bN B l n)).getD j 0 ∧ (bOne B (bN B l n)).getD j 0 ≤ _
    rw [Int.pow_succ]; omega
theorem pow80 {n : Nat} (h : n ≤ 5) : (1 : Int) ≤ 80 ^ n ∧ (80 : Int) ^ n ≤ 3276800000 := by
  have : n = 0 ∨ n = 1 ∨ n = 2 ∨ n = 3 ∨ n = 4 ∨ n = 5 := by omega
  rcases this with rfl | rfl | rfl | rfl | rfl | rfl <;> decide
end Go.Proofs.Ytnafllhgjidbkaa
