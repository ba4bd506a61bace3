import Derived.Test.YtnafllhgjidbkaaT16
import Derived.Test.YtnafllhgjidbkaaT22
namespace Go.Proofs.Ytnafllhgjidbkaa
set_option linter.unusedVariables false
set_option linter.unusedSimpArgs false

/-! ### What moves do to all that there is, to what is away and to what is on land -/
theorem mvN_add (B : Bay) (s : Slk) (i : Nat) : ∀ k, mvN B (mvN B s i) k = mvN B s (i + k)
  | 0 => rfl
  | k + 1 => by show mv B (mvN B (mvN B s i) k) = mv B (mvN B s (i + k)); rw [mvN_add B s i k]
theorem aft_ok {B : Bay} {s : Slk} {n : Nat} (hval : validP B) (hfit : fitsP B s) (hn : s.K + n ≤ 5) : aftE B s n = 0 ∧ aftS B s n = mvN B s n := by
  have h : okE B s = 0 := by unfold okE; rw [if_pos (validB_true hval), if_pos (fitsB_true hfit)]
  have h0 := hfit.1.1
  have hE : aftE B s n = 0 := by unfold aftE; rw [if_neg (by rw [h]; decide), if_neg (by omega), if_neg (by omega)]
  refine ⟨hE, ?_⟩
  unfold aftS; rw [if_pos hE, Int.toNat_natCast]
theorem okE_ok {B : Bay} {s : Slk} (hval : validP B) (hfit : fitsP B s) : okE B s = 0 := by unfold okE; rw [if_pos (validB_true hval), if_pos (fitsB_true hfit)]
theorem fits_pre {B : Bay} {s : Slk} (hval : validP B) (hfit : fitsP B s) : s.Oil.length = B.Share.length := by
  have h1 := hval.2.2.2.1
  have h2 := hfit.2.1
  omega
theorem mvN_tot {B : Bay} {s : Slk} (hval : validP B) (hfit : fitsP B s) : ∀ n, (mvN B s n).Away + (mvN B s n).Oil.sum = (s.Away + s.Oil.sum) * 16 ^ n
  | 0 => by simp [mvN]
  | n + 1 => by
    have ih := mvN_tot hval hfit n
    have h1 := mv_tot (s := mvN B s n) hval (by rw [mvN_len]; exact fits_pre hval hfit)
    show (mv B (mvN B s n)).Away + (mv B (mvN B s n)).Oil.sum = _
    rw [Int.pow_succ, ← Int.mul_assoc, ← ih]; omega
theorem stepF_away {oil : Int} {st : List Int × Int} {x : Int × Int} (h0 : 0 ≤ oil) (hx : 0 ≤ x.2) : st.2 ≤ (stepF oil st x).2 := by
  unfold stepF
  have := Int.mul_nonneg h0 hx
  split
  · show st.2 ≤ st.2 + oil * x.2; omega
  · exact Int.le_refl _
theorem foldF_away {oil : Int} (h0 : 0 ≤ oil) : ∀ (xs : List (Int × Int)) (st : List Int × Int), (∀ x ∈ xs, 0 ≤ x.2) → st.2 ≤ (xs.foldl (stepF oil) st).2
  | [], st, _ => Int.le_refl _
  | x :: xs, st, h => Int.le_trans (stepF_away h0 (h x (by simp))) (foldF_away h0 xs _ (fun y hy => h y (by simp [hy])))
theorem mvUp_away {B : Bay} {s : Slk} (hval : validP B) (hlen : s.Oil.length = B.Share.length) (hO : ∀ k, k < s.Oil.length → 0 ≤ s.Oil.getD k 0) : ∀ k, k ≤ s.Oil.length → 16 * s.Away ≤ (mvUp B s k).2
  | 0, _ => Int.le_refl _
  | k + 1, h => by
    rw [mvUp_succ]
    exact Int.le_trans (mvUp_away hval hlen hO k (by omega)) (foldF_away (hO k (by omega)) _ _ (fun x hx => (flow_bd hval (by omega) x hx).2.1))
theorem mvN_away {B : Bay} {s : Slk} (hval : validP B) (hfit : fitsP B s) : ∀ n : Nat, s.K + n ≤ 5 → s.Away * 16 ^ n ≤ (mvN B s n).Away
  | 0, _ => by simp [mvN]
  | n + 1, h => by
    have ih := mvN_away hval hfit n (by omega)
    have hf := mvN_fits hval hfit n (by omega)
    have h1 := mvUp_away (s := mvN B s n) hval (fits_pre hval hf) (fun k hk => ((fits_bd hval hf).2.2.1 k hk).1) _ (Nat.le_refl _)
    show _ ≤ (mvUp B (mvN B s n) (mvN B s n).Oil.length).2
    rw [Int.pow_succ, ← Int.mul_assoc]; omega
theorem term_nonneg {B : Bay} {oil : List Int} (hval : validP B) (hlen : oil.length = B.Share.length) (hO : ∀ k, k < oil.length → 0 ≤ oil.getD k 0) (x y : Int) {k : Nat} (hk : k < 5) : 0 ≤ term B oil x y k := by
  have hp := mul36 hval.1.1 hval.1.2 hval.2.1.1 hval.2.1.2
  have hS := hval.2.2.2.1
  unfold term shV
  by_cases h : inBay B (x - dxs.getD k 0) (y - dys.getD k 0)
  · rw [if_pos h]
    obtain ⟨_, _, hlt, _⟩ := cell_in hval h
    exact Int.mul_nonneg ((ok_iff_at _).1 (hval.2.2.2.2 _ hlt).1 k hk).1 (hO _ (by omega))
  · rw [if_neg h]; simp
theorem mv_land {B : Bay} {s : Slk} (hval : validP B) (hlen : s.Oil.length = B.Share.length) (hO : ∀ k, k < s.Oil.length → 0 ≤ s.Oil.getD k 0) {j : Nat} (hj : j < s.Oil.length) (hl : B.Land.getD j false = true) : 16 * s.Oil.getD j 0 ≤ (mv B s).Oil.getD j 0 := by
  rw [gath_eq hval hlen hj]
  unfold gath
  have t := fun k hk => term_nonneg (oil := s.Oil) hval hlen hO (gx j B) (gy j B) (k := k) hk
  have t0 := t 0 (by omega)
  have t1 := t 1 (by omega)
  have t2 := t 2 (by omega)
  have t3 := t 3 (by omega)
  have t4 := t 4 (by omega)
  have : landPart B s.Oil j = 16 * s.Oil.getD j 0 := by unfold landPart; rw [if_pos hl]
  omega
theorem mvN_land {B : Bay} {s : Slk} (hval : validP B) (hfit : fitsP B s) {j : Nat} (hj : j < s.Oil.length) (hl : B.Land.getD j false = true) : ∀ n : Nat, s.K + n ≤ 5 → s.Oil.getD j 0 * 16 ^ n ≤ (mvN B s n).Oil.getD j 0
  | 0, _ => by simp [mvN]
  | n + 1, h => by
    have ih := mvN_land hval hfit hj hl n (by omega)
    have hf := mvN_fits hval hfit n (by omega)
    have h1 := mv_land (s := mvN B s n) hval (fits_pre hval hf) (fun k hk => ((fits_bd hval hf).2.2.1 k hk).1) (j := j) (by rw [mvN_len]; exact hj) hl
    show _ ≤ (mv B (mvN B s n)).Oil.getD j 0
    rw [Int.pow_succ, ← Int.mul_assoc]; omega
theorem lands_le {B : Bay} {s : Slk} (hval : validP B) (hfit : fitsP B s) {n : Nat} (hn : s.K + n ≤ 5) {j : Nat} (hj : j < s.Oil.length) :
    (landsL B s.Oil true).getD j 0 * 16 ^ n ≤ (landsL B (mvN B s n).Oil true).getD j 0 := by
  rw [lands_get B _ true hj, lands_get B _ true (by rw [mvN_len]; exact hj)]
  by_cases hl : B.Land.getD j false = true
  · rw [if_pos hl, if_pos hl]; exact mvN_land hval hfit hj hl n hn
  · rw [if_neg hl, if_neg hl]; simp
end Go.Proofs.Ytnafllhgjidbkaa
