import Derived.Test.YtnafllhgjidbkaaT8
import Derived.Test.YtnafllhgjidbkaaT13
namespace Go.Proofs.Ytnafllhgjidbkaa
open Go.RowKit
set_option linter.unusedVariables false
set_option linter.unusedSimpArgs false

/-! ### Nothing is lost behind a move -/
def totS (st : List Int × Int) : Int := st.1.sum + st.2
theorem sum_set : ∀ (l : List Int) (t : Nat) (v : Int), t < l.length → (l.set t v).sum = l.sum + v - l.getD t 0
  | [], t, v, h => by simp at h
  | x :: l, 0, v, h => by simp; omega
  | x :: l, t + 1, v, h => by
    have := sum_set l t v (by simpa using h)
    simp only [List.set_cons_succ, List.sum_cons, List.getD_cons_succ, this]; omega
theorem totS_step {oil : Int} {st : List Int × Int} {x : Int × Int} (hx : x.1 = -1 ∨ ∃ t : Nat, x.1 = t ∧ t < st.1.length) : totS (stepF oil st x) = totS st + oil * x.2 := by
  unfold stepF totS
  split
  · simp only; omega
  · rename_i h
    rcases hx with hx | ⟨t, hx, ht⟩
    · exact absurd hx h
    · simp only [hx, Int.toNat_natCast]
      rw [sum_set _ _ _ ht]; omega
def partSum (xs : List (Int × Int)) : Int := (xs.map (·.2)).sum
theorem totS_fold {oil : Int} : ∀ (xs : List (Int × Int)) {st : List Int × Int}, (∀ x ∈ xs, x.1 = -1 ∨ ∃ t : Nat, x.1 = t ∧ t < st.1.length) → totS (xs.foldl (stepF oil) st) = totS st + oil * partSum xs
  | [], st, _ => by simp [partSum]
  | x :: xs, st, h => by
    rw [List.foldl_cons, totS_fold xs (fun y hy => by rw [stepF_len]; exact h y (by simp [hy])), totS_step (h x (by simp))]
    simp only [partSum, List.map_cons, List.sum_cons, Int.mul_add]; omega
theorem partSum_append (a b : List (Int × Int)) : partSum (a ++ b) = partSum a + partSum b := by simp [partSum]
theorem partSum_water {B : Bay} {i : Nat} (hok : (B.Share.getD i (0,0,0,0,0)).ok) : ∀ k, k ≤ 5 → partSum (waterUp B i k) = upSum (B.Share.getD i (0,0,0,0,0)) k := by
  intro k
  induction k with
  | zero => intro _; simp [waterUp, partSum, upSum]
  | succ k ih =>
    intro hk
    rw [waterUp_succ, partSum_append, ih (by omega), upSum_succ _ (by omega)]
    have h0 := ((ok_iff_at _).1 hok k (by omega)).1
    have e : flowPart B i k = (B.Share.getD i (0,0,0,0,0)).at k := rfl
    split
    · simp [partSum, e]
    · simp only [partSum, List.map_nil, List.sum_nil]; omega
theorem partSum_flows {B : Bay} {i : Nat} (hval : validP B) (hi : i < B.Share.length) : partSum (flowsL B i) = 16 := by
  have hr := hval.2.2.2.2 i hi
  unfold flowsL
  split
  · simp [partSum]
  · rename_i hl
    rw [partSum_water hr.1 5 (by omega), upSum_5, hr.2, if_neg hl]
theorem mvUp_tot {B : Bay} {s : Slk} (hval : validP B) (hlen : s.Oil.length = B.Share.length) : ∀ k, k ≤ s.Oil.length → totS (mvUp B s k) = 16 * ((s.Oil.take k).sum + s.Away) := by
  intro k
  induction k with
  | zero =>
    intro _
    have : (List.replicate s.Oil.length (0 : Int)).sum = 0 := by simp
    show (List.replicate s.Oil.length (0 : Int)).sum + 16 * s.Away = _
    rw [this]; simp
  | succ k ih =>
    intro hk
    rw [mvUp_succ]; unfold rowF
    rw [totS_fold _ (fun x hx => by rw [mvUp_len, hlen]; exact (flow_bd hval (by omega) x hx).1), ih (by omega), partSum_flows hval (by omega), take_sum_succ (by omega)]
    omega
theorem mem_le_sum {l : List Int} (h : ∀ k, k < l.length → 0 ≤ l.getD k 0) : ∀ k, k < l.length → l.getD k 0 ≤ l.sum := by
  induction l with
  | nil => intro k hk; simp at hk
  | cons x l ih =>
    intro k hk
    have hx : 0 ≤ x := by simpa using h 0 (by simp)
    have hl : ∀ k, k < l.length → 0 ≤ l.getD k 0 := fun k hk => by simpa using h (k + 1) (by simpa using hk)
    have hs : 0 ≤ l.sum := by
      clear ih hk k
      induction l with
      | nil => simp
      | cons y l ih =>
        have := ih (fun k hk => by
          cases k with
          | zero => simpa using h 0 (by simp)
          | succ k => simpa using h (k + 2) (by simpa using hk)) (fun k hk => by simpa using hl (k + 1) (by simpa using hk))
        have := hl 0 (by simp)
        simp only [List.sum_cons]; simp at this; omega
    cases k with
    | zero => simp; omega
    | succ k =>
      have := ih hl k (by simpa using hk)
      simp only [List.getD_cons_succ, List.sum_cons]; omega
theorem lim_succ {K : Int} (h : 0 ≤ K) : lim (K + 1) = 16 * lim K := by
  unfold lim
  rw [show (K + 1).toNat = K.toNat + 1 from by omega, Int.pow_succ]; omega
theorem lim_mono {K : Int} (h0 : 0 ≤ K) (h4 : K ≤ 4) : lim K ≤ 2359296000 := by
  have : K = 0 ∨ K = 1 ∨ K = 2 ∨ K = 3 ∨ K = 4 := by omega
  rcases this with rfl | rfl | rfl | rfl | rfl <;> decide
theorem len_share {B : Bay} {s : Slk} (hval : validP B) (h : fitsP B s) : s.Oil.length = B.Share.length := by
  have := h.2.1; have := hval.2.2.2.1; omega
theorem mv_len (B : Bay) (s : Slk) : (mv B s).Oil.length = s.Oil.length := mvUp_len B s _
theorem mv_tot {B : Bay} {s : Slk} (hval : validP B) (hlen : s.Oil.length = B.Share.length) : (mv B s).Oil.sum + (mv B s).Away = 16 * (s.Oil.sum + s.Away) := by
  have := mvUp_tot hval hlen s.Oil.length (Nat.le_refl _)
  rw [List.take_length] at this; exact this
theorem mv_fits {B : Bay} {s : Slk} (hval : validP B) (h : fitsP B s) (h4 : s.K ≤ 4) : fitsP B (mv B s) := by
  have hlen := len_share hval h
  have hb := mvUp_bd (M := 2359296000) (by omega) hval hlen (fun k hk => by have := amt_range h.2.2.1 k hk; have := lim_mono h.1.1 h4; omega)
    (by have := h.2.2.2; have := sum_bd s.Oil (amt_range h.2.2.1); have := lim_mono h.1.1 h4; omega) s.Oil.length (Nat.le_refl _)
  have ht := mv_tot hval hlen
  have hl := lim_succ h.1.1
  have h16 := h.2.2.2
  have hsum : 0 ≤ (mv B s).Away := hb.2.1
  have hnn : ∀ k, k < (mv B s).Oil.length → 0 ≤ (mv B s).Oil.getD k 0 := fun k _ => (hb.1 k).1
  have hml := mem_le_sum hnn
  have hK : (mv B s).K = s.K + 1 := rfl
  refine ⟨by rw [hK]; have := h.1; omega, by rw [mv_len]; exact h.2.1, ?_, hsum, ?_⟩
  · rw [amtB_iff]; intro k hk
    have h1 := hnn k hk
    have h2 := hml k hk
    rw [okB_iff, hK, hl]; omega
  · rw [hK, hl]; omega

def mvN (B : Bay) (s : Slk) : Nat → Slk
  | 0 => s
  | n + 1 => mv B (mvN B s n)
theorem mvN_K (B : Bay) (s : Slk) (n : Nat) : (mvN B s n).K = s.K + n := by
  induction n with
  | zero => simp [mvN]
  | succ n ih => show (mvN B s n).K + 1 = _; rw [ih]; omega
theorem mvN_len (B : Bay) (s : Slk) (n : Nat) : (mvN B s n).Oil.length = s.Oil.length := by
  induction n with
  | zero => rfl
  | succ n ih => show (mv B (mvN B s n)).Oil.length = _; rw [mv_len, ih]
theorem mvN_fits {B : Bay} {s : Slk} (hval : validP B) (h : fitsP B s) : ∀ n : Nat, s.K + n ≤ 5 → fitsP B (mvN B s n) := by
  intro n
  induction n with
  | zero => intro _; exact h
  | succ n ih => intro hn; exact mv_fits hval (ih (by omega)) (by rw [mvN_K]; omega)
/-- What a move asks. -/
theorem move_pre {B : Bay} {s : Slk} (hval : validP B) (h : fitsP B s) (h4 : s.K ≤ 4) : s.Oil.length = B.Share.length ∧ (0 ≤ s.K ∧ s.K ≤ 4) ∧ (∀ k, k < s.Oil.length → 0 ≤ s.Oil.getD k 0 ∧ s.Oil.getD k 0 ≤ 2359296000) ∧ (0 ≤ s.Away ∧ s.Away ≤ 2359296000) := by
  have h1 := lim_mono h.1.1 h4
  have h2 := sum_bd s.Oil (amt_range h.2.2.1)
  have h3 := h.2.2.2
  exact ⟨len_share hval h, ⟨h.1.1, h4⟩, fun k hk => by have := amt_range h.2.2.1 k hk; omega, by omega⟩
end Go.Proofs.Ytnafllhgjidbkaa
