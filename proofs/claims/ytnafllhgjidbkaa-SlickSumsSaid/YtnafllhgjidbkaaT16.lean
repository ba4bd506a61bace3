import Derived.Test.YtnafllhgjidbkaaT15
namespace Go.Proofs.Ytnafllhgjidbkaa
set_option linter.unusedVariables false
set_option linter.unusedSimpArgs false

/-! ### The move as the reference gathers it, and that it is the same -/
/-- The five terms of a cell: from the cell x, y itself and its neighbours. -/
def gx (i : Nat) (B : Bay) : Int := (i : Int) % B.W
def gy (i : Nat) (B : Bay) : Int := (i : Int) / B.W
def term (B : Bay) (oil : List Int) (x y : Int) (k : Nat) : Int := (shV B (x - dxs.getD k 0) (y - dys.getD k 0) k).1 * oil.getD (shV B (x - dxs.getD k 0) (y - dys.getD k 0) k).2 0
def landPart (B : Bay) (oil : List Int) (i : Nat) : Int := if B.Land.getD i false = true then 16 * oil.getD i 0 else 0
def gath (B : Bay) (oil : List Int) (i : Nat) : Int :=
  landPart B oil i + term B oil (gx i B) (gy i B) 0 + term B oil (gx i B) (gy i B) 1 + term B oil (gx i B) (gy i B) 2 + term B oil (gx i B) (gy i B) 3 + term B oil (gx i B) (gy i B) 4

/-! sums -/
def sumR (n : Nat) (f : Nat → Int) : Int := ((List.range n).map f).sum
theorem sumR_zero (f : Nat → Int) : sumR 0 f = 0 := rfl
theorem sumR_succ (n : Nat) (f : Nat → Int) : sumR (n + 1) f = sumR n f + f n := by simp [sumR, List.range_succ]
theorem sumR_congr {n : Nat} {f g : Nat → Int} (h : ∀ i, i < n → f i = g i) : sumR n f = sumR n g := by
  induction n with
  | zero => rfl
  | succ n ih => rw [sumR_succ, sumR_succ, ih (fun i hi => h i (by omega)), h n (by omega)]
theorem sumR_add (n : Nat) (f g : Nat → Int) : sumR n (fun i => f i + g i) = sumR n f + sumR n g := by
  induction n with
  | zero => rfl
  | succ n ih => rw [sumR_succ, sumR_succ, sumR_succ, ih]; omega
theorem sumR_mul (n : Nat) (c : Int) (f : Nat → Int) : sumR n (fun i => c * f i) = c * sumR n f := by
  induction n with
  | zero => simp [sumR]
  | succ n ih => rw [sumR_succ, sumR_succ, ih, Int.mul_add]
theorem sumR_const_zero (n : Nat) : sumR n (fun _ => 0) = 0 := by
  induction n with
  | zero => rfl
  | succ n ih => rw [sumR_succ, ih]; rfl
theorem sumR_one {n j : Nat} (f : Nat → Int) (hj : j < n) (h : ∀ i, i < n → i ≠ j → f i = 0) : sumR n f = f j := by
  induction n with
  | zero => omega
  | succ n ih =>
    rw [sumR_succ]
    by_cases e : j = n
    · subst e
      have : sumR j f = sumR j (fun _ => 0) := sumR_congr (fun i hi => h i (by omega) (by omega))
      rw [this, sumR_const_zero]; omega
    · rw [ih (by omega) (fun i hi hne => h i (by omega) hne), h n (by omega) (by omega)]; omega
theorem sumR_swap (n m : Nat) (f : Nat → Nat → Int) : sumR n (fun i => sumR m (fun k => f i k)) = sumR m (fun k => sumR n (fun i => f i k)) := by
  induction n with
  | zero => simp only [sumR_zero]; rw [sumR_const_zero]
  | succ n ih =>
    rw [sumR_succ, ih, ← sumR_add]
    exact sumR_congr (fun k _ => by rw [sumR_succ])

/-- How much of a cell's oil goes to another one. -/
def cf (xs : List (Int × Int)) (j : Int) : Int := (xs.map (fun x => if x.1 = j then x.2 else 0)).sum
theorem stepF_get {oil : Int} {st : List Int × Int} {x : Int × Int} (hx : x.1 = -1 ∨ ∃ t : Nat, x.1 = t ∧ t < st.1.length) (j : Nat) (hj : j < st.1.length) :
    (stepF oil st x).1.getD j 0 = st.1.getD j 0 + oil * (if x.1 = j then x.2 else 0) := by
  unfold stepF
  rcases hx with hx | ⟨t, hx, ht⟩
  · rw [if_pos hx, if_neg (by omega)]; simp
  · rw [if_neg (by omega), hx]
    simp only [Int.toNat_natCast]
    by_cases e : t = j
    · subst e
      rw [List.getD_eq_getElem?_getD, List.getElem?_set, if_pos rfl, if_pos ht]; simp
    · rw [List.getD_eq_getElem?_getD, List.getElem?_set, if_neg e, ← List.getD_eq_getElem?_getD, if_neg (by omega)]; simp
theorem foldF_get {oil : Int} (j : Nat) : ∀ (xs : List (Int × Int)) {st : List Int × Int}, (∀ x ∈ xs, x.1 = -1 ∨ ∃ t : Nat, x.1 = t ∧ t < st.1.length) → j < st.1.length →
    (xs.foldl (stepF oil) st).1.getD j 0 = st.1.getD j 0 + oil * cf xs j
  | [], st, _, _ => by simp [cf]
  | x :: xs, st, h, hj => by
    rw [List.foldl_cons, foldF_get j xs (fun y hy => by rw [stepF_len]; exact h y (by simp [hy])) (by rw [stepF_len]; exact hj), stepF_get (h x (by simp)) j hj]
    simp only [cf, List.map_cons, List.sum_cons, Int.mul_add]; omega
theorem mvUp_get {B : Bay} {s : Slk} (hval : validP B) (hlen : s.Oil.length = B.Share.length) {j : Nat} (hj : j < s.Oil.length) : ∀ k, k ≤ s.Oil.length → (mvUp B s k).1.getD j 0 = sumR k (fun i => s.Oil.getD i 0 * cf (flowsL B i) j) := by
  intro k
  induction k with
  | zero =>
    intro _
    show (List.replicate s.Oil.length (0 : Int)).getD j 0 = 0
    rw [List.getD_eq_getElem?_getD, List.getElem?_replicate]; split <;> rfl
  | succ k ih =>
    intro hk
    rw [mvUp_succ, sumR_succ, ← ih (by omega)]
    unfold rowF
    exact foldF_get j _ (fun x hx => by rw [mvUp_len, hlen]; exact (flow_bd hval (by omega) x hx).1) (by rw [mvUp_len]; exact hj)

theorem cf_append (a b : List (Int × Int)) (j : Int) : cf (a ++ b) j = cf a j + cf b j := by simp [cf]
theorem cf_water {B : Bay} {i : Nat} (hok : (B.Share.getD i (0,0,0,0,0)).ok) (j : Int) : ∀ k, k ≤ 5 → cf (waterUp B i k) j = sumR k (fun q => if flowTo B i q = j then flowPart B i q else 0) := by
  intro k
  induction k with
  | zero => intro _; simp [waterUp, cf, sumR]
  | succ k ih =>
    intro hk
    rw [waterUp_succ, cf_append, ih (by omega), sumR_succ]
    have h0 : 0 ≤ flowPart B i k := ((ok_iff_at _).1 hok k (by omega)).1
    by_cases hp : 0 < flowPart B i k
    · rw [if_pos hp]; simp [cf]
    · rw [if_neg hp]
      have : flowPart B i k = 0 := by omega
      simp [cf, this]
theorem land_zero {B : Bay} {i : Nat} (hval : validP B) (hi : i < B.Share.length) (hl : B.Land.getD i false = true) : ∀ k, k < 5 → flowPart B i k = 0 := by
  have hr := hval.2.2.2.2 i hi
  rw [hl] at hr
  obtain ⟨⟨h0, h1, h2, h3, h4⟩, hs⟩ := hr
  simp only [Five.sum, if_true] at hs
  unfold inR at h0 h1 h2 h3 h4
  intro k hk
  unfold flowPart
  have h6 : k = 0 ∨ k = 1 ∨ k = 2 ∨ k = 3 ∨ k = 4 := by omega
  rcases h6 with rfl | rfl | rfl | rfl | rfl
  · show (B.Share.getD i (0,0,0,0,0)).1 = 0; omega
  · show (B.Share.getD i (0,0,0,0,0)).2.1 = 0; omega
  · show (B.Share.getD i (0,0,0,0,0)).2.2.1 = 0; omega
  · show (B.Share.getD i (0,0,0,0,0)).2.2.2.1 = 0; omega
  · show (B.Share.getD i (0,0,0,0,0)).2.2.2.2 = 0; omega
theorem cf_flows {B : Bay} {i : Nat} (hval : validP B) (hi : i < B.Share.length) (j : Int) :
    cf (flowsL B i) j = (if B.Land.getD i false = true then (if (i : Int) = j then 16 else 0) else 0) + sumR 5 (fun q => if flowTo B i q = j then flowPart B i q else 0) := by
  have hr := hval.2.2.2.2 i hi
  unfold flowsL
  by_cases hl : B.Land.getD i false = true
  · rw [if_pos hl, if_pos hl]
    have : sumR 5 (fun q => if flowTo B i q = j then flowPart B i q else 0) = 0 := by
      rw [← sumR_const_zero 5]
      exact sumR_congr (fun q hq => by rw [land_zero hval hi hl q hq]; split <;> rfl)
    rw [this]; simp [cf]
  · rw [if_neg hl, if_neg hl, cf_water hr.1 j 5 (by omega)]; omega

/-- Where a flow comes from. -/
theorem divmod {W x y i : Int} (hW : 0 < W) (hx : 0 ≤ x ∧ x < W) (h : i = y * W + x) : i % W = x ∧ i / W = y := by
  have := (Int.ediv_emod_unique hW (a := i) (r := x) (q := y)).2 ⟨by rw [h, Int.mul_comm]; omega, hx.1, hx.2⟩
  exact ⟨this.2, this.1⟩
theorem g_bd {B : Bay} {i : Nat} (hval : validP B) (hi : i < B.Share.length) : (0 ≤ gx i B ∧ gx i B < B.W) ∧ (0 ≤ gy i B ∧ gy i B < B.H) ∧ (i : Int) = gy i B * B.W + gx i B := by
  have hW := hval.1
  have hS := hval.2.2.2.1
  unfold gx gy
  have h1 := Int.emod_nonneg (i : Int) (show B.W ≠ 0 by omega)
  have h2 := Int.emod_lt_of_pos (i : Int) (show 0 < B.W by omega)
  have h3 : 0 ≤ (i : Int) / B.W := Int.ediv_nonneg (by omega) (by omega)
  have h4 := Int.emod_add_mul_ediv (i : Int) B.W
  have h5 : (i : Int) / B.W < B.H := Int.ediv_lt_of_lt_mul (by omega) (by rw [Int.mul_comm]; omega)
  exact ⟨⟨h1, h2⟩, ⟨h3, h5⟩, by rw [Int.mul_comm]; omega⟩
theorem inside_iff {B : Bay} {i k : Nat} : insideB B i k = true ↔ (0 ≤ gx i B + dxs.getD k 0 ∧ gx i B + dxs.getD k 0 ≤ B.W - 1) ∧ 0 ≤ gy i B + dys.getD k 0 ∧ gy i B + dys.getD k 0 ≤ B.H - 1 := by
  unfold insideB gx gy betwB
  simp only [Bool.and_eq_true, decide_eq_true_eq]
theorem from_iff {B : Bay} {i j k : Nat} (hval : validP B) (hi : i < B.Share.length) (hj : j < B.Share.length) (hk : k < 5) :
    flowTo B i k = j ↔ inBay B (gx j B - dxs.getD k 0) (gy j B - dys.getD k 0) ∧ (i : Int) = (gy j B - dys.getD k 0) * B.W + (gx j B - dxs.getD k 0) := by
  have hW := hval.1
  obtain ⟨⟨a1, a2⟩, ⟨a3, a4⟩, a5⟩ := g_bd hval hi
  obtain ⟨⟨b1, b2⟩, ⟨b3, b4⟩, b5⟩ := g_bd hval hj
  constructor
  · intro h
    unfold flowTo at h
    split at h
    · rename_i hins
      obtain ⟨⟨c1, c2⟩, c3, c4⟩ := inside_iff.1 hins
      have h2 : (j : Int) = (gy i B + dys.getD k 0) * B.W + (gx i B + dxs.getD k 0) := by rw [Int.add_mul]; omega
      obtain ⟨d1, d2⟩ := divmod (by omega) ⟨c1, by omega⟩ h2
      have e1 : gx j B = gx i B + dxs.getD k 0 := d1
      have e2 : gy j B = gy i B + dys.getD k 0 := d2
      have f1 : gx j B - dxs.getD k 0 = gx i B := by omega
      have f2 : gy j B - dys.getD k 0 = gy i B := by omega
      rw [f1, f2]
      exact ⟨⟨⟨a1, a2⟩, a3, a4⟩, a5⟩
    · omega
  · rintro ⟨⟨⟨c1, c2⟩, c3, c4⟩, h⟩
    obtain ⟨d1, d2⟩ := divmod (by omega) ⟨c1, c2⟩ h
    have e1 : gx i B = gx j B - dxs.getD k 0 := d1
    have e2 : gy i B = gy j B - dys.getD k 0 := d2
    have hins : insideB B i k = true := inside_iff.2 ⟨⟨by omega, by omega⟩, by omega, by omega⟩
    unfold flowTo
    rw [if_pos hins, h, Int.sub_mul]; omega

theorem gath_eq {B : Bay} {s : Slk} (hval : validP B) (hlen : s.Oil.length = B.Share.length) {j : Nat} (hj : j < s.Oil.length) : (mv B s).Oil.getD j 0 = gath B s.Oil j := by
  have h1 : (mv B s).Oil.getD j 0 = sumR s.Oil.length (fun i => s.Oil.getD i 0 * cf (flowsL B i) j) := mvUp_get hval hlen hj _ (Nat.le_refl _)
  rw [h1]
  have h2 : sumR s.Oil.length (fun i => s.Oil.getD i 0 * cf (flowsL B i) j) =
      sumR s.Oil.length (fun i => s.Oil.getD i 0 * (if B.Land.getD i false = true then (if (i : Int) = j then 16 else 0) else 0)) + sumR s.Oil.length (fun i => sumR 5 (fun q => s.Oil.getD i 0 * (if flowTo B i q = j then flowPart B i q else 0))) := by
    rw [← sumR_add]
    refine sumR_congr (fun i hi => ?_)
    rw [cf_flows hval (by omega), Int.mul_add, sumR_mul]
  have h3 : sumR s.Oil.length (fun i => s.Oil.getD i 0 * (if B.Land.getD i false = true then (if (i : Int) = j then 16 else 0) else 0)) = landPart B s.Oil j := by
    rw [sumR_one _ hj (fun i hi hne => by
      split
      · rw [if_neg (by omega)]; simp
      · simp)]
    unfold landPart
    split
    · simp; omega
    · simp
  have h4 : ∀ k, k < 5 → sumR s.Oil.length (fun i => s.Oil.getD i 0 * (if flowTo B i k = j then flowPart B i k else 0)) = term B s.Oil (gx j B) (gy j B) k := by
    intro k hk
    unfold term shV
    by_cases hin : inBay B (gx j B - dxs.getD k 0) (gy j B - dys.getD k 0)
    · rw [if_pos hin]
      obtain ⟨_, _, hlt, hc⟩ := cell_in hval hin
      rw [sumR_one (j := ((gy j B - dys.getD k 0) * B.W + (gx j B - dxs.getD k 0)).toNat) _ (by omega) (fun i hi hne => by
        rw [if_neg (fun h => hne (by have := ((from_iff hval (by omega) (by omega) hk).1 h).2; omega))]; simp)]
      rw [if_pos ((from_iff hval hlt (by omega) hk).2 ⟨hin, hc⟩)]
      exact Int.mul_comm _ _
    · rw [if_neg hin]
      have : sumR s.Oil.length (fun i => s.Oil.getD i 0 * (if flowTo B i k = j then flowPart B i k else 0)) = sumR s.Oil.length (fun _ => 0) :=
        sumR_congr (fun i hi => by rw [if_neg (fun h => hin ((from_iff hval (by omega) (by omega) hk).1 h).1)]; simp)
      rw [this, sumR_const_zero]; simp
  rw [h2, h3, sumR_swap]
  unfold gath
  simp only [sumR_succ, sumR_zero, h4 0 (by omega), h4 1 (by omega), h4 2 (by omega), h4 3 (by omega), h4 4 (by omega)]
  omega
end Go.Proofs.Ytnafllhgjidbkaa
