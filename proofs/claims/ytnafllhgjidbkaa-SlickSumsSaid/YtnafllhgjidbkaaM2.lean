import Derived.Test.YtnafllhgjidbkaaM1
namespace Go.Proofs.Ytnafllhgjidbkaa
set_option linter.unusedVariables false
set_option linter.unusedSimpArgs false

/-! ### The moves of a sum -/
def addL (l m : List Int) : List Int := List.zipWith (· + ·) l m
def addS (s t : Slk) : Slk := ⟨s.K, addL s.Oil t.Oil, s.Away + t.Away⟩
theorem addL_len {l m : List Int} (h : l.length = m.length) : (addL l m).length = l.length := by simp [addL, h]
theorem addL_get {l m : List Int} (h : l.length = m.length) (j : Nat) : (addL l m).getD j 0 = l.getD j 0 + m.getD j 0 := by
  unfold addL
  by_cases hj : j < l.length
  · have hj' : j < m.length := by omega
    simp [List.getD_eq_getElem?_getD, List.getElem?_zipWith, List.getElem?_eq_getElem hj, List.getElem?_eq_getElem hj']
  · have hj' : ¬ j < m.length := by omega
    have e1 : l[j]? = none := List.getElem?_eq_none (by omega)
    have e2 : m[j]? = none := List.getElem?_eq_none (by omega)
    simp [List.getD_eq_getElem?_getD, List.getElem?_zipWith, e1, e2]
theorem addL_sum : ∀ {l m : List Int}, l.length = m.length → (addL l m).sum = l.sum + m.sum
  | [], [], _ => rfl
  | a :: l, b :: m, h => by
    have := addL_sum (l := l) (m := m) (by simpa using h)
    unfold addL at this ⊢
    simp only [List.zipWith_cons_cons, List.sum_cons]
    omega
theorem list_ext_getD {l m : List Int} (h : l.length = m.length) (hg : ∀ j, j < l.length → l.getD j 0 = m.getD j 0) : l = m := by
  apply List.ext_getElem h
  intro i h1 h2
  have := hg i h1
  simpa [List.getD_eq_getElem?_getD, List.getElem?_eq_getElem h1, List.getElem?_eq_getElem h2] using this
theorem term_add (B : Bay) {l m : List Int} (h : l.length = m.length) (x y : Int) (k : Nat) : term B (addL l m) x y k = term B l x y k + term B m x y k := by
  unfold term; rw [addL_get h, Int.mul_add]
theorem gath_add (B : Bay) {l m : List Int} (h : l.length = m.length) (j : Nat) : gath B (addL l m) j = gath B l j + gath B m j := by
  unfold gath
  simp only [term_add B h]
  have : landPart B (addL l m) j = landPart B l j + landPart B m j := by
    unfold landPart
    rw [addL_get h]
    split <;> omega
  omega
theorem slk_ext {s t : Slk} (h1 : s.K = t.K) (h2 : s.Oil = t.Oil) (h3 : s.Away = t.Away) : s = t := by
  cases s; cases t; simp at h1 h2 h3; simp [h1, h2, h3]
theorem mv_addS {B : Bay} {s t : Slk} (hval : validP B) (hs : s.Oil.length = B.Share.length) (ht : t.Oil.length = B.Share.length) : mv B (addS s t) = addS (mv B s) (mv B t) := by
  have hl : s.Oil.length = t.Oil.length := by omega
  have hal : (addS s t).Oil.length = B.Share.length := by show (addL s.Oil t.Oil).length = _; rw [addL_len hl, hs]
  have hO : (mv B (addS s t)).Oil = (addS (mv B s) (mv B t)).Oil := by
    show _ = addL (mv B s).Oil (mv B t).Oil
    have hml : (mv B s).Oil.length = (mv B t).Oil.length := by rw [mv_len, mv_len, hl]
    refine list_ext_getD (by rw [mv_len, addL_len hml, mv_len, hal, hs]) (fun j hj => ?_)
    rw [mv_len] at hj
    rw [gath_eq hval hal hj, addL_get hml, gath_eq hval hs (by omega), gath_eq hval ht (by omega)]
    exact gath_add B hl j
  refine slk_ext rfl hO ?_
  have h1 := mv_tot (s := addS s t) hval hal
  have h2 := mv_tot (s := s) hval hs
  have h3 := mv_tot (s := t) hval ht
  rw [hO] at h1
  have h4 : (addS (mv B s) (mv B t)).Oil.sum = (mv B s).Oil.sum + (mv B t).Oil.sum := addL_sum (by rw [mv_len, mv_len, hl])
  have h5 : (addS s t).Oil.sum = s.Oil.sum + t.Oil.sum := addL_sum hl
  have h6 : (addS s t).Away = s.Away + t.Away := rfl
  rw [h4, h5, h6] at h1
  show _ = (mv B s).Away + (mv B t).Away
  omega
theorem mvN_addS {B : Bay} {s t : Slk} (hval : validP B) (hs : s.Oil.length = B.Share.length) (ht : t.Oil.length = B.Share.length) : ∀ n, mvN B (addS s t) n = addS (mvN B s n) (mvN B t n)
  | 0 => rfl
  | n + 1 => by
    show mv B (mvN B (addS s t) n) = addS (mv B (mvN B s n)) (mv B (mvN B t n))
    rw [mvN_addS hval hs ht n, mv_addS hval (by rw [mvN_len]; exact hs) (by rw [mvN_len]; exact ht)]
end Go.Proofs.Ytnafllhgjidbkaa
