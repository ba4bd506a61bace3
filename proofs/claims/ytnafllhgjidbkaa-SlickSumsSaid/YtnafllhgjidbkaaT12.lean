import Derived.Test.YtnafllhgjidbkaaT11
namespace Go.Proofs.Ytnafllhgjidbkaa
open Go.RowKit
set_option linter.unusedVariables false
set_option linter.unusedSimpArgs false

theorem amt_range {l : List Int} {M : Int} (h : amtB l M = true) : ∀ k, k < l.length → 0 ≤ l.getD k 0 ∧ l.getD k 0 ≤ M := fun k hk => okB_iff.1 (amtB_iff.1 h k hk)
theorem lim_nonneg (K : Int) : 0 ≤ lim K := Int.mul_nonneg (by omega) (Int.pow_nonneg (by omega))
theorem fits_tot {B : Bay} {s : Slk} (hlen : (s.Oil.length : Int) = B.W * B.H) : fitsP B s ↔ totP s := by
  constructor
  · rintro ⟨h1, _, h3, h4, h5⟩
    have := sum_bd s.Oil (amt_range h3)
    exact ⟨h1, ⟨h4, by omega⟩, h3, by omega⟩
  · rintro ⟨h1, ⟨h2, _⟩, h3, h4⟩
    exact ⟨h1, hlen, h3, h2, by omega⟩
theorem totZ_nonneg {s : Slk} : 0 ≤ totZ s ↔ totP s := by
  constructor
  · intro h
    refine Classical.byContradiction fun hn => ?_
    rw [totZ_no hn] at h; omega
  · intro h
    rw [totZ_yes h]
    have := sum_bd s.Oil (amt_range h.2.2.1)
    have := h.2.1.1
    omega

theorem is_any (v sv : Value) (B : Bay) (s : Slk) (w : World) (hv : BayAt w v B) (hs : SlkAt w sv s) (hval : validP B) :
    Calls Try.prog 27 #[v, sv] w fun e w' => e = .returned (.bool (fitsB B s)) ∧ Below w.heap.size w w' := by
  obtain ⟨la, lc, sa, sc, rfl, hl, hsh, hll, hsl⟩ := hv
  have hs0 := hs
  obtain ⟨ao, c, rfl, hi, hn⟩ := hs
  obtain ⟨hp1, hp2⟩ := mul36 hval.1.1 hval.1.2 hval.2.1.1 hval.2.1.2
  have hbx : ∀ o1 o2, Below w.heap.size w ((w.alloc o1).alloc o2) := fun o1 o2 => ((Below.refl _ _).alloc (Nat.le_refl _) _).alloc (by simp) _
  by_cases hlen : (s.Oil.length : Int) = B.W * B.H
  · have hb : ((s.Oil.length : Int) == B.W * B.H) = true := by simp [hlen]
    have HC := Lib.hid (fun W hW => total_any _ s W (hs0.below (Nat.le_refl _) hW) (by omega))
    have HF : Hid (fitsB B s = decide (0 ≤ totZ s)) := by
      unfold Hid fitsB
      by_cases h : totP s
      · simp [(fits_tot hlen).2 h, totZ_nonneg.2 h]
      · simp [mt (fits_tot hlen).1 h, mt totZ_nonneg.1 h]
    clear hl hsh hs0 hi hlen hval
    go_enter Try.func27, Try.ntmps27
    go_wp2_with (first | (go_at_call 68; refine (HC.out _ (hbx _ _)).mono ?_; rintro e w1 ⟨rfl, hb1⟩))
    go_ret
    exact ⟨ret_bool (by rw [HF.out]), (hbx _ _).trans (hb1.mono (by simp <;> omega))⟩
  · have hb : ((s.Oil.length : Int) == B.W * B.H) = false := by simp [hlen]
    have hf := Lib.hid (fitsB_false (B := B) (s := s) (fun h => hlen h.2.1))
    clear hl hsh hs0 hi hlen hval
    go_enter Try.func27, Try.ntmps27
    go_wp2
    go_ret
    exact ⟨ret_bool hf.out.symm, hbx _ _⟩
end Go.Proofs.Ytnafllhgjidbkaa
