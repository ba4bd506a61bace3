import Derived.Test.YtnafllhgjidbkaaT19
import Derived.Test.YtnafllhgjidbkaaT13
namespace Go.Proofs.Ytnafllhgjidbkaa
open Go.RowKit
set_option linter.unusedVariables false
set_option linter.unusedSimpArgs false

theorem asked_one (v : Value) (B : Bay) (s : Slk) (ao : Option Addr) (c b : Nat) (w W : World) (hv : BayAt w v B) (hi : IntsAt w ao s.Oil) (hn : s.Oil.length < 1152921504606846976) (hW : Below w.heap.size w W) (hb : W.heap.size = b) :
    Calls Try.prog 59 #[v, .slice (some ⟨b, 0, none⟩) 1 1] (W.alloc (.cells #[.int .i64 s.K, .slice ao s.Oil.length c, .int .i64 s.Away] 28)) fun e w' => e = .returned (.int .i64 (okE B s)) ∧ Below (W.alloc (.cells #[.int .i64 s.K, .slice ao s.Oil.length c, .int .i64 s.Away] 28)).heap.size (W.alloc (.cells #[.int .i64 s.K, .slice ao s.Oil.length c, .int .i64 s.Away] 28)) w' := by
  have hsl := slks_one (w := W) (ao := ao) (c := c) (s := s) (hi.below (Nat.le_refl _) hW) hn
  rw [hb] at hsl
  have h := asked_any v B (some ⟨b, 0, none⟩) 1 [s] _ hsl (hv.below (Nat.le_refl _) (hW.alloc hW.size _)) (by simp)
  rw [askE_one] at h
  exact h

theorem okE_bd (B : Bay) (s : Slk) : okE B s = 0 ∨ okE B s = 20 ∨ okE B s = 21 := by
  rcases okE_cases B s with h | h | h
  · exact .inl h.1
  · exact .inr (.inl h)
  · exact .inr (.inr h)
noncomputable def fitE (B : Bay) (s : Slk) : Int := if okE B s = 20 then 20 else 0

set_option maxHeartbeats 1000000 in
theorem Fits_any (v sv : Value) (B : Bay) (s : Slk) (w : World) (hv : BayAt w v B) (hs : SlkAt w sv s) :
    Calls Try.prog 33 #[v, sv] w fun e w' => e = .returned (.tuple #[.bool (decide (okE B s = 0)), .int .i64 (fitE B s)]) ∧ Below w.heap.size w w' := by
  have hv0 := hv
  obtain ⟨la, lc, sa, sc, rfl, hl, hsh, hll, hsl⟩ := hv
  obtain ⟨ao, c, rfl, hi, hn⟩ := hs
  have HV := Lib.hid hv0
  have HI := Lib.hid hi
  clear hv0 hl hsh hi
  have HF : Hid (fitE B s = if okE B s = 20 then 20 else 0) := rfl
  generalize fitE B s = F at *
  obtain ⟨E, hE⟩ : ∃ E, E = okE B s := ⟨_, rfl⟩
  have hbd := okE_bd B s
  rw [← hE] at hbd HF ⊢
  have HE := Lib.hid hE
  clear hE
  go_enter Try.func33, Try.ntmps33
  go_wp2_with fail
  refine (asked_one _ B s _ _ _ w _ HV.out HI.out hn (((Below.refl _ _).alloc (Nat.le_refl _) _).alloc (by simp) _) (by simp)).mono ?_
  rintro e w1 ⟨rfl, hb1⟩
  have HB : Hid (Below w.heap.size w w1) := ((((Below.refl _ _).alloc (Nat.le_refl _) _).alloc (by simp) _).alloc (by simp <;> omega) _).trans (hb1.mono (by simp <;> omega))
  clear hb1
  rw [← HE.out]
  clear HE
  rcases hbd with rfl | rfl | rfl
  all_goals
    go_wp2
    go_ret2
    exact ⟨by rw [HF.out]; rfl, HB.out⟩

set_option maxHeartbeats 1000000 in
theorem rasked_any (v sv : Value) (B : Bay) (s : Slk) (w : World) (hv : BayAt w v B) (hs : SlkAt w sv s) :
    Calls Try.prog 62 #[v, sv] w fun e w' => e = .returned (.int .i64 (okE B s)) ∧ Below w.heap.size w w' := by
  have hv0 := hv
  have hs0 := hs
  obtain ⟨la, lc, sa, sc, rfl, hl, hsh, hll, hsl⟩ := hv
  obtain ⟨ao, c, rfl, hi, hn⟩ := hs
  have HV := Lib.hid hv0
  have HS := Lib.hid hs0
  clear hv0 hs0 hl hsh hi
  have HO : Hid (okE B s = if validB B = true then (if fitsB B s = true then 0 else 21) else 20) := rfl
  have HVB : Hid (validB B = true → validP B) := fun h => by
    by_cases h1 : validP B
    · exact h1
    · rw [validB_false h1] at h; cases h
  generalize okE B s = E at *
  go_enter Try.func62, Try.ntmps62
  go_wp2_with fail
  refine (rvalid_any _ B _ (HV.out.below (Nat.le_refl _) (((Below.refl _ _).alloc (Nat.le_refl _) _).alloc (by simp) _))).mono ?_
  rintro e w1 ⟨rfl, hb1⟩
  have HB : Hid (Below w.heap.size w w1) := (((Below.refl _ _).alloc (Nat.le_refl _) _).alloc (by simp) _).trans (hb1.mono (by simp <;> omega))
  obtain ⟨hc1, hf1⟩ := bcell hb1
  clear hb1
  cases hvb : validB B
  · rw [hvb] at HO
    go_wp2
    go_ret
    exact ⟨by rw [HO.out]; rfl, HB.out⟩
  · have HVP := Lib.hid (HVB.out hvb)
    rw [hvb] at HO
    go_wp2_with fail
    refine (is_any _ _ B s _ (HV.out.below (Nat.le_refl _) HB.out) (HS.out.below (Nat.le_refl _) HB.out) HVP.out).mono ?_
    rintro e w2 ⟨rfl, hb2⟩
    have HB2 : Hid (Below w.heap.size w w2) := HB.out.trans (hb2.mono HB.out.size)
    clear hb2 hc1 hf1
    cases hfb : fitsB B s
    · rw [hfb] at HO
      go_wp2
      go_ret
      exact ⟨by rw [HO.out]; rfl, HB2.out⟩
    · rw [hfb] at HO
      go_wp2
      go_ret
      exact ⟨by rw [HO.out]; rfl, HB2.out⟩

set_option maxHeartbeats 1000000 in
theorem rFits_any (v sv : Value) (B : Bay) (s : Slk) (w : World) (hv : BayAt w v B) (hs : SlkAt w sv s) :
    Calls Try.prog 34 #[v, sv] w fun e w' => e = .returned (.tuple #[.bool (decide (okE B s = 0)), .int .i64 (fitE B s)]) ∧ Below w.heap.size w w' := by
  have hv0 := hv
  have hs0 := hs
  obtain ⟨la, lc, sa, sc, rfl, hl, hsh, hll, hsl⟩ := hv
  obtain ⟨ao, c, rfl, hi, hn⟩ := hs
  have HV := Lib.hid hv0
  have HS := Lib.hid hs0
  clear hv0 hs0 hl hsh hi
  have HO : Hid (okE B s = if validB B = true then (if fitsB B s = true then 0 else 21) else 20) := rfl
  have HVB : Hid (validB B = true → validP B) := fun h => by
    by_cases h1 : validP B
    · exact h1
    · rw [validB_false h1] at h; cases h
  have HF : Hid (fitE B s = if okE B s = 20 then 20 else 0) := rfl
  generalize fitE B s = F at *
  generalize okE B s = E at *
  go_enter Try.func34, Try.ntmps34
  go_wp2_with fail
  refine (rvalid_any _ B _ (HV.out.below (Nat.le_refl _) (((Below.refl _ _).alloc (Nat.le_refl _) _).alloc (by simp) _))).mono ?_
  rintro e w1 ⟨rfl, hb1⟩
  have HB : Hid (Below w.heap.size w w1) := (((Below.refl _ _).alloc (Nat.le_refl _) _).alloc (by simp) _).trans (hb1.mono (by simp <;> omega))
  obtain ⟨hc1, hf1⟩ := bcell hb1
  clear hb1
  cases hvb : validB B
  · rw [hvb] at HO
    go_wp2
    go_ret2
    exact ⟨by rw [HF.out, HO.out]; rfl, HB.out⟩
  · have HVP := Lib.hid (HVB.out hvb)
    rw [hvb] at HO
    go_wp2_with fail
    refine (is_any _ _ B s _ (HV.out.below (Nat.le_refl _) HB.out) (HS.out.below (Nat.le_refl _) HB.out) HVP.out).mono ?_
    rintro e w2 ⟨rfl, hb2⟩
    have HB2 : Hid (Below w.heap.size w w2) := HB.out.trans (hb2.mono HB.out.size)
    clear hb2 hc1 hf1
    cases hfb : fitsB B s
    · rw [hfb] at HO
      go_wp2
      go_ret2
      exact ⟨by rw [HF.out, HO.out]; rfl, HB2.out⟩
    · rw [hfb] at HO
      go_wp2
      go_ret2
      exact ⟨by rw [HF.out, HO.out]; rfl, HB2.out⟩
end Go.Proofs.Ytnafllhgjidbkaa
