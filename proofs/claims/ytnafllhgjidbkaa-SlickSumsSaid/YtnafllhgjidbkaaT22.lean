import Derived.Test.YtnafllhgjidbkaaT21
namespace Go.Proofs.Ytnafllhgjidbkaa
open Go.RowKit Go.Shelf
set_option linter.unusedVariables false
set_option linter.unusedSimpArgs false

noncomputable def floatV (B : Bay) (s : Slk) : Int := if okE B s = 0 then (landsL B s.Oil false).sum else 0
noncomputable def beachL (B : Bay) (s : Slk) : List Int := if okE B s = 0 then landsL B s.Oil true else []
theorem lands_get (B : Bay) (oil : List Int) (land : Bool) {i : Nat} (h : i < oil.length) : (landsL B oil land).getD i 0 = if B.Land.getD i false = land then oil.getD i 0 else 0 := by
  rw [landsL, chosenL_get B oil land h]
  by_cases hl : B.Land.getD i false = land
  · rw [if_pos ⟨h, hl⟩, if_pos hl]
  · rw [if_neg (fun h' => hl h'.2), if_neg hl]
theorem lands_len (B : Bay) (oil : List Int) (land : Bool) : (landsL B oil land).length = oil.length := chosenL_len ..
theorem lands_bd {B : Bay} {oil : List Int} {land : Bool} {M : Int} (hM : 0 ≤ M) (h : ∀ k, k < oil.length → 0 ≤ oil.getD k 0 ∧ oil.getD k 0 ≤ M) : ∀ k, k < (landsL B oil land).length → 0 ≤ (landsL B oil land).getD k 0 ∧ (landsL B oil land).getD k 0 ≤ M := by
  intro k hk
  rw [lands_len] at hk
  rw [lands_get B oil land hk]
  split
  · exact h k hk
  · exact ⟨Int.le_refl _, hM⟩

set_option maxHeartbeats 1000000 in
theorem Afloat_any (v sv : Value) (B : Bay) (s : Slk) (w : World) (hv : BayAt w v B) (hs : SlkAt w sv s) :
    Calls Try.prog 37 #[v, sv] w fun e w' => e = .returned (.tuple #[.int .i64 (floatV B s), .int .i64 (okE B s)]) ∧ Below w.heap.size w w' := by
  have hv0 := hv
  have hs0 := hs
  obtain ⟨la, lc, sa, sc, rfl, hl, hsh, hll, hsl⟩ := hv
  obtain ⟨ao, c, rfl, hi, hn⟩ := hs
  have HV := Lib.hid hv0
  have HS := Lib.hid hs0
  have HI := Lib.hid hi
  clear hv0 hs0 hl hsh hi
  have HF : Hid (floatV B s = if okE B s = 0 then (landsL B s.Oil false).sum else 0) := rfl
  generalize floatV B s = F at *
  have hcs := okE_cases B s
  obtain ⟨E, hE⟩ : ∃ E, E = okE B s := ⟨_, rfl⟩
  rw [← hE] at hcs HF ⊢
  have HE := Lib.hid hE
  clear hE
  go_enter Try.func37, Try.ntmps37
  go_wp2_with fail
  refine (asked_one _ B s _ _ _ w _ HV.out HI.out hn (((Below.refl _ _).alloc (Nat.le_refl _) _).alloc (by simp) _) (by simp)).mono ?_
  rintro e w1 ⟨rfl, hb1⟩
  have HB : Hid (Below w.heap.size w w1) := ((((Below.refl _ _).alloc (Nat.le_refl _) _).alloc (by simp) _).alloc (by simp <;> omega) _).trans (hb1.mono (by simp <;> omega))
  obtain ⟨hc1, hf1⟩ := bcell hb1
  clear hb1
  rw [← HE.out]
  clear HE
  rcases hcs with ⟨rfl, hval, hfit⟩ | rfl | rfl
  · obtain ⟨b1, b2, b3, b4, b5⟩ := fits_bd hval hfit
    have HC := Lib.hid (chosen_any _ _ B s false w1 (HV.out.below (Nat.le_refl _) HB.out) (HS.out.below (Nat.le_refl _) HB.out) (by omega) (by omega))
    have B3 := Lib.hid b3
    clear hval hfit b3 b2
    go_wp2_with fail
    refine (HC.out).mono ?_
    rintro e w2 ⟨rv, rfl, ⟨a', c', rfl, hi2, _⟩, hb2⟩
    have HS2 := Lib.hid (sum_any a' c' (landsL B s.Oil false) 37748736000 w2 hi2 (by rw [lands_len]; omega) (by omega) (lands_bd (by omega) B3.out))
    have HB2 : Hid (Below w.heap.size w w2) := HB.out.trans (hb2.mono HB.out.size)
    have HFF := Lib.hid (show F = (landsL B s.Oil false).sum from by have := HF.out; simpa using this)
    clear hi2 hb2 hc1 hf1
    go_wp2_with (first | (go_at_call 69; refine (HS2.out).mono ?_; rintro e w' ⟨rfl, rfl⟩))
    go_ret2
    exact ⟨by rw [HFF.out]; rfl, HB2.out⟩
  all_goals
    go_wp2
    go_ret2
    exact ⟨by rw [HF.out]; rfl, HB.out⟩

theorem new_nil (base : Nat) (w : World) : IntsNew base w (.slice none 0 0) [] := ⟨none, 0, rfl, fun h => absurd rfl h, fun _ h => by cases h⟩

set_option maxHeartbeats 1000000 in
theorem Beached_any (v sv : Value) (B : Bay) (s : Slk) (w : World) (hv : BayAt w v B) (hs : SlkAt w sv s) :
    Calls Try.prog 31 #[v, sv] w fun e w' => ∃ rv, e = .returned (.tuple #[rv, .int .i64 (okE B s)]) ∧ IntsNew w.heap.size w' rv (beachL B s) ∧ Below w.heap.size w w' := by
  have hv0 := hv
  have hs0 := hs
  obtain ⟨la, lc, sa, sc, rfl, hl, hsh, hll, hsl⟩ := hv
  obtain ⟨ao, c, rfl, hi, hn⟩ := hs
  have HV := Lib.hid hv0
  have HS := Lib.hid hs0
  have HI := Lib.hid hi
  clear hv0 hs0 hl hsh hi
  have HF : Hid (beachL B s = if okE B s = 0 then landsL B s.Oil true else []) := rfl
  generalize beachL B s = F at *
  have hcs := okE_cases B s
  obtain ⟨E, hE⟩ : ∃ E, E = okE B s := ⟨_, rfl⟩
  rw [← hE] at hcs HF ⊢
  have HE := Lib.hid hE
  clear hE
  go_enter Try.func31, Try.ntmps31
  go_wp2_with fail
  refine (asked_one _ B s _ _ _ w _ HV.out HI.out hn (((Below.refl _ _).alloc (Nat.le_refl _) _).alloc (by simp) _) (by simp)).mono ?_
  rintro e w1 ⟨rfl, hb1⟩
  have HB : Hid (Below w.heap.size w w1) := ((((Below.refl _ _).alloc (Nat.le_refl _) _).alloc (by simp) _).alloc (by simp <;> omega) _).trans (hb1.mono (by simp <;> omega))
  obtain ⟨hc1, hf1⟩ := bcell hb1
  clear hb1
  rw [← HE.out]
  clear HE
  rcases hcs with ⟨rfl, hval, hfit⟩ | rfl | rfl
  · obtain ⟨b1, b2, b3, b4, b5⟩ := fits_bd hval hfit
    have HC := Lib.hid (chosen_any _ _ B s true w1 (HV.out.below (Nat.le_refl _) HB.out) (HS.out.below (Nat.le_refl _) HB.out) (by omega) (by omega))
    have HFF := Lib.hid (show F = landsL B s.Oil true from by have := HF.out; simpa using this)
    clear hval hfit b3 b2
    go_wp2_with fail
    refine (HC.out).mono ?_
    rintro e w2 ⟨rv, rfl, ⟨a', c', rfl, hi2, hf2⟩, hb2⟩
    have HB2 : Hid (Below w.heap.size w w2) := HB.out.trans (hb2.mono HB.out.size)
    have HN : Hid (IntsNew w.heap.size w2 (.slice a' (landsL B s.Oil true).length c') (landsL B s.Oil true)) := ⟨a', c', rfl, hi2, fun a ha => Nat.le_trans HB.out.size (hf2 a ha)⟩
    clear hi2 hb2 hc1 hf1 hf2
    go_wp2
    go_ret2
    exact ⟨_, rfl, by rw [HFF.out]; exact HN.out, HB2.out⟩
  all_goals
    have HFF := Lib.hid (show F = [] from by have := HF.out; simpa using this)
    go_wp2
    go_ret2
    exact ⟨_, rfl, by rw [HFF.out]; exact new_nil _ _, HB.out⟩

set_option maxHeartbeats 1000000 in
theorem rAfloat_any (v sv : Value) (B : Bay) (s : Slk) (w : World) (hv : BayAt w v B) (hs : SlkAt w sv s) :
    Calls Try.prog 38 #[v, sv] w fun e w' => e = .returned (.tuple #[.int .i64 (floatV B s), .int .i64 (okE B s)]) ∧ Below w.heap.size w w' := by
  have hv0 := hv
  have hs0 := hs
  obtain ⟨la, lc, sa, sc, rfl, hl, hsh, hll, hsl⟩ := hv
  obtain ⟨ao, c, rfl, hi, hn⟩ := hs
  have HV := Lib.hid hv0
  have HS := Lib.hid hs0
  have HI := Lib.hid hi
  have HL := Lib.hid hl
  clear hv0 hs0 hl hsh hi
  have HF : Hid (floatV B s = if okE B s = 0 then (landsL B s.Oil false).sum else 0) := rfl
  generalize floatV B s = F at *
  have hcs := okE_cases B s
  obtain ⟨E, hE⟩ : ∃ E, E = okE B s := ⟨_, rfl⟩
  rw [← hE] at hcs HF ⊢
  have HE := Lib.hid hE
  clear hE
  go_enter Try.func38, Try.ntmps38
  go_wp2_with fail
  refine (rasked_any _ _ B s _ (HV.out.below (Nat.le_refl _) (((Below.refl _ _).alloc (Nat.le_refl _) _).alloc (by simp) _)) (HS.out.below (Nat.le_refl _) (((Below.refl _ _).alloc (Nat.le_refl _) _).alloc (by simp) _))).mono ?_
  rintro e w1 ⟨rfl, hb1⟩
  have HB : Hid (Below w.heap.size w w1) := ((((Below.refl _ _).alloc (Nat.le_refl _) _).alloc (by simp) _)).trans (hb1.mono (by simp <;> omega))
  obtain ⟨hc1, hf1⟩ := bcell hb1
  clear hb1
  rw [← HE.out]
  clear HE
  rcases hcs with ⟨rfl, hval, hfit⟩ | rfl | rfl
  · obtain ⟨b1, b2, b3, b4, b5⟩ := fits_bd hval hfit
    have B2 := Lib.hid b2
    have B3 := Lib.hid b3
    have HFF := Lib.hid (show F = (landsL B s.Oil false).sum from by have := HF.out; simpa using this)
    clear hval hfit b2 b3
    go_wp2
    go_loop [7, 8] (fun t i => ∃ k : Nat, k ≤ s.Oil.length ∧ i = .int .i64 k ∧ t = .int .i64 ((landsL B s.Oil false).take k).sum ∧ 0 ≤ ((landsL B s.Oil false).take k).sum ∧ ((landsL B s.Oil false).take k).sum ≤ k * 37748736000) (fun _ i => s.Oil.length - (intOf i).toNat)
    case atStart => exact ⟨0, Nat.zero_le _, rfl, by simp, by simp, by simp⟩
    case round =>
      obtain ⟨k, hk, rfl, rfl, hs0, hs1⟩ := hrel
      by_cases hlt : k < s.Oil.length
      · have hlb := B2.out
        obtain ⟨bl, ol, rfl, hbl, hcl⟩ := (HL.out.below (Nat.le_refl _) HB.out).get (k := k) (by omega)
        obtain ⟨bi, oi, rfl, hbi, hci⟩ := (HI.out.below (Nat.le_refl _) HB.out).get hlt
        have hkl : (k : Int) < B.Land.length := by omega
        have hts := take_sum_succ (l := landsL B s.Oil false) (k := k) (by rw [lands_len]; exact hlt)
        rw [lands_get B s.Oil false hlt] at hts
        have hxb := B3.out k hlt
        clear hlb
        generalize s.Oil.getD k 0 = x at *
        generalize ((landsL B s.Oil false).take k).sum = t at *
        generalize hld : B.Land.getD k false = ld at *
        clear hld
        have HT := Lib.hid hts
        clear hts
        cases ld
        · have HT2 := Lib.hid (show ((landsL B s.Oil false).take (k + 1)).sum = t + x from by have := HT.out; simpa using this)
          clear HT
          go_wp2
          go_round
          case rel => exact ⟨k + 1, by omega, by go_num, by rw [HT2.out], by rw [HT2.out]; omega, by rw [HT2.out]; omega⟩
          case measure => simp [intOf]; omega
        · have HT2 := Lib.hid (show ((landsL B s.Oil false).take (k + 1)).sum = t from by have := HT.out; simpa using this)
          clear HT
          go_wp2
          go_round
          case rel => exact ⟨k + 1, by omega, by go_num, by rw [HT2.out], by rw [HT2.out]; omega, by rw [HT2.out]; omega⟩
          case measure => simp [intOf]; omega
      · obtain rfl : k = s.Oil.length := by omega
        rw [show (landsL B s.Oil false).take s.Oil.length = landsL B s.Oil false from List.take_of_length_le (by rw [lands_len]; exact Nat.le_refl _)] at *
        go_wp2
        go_ret2
        exact ⟨by rw [HFF.out]; rfl, HB.out⟩
  all_goals
    go_wp2
    go_ret2
    exact ⟨by rw [HF.out]; rfl, HB.out⟩
end Go.Proofs.Ytnafllhgjidbkaa
