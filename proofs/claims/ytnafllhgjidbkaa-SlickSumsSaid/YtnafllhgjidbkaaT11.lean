import Derived.Test.YtnafllhgjidbkaaT5
namespace Go.Proofs.Ytnafllhgjidbkaa
open Go.RowKit
set_option linter.unusedVariables false
set_option linter.unusedSimpArgs false

theorem sixteen_any (n : Nat) (w : World) (h5 : n ≤ 5) :
    Calls Try.prog 32 #[.int .i64 n] w fun e w' => e = .returned (.int .i64 (16 ^ n)) ∧ w = w' := by
  go_enter Try.func32, Try.ntmps32
  go_wp2
  go_loop [3, 4] (fun o i => ∃ k : Nat, k ≤ n ∧ i = .int .i64 k ∧ o = .int .i64 (16 ^ k)) (fun _ i => n - (intOf i).toNat)
  case atStart => exact ⟨0, Nat.zero_le _, rfl, rfl⟩
  case round =>
    obtain ⟨k, hk, rfl, rfl⟩ := hrel
    by_cases hlt : k < n
    · have hb := pow_bd k (by omega) (by omega)
      rw [Int.toNat_natCast] at hb
      have hs : Hid ((16 : Int) ^ (k + 1) = 16 ^ k * 16) := Int.pow_succ 16 k
      generalize hp : (16 : Int) ^ k = p at hb hs
      clear hp
      go_wp2
      go_round
      case rel => exact ⟨k + 1, by omega, by go_num, by rw [hs.out]⟩
      case measure => simp [intOf]; omega
    · obtain rfl : k = n := by omega
      go_wp2
      go_ret
      exact ⟨rfl, rfl⟩

/-- What a slick has in all, as the reference tells it. -/
def totP (s : Slk) : Prop := (0 ≤ s.K ∧ s.K ≤ 5) ∧ (0 ≤ s.Away ∧ s.Away ≤ lim s.K) ∧ amtB s.Oil (lim s.K) = true ∧ s.Away + s.Oil.sum ≤ lim s.K
open Classical in
noncomputable def totZ (s : Slk) : Int := if totP s then s.Away + s.Oil.sum else -1
theorem totZ_yes {s : Slk} (h : totP s) : totZ s = s.Away + s.Oil.sum := by simp [totZ, h]
theorem totZ_no {s : Slk} (h : ¬ totP s) : totZ s = -1 := by simp [totZ, h]

theorem take_sum_succ {l : List Int} {k : Nat} (h : k < l.length) : (l.take (k + 1)).sum = (l.take k).sum + l.getD k 0 := by
  rw [List.take_succ_eq_append_getElem h, List.sum_append]; simp [List.getD_eq_getElem?_getD, List.getElem?_eq_getElem h]

set_option maxHeartbeats 1000000 in
theorem total_any (sv : Value) (s : Slk) (w : World) (hs : SlkAt w sv s) (hn : s.Oil.length ≤ 100) :
    Calls Try.prog 68 #[sv] w fun e w' => e = .returned (.int .i64 (totZ s)) ∧ Below w.heap.size w w' := by
  obtain ⟨ao, c, rfl, hi, _⟩ := hs
  have hal : ∀ o, Below w.heap.size w (w.alloc o) := fun o => (Below.refl _ _).alloc (Nat.le_refl _) _
  by_cases hK : s.K < 0
  · have hno := Lib.hid (totZ_no (s := s) (fun h => by have := h.1; omega))
    go_enter Try.func68, Try.ntmps68
    go_wp2
    go_ret
    exact ⟨ret_int hno.out.symm, hal _⟩
  by_cases hK5 : 5 < s.K
  · have hno := Lib.hid (totZ_no (s := s) (fun h => by have := h.1; omega))
    go_enter Try.func68, Try.ntmps68
    go_wp2
    go_ret
    exact ⟨ret_int hno.out.symm, hal _⟩
  obtain ⟨K, hKe⟩ : ∃ K : Nat, s.K = K := ⟨s.K.toNat, by omega⟩
  obtain ⟨q1, q2⟩ := pow_bd s.K (by omega) (by omega)
  have hlim : lim s.K = 36000 * 16 ^ K := by unfold lim; rw [hKe]; rfl
  have h16 := fun W => sixteen_any K W (by omega)
  rw [hKe, Int.toNat_natCast] at q1 q2
  generalize (16 : Int) ^ K = p at q1 q2 hlim h16
  have HL := Lib.hid hlim
  have HKE := Lib.hid hKe
  have hK0 : (0 : Int) ≤ K := by omega
  have hK5' : (K : Int) ≤ 5 := by omega
  clear hlim
  by_cases hA : s.Away < 0
  · have hno := Lib.hid (totZ_no (s := s) (fun h => by have := h.2.1; omega))
    go_enter Try.func68, Try.ntmps68
    go_wp2_with (first | (go_at_call 32; refine (h16 _).mono ?_; rintro e w' ⟨rfl, rfl⟩))
    go_ret
    exact ⟨ret_int hno.out.symm, hal _⟩
  by_cases hA5 : 36000 * p < s.Away
  · have hno := Lib.hid (totZ_no (s := s) (fun h => by have := h.2.1; rw [HL.out] at this; omega))
    go_enter Try.func68, Try.ntmps68
    go_wp2_with (first | (go_at_call 32; refine (h16 _).mono ?_; rintro e w' ⟨rfl, rfl⟩))
    go_ret
    exact ⟨ret_int hno.out.symm, hal _⟩
  go_enter Try.func68, Try.ntmps68
  go_wp2_with (first | (go_at_call 32; refine (h16 _).mono ?_; rintro e w' ⟨rfl, rfl⟩))
  go_loop [4, 5] (fun t i => ∃ k : Nat, k ≤ s.Oil.length ∧ i = .int .i64 k ∧ t = .int .i64 (s.Away + (s.Oil.take k).sum) ∧ (∀ j, j < k → okB (36000 * p) (s.Oil.getD j 0) = true) ∧ 0 ≤ (s.Oil.take k).sum ∧ (s.Oil.take k).sum ≤ k * 37748736000) (fun _ i => s.Oil.length - (intOf i).toNat)
  case atStart => exact ⟨0, Nat.zero_le _, rfl, by simp, by intro j hj; omega, by simp, by simp⟩
  case round =>
    obtain ⟨k, hk, rfl, rfl, hall, hs0, hs1⟩ := hrel
    have HALL := Lib.hid hall
    clear hall
    have hal1 := (hi.below (Nat.le_refl _) (hal (.cells #[.int .i64 s.K, .slice ao s.Oil.length c, .int .i64 s.Away] 28)))
    by_cases hlt : k < s.Oil.length
    · obtain ⟨bs, os, rfl, hbs, hcs⟩ := hi.get hlt
      have hts := take_sum_succ hlt
      generalize hx : s.Oil.getD k 0 = x at hcs hts
      generalize (s.Oil.take k).sum = t at hs0 hs1 hts
      have HX := Lib.hid hx
      have HT := Lib.hid hts
      clear hx hts hal1 hi
      by_cases hx0 : x < 0
      · have hno := Lib.hid (totZ_no (s := s) (fun h => by have := okB_iff.1 (amtB_iff.1 h.2.2.1 k hlt); rw [HX.out] at this; omega))
        go_wp2
        go_ret
        exact ⟨ret_int hno.out.symm, hal _⟩
      by_cases hx5 : 36000 * p < x
      · have hno := Lib.hid (totZ_no (s := s) (fun h => by have := okB_iff.1 (amtB_iff.1 h.2.2.1 k hlt); rw [HX.out, HL.out] at this; omega))
        go_wp2
        go_ret
        exact ⟨ret_int hno.out.symm, hal _⟩
      go_wp2
      go_round
      case rel =>
        refine ⟨k + 1, by omega, by go_num, by rw [HT.out]; go_num, ?_, by rw [HT.out]; omega, by rw [HT.out]; omega⟩
        intro j hj
        by_cases hjk : j = k
        · subst hjk; rw [HX.out]; exact okB_iff.2 ⟨by omega, by omega⟩
        · exact HALL.out j (by omega)
      case measure => simp [intOf]; omega
    · obtain rfl : k = s.Oil.length := by omega
      rw [List.take_length] at hs0 hs1 ⊢
      have hamt : amtB s.Oil (lim s.K) = true := amtB_iff.2 (by rw [HL.out]; exact HALL.out)
      have HAMT := Lib.hid hamt
      clear hamt hal1 hi
      by_cases hsum : 36000 * p < s.Away + s.Oil.sum
      · have hno := Lib.hid (totZ_no (s := s) (fun h => by have := h.2.2.2; rw [HL.out] at this; omega))
        go_wp2
        go_ret
        exact ⟨ret_int hno.out.symm, hal _⟩
      · have hyes := Lib.hid (totZ_yes (s := s) ⟨⟨by omega, by omega⟩, ⟨by omega, by rw [HL.out]; omega⟩, HAMT.out, by rw [HL.out]; omega⟩)
        go_wp2
        go_ret
        exact ⟨ret_int hyes.out.symm, hal _⟩
end Go.Proofs.Ytnafllhgjidbkaa
