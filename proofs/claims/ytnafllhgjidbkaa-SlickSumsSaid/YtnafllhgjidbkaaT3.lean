import Derived.Test.YtnafllhgjidbkaaT2
namespace Go.Proofs.Ytnafllhgjidbkaa
open Go.RowKit

def okB (lim n : Int) : Bool := betwB 0 n lim
def amtB (l : List Int) (lim : Int) : Bool := l.all (okB lim)
theorem amtB_iff {l : List Int} {lim : Int} : amtB l lim = true ↔ ∀ k, k < l.length → okB lim (l.getD k 0) = true := by
  unfold amtB
  rw [List.all_eq_true]
  constructor
  · intro h k hk; exact h _ (by simp [List.getD_eq_getElem?_getD, List.getElem?_eq_getElem hk])
  · intro h x hx
    obtain ⟨k, hk, rfl⟩ := List.mem_iff_getElem.1 hx
    have := h k hk
    simpa [List.getD_eq_getElem?_getD, List.getElem?_eq_getElem hk] using this

theorem amounts1_any (n lim : Int) (b : Nat) (w : World) (hc : w.cell? ⟨b, 0, none⟩ = some (.int .i64 lim)) :
    Calls Try.prog 89 #[.int .i64 n, .pointer (some ⟨b, 0, none⟩)] w fun e w' => e = .returned (.bool (!okB lim n)) ∧ w = w' := by
  go_enter Try.func89, Try.ntmps89
  go_wp2_with (first | (go_at_call 60; refine (between_any _ _ _ _).mono ?_; rintro e w' ⟨rfl, rfl⟩))
  go_ret
  exact ⟨rfl, rfl⟩

theorem indexInts_yes (ao : Option Addr) (c : Nat) (l : List Int) (lim : Int) (b : Nat) (w : World) (hl : IntsAt w ao l) (hn : l.length < 1152921504606846976) (hc : w.cell? ⟨b, 0, none⟩ = some (.int .i64 lim)) (hok : amtB l lim = true) :
    Calls Try.prog 97 #[.slice ao l.length c, .func (.func 89) #[] #[.pointer (some ⟨b, 0, none⟩)]] w fun e w' => e = .returned (.int .i64 (-1)) ∧ w = w' := by
  have HOK := Lib.hid (amtB_iff.1 hok)
  clear hok
  go_enter Try.func97, Try.ntmps97
  go_wp2
  go_loop [8] (fun i => ∃ k : Nat, k ≤ l.length ∧ i = .int .i64 k) (fun i => l.length - (intOf i).toNat)
  case atStart => exact ⟨0, Nat.zero_le _, rfl⟩
  case round =>
    obtain ⟨k, hk, rfl⟩ := hrel
    by_cases hlt : k < l.length
    · obtain ⟨bs, os, rfl, hbs, hcs⟩ := hl.get hlt
      have ho := HOK.out k hlt
      generalize l.getD k 0 = x at hcs ho
      go_wp2_with (first | (go_at_call 89; refine (amounts1_any _ _ _ _ hc).mono ?_; rintro e w' ⟨rfl, rfl⟩))
      go_round
      case rel => exact ⟨k + 1, by omega, by go_num⟩
      case measure => simp [intOf]; omega
    · go_wp2
      go_ret
      exact ⟨rfl, rfl⟩
theorem indexInts_no (ao : Option Addr) (c : Nat) (l : List Int) (lim : Int) (b : Nat) (w : World) (hl : IntsAt w ao l) (hn : l.length < 1152921504606846976) (hc : w.cell? ⟨b, 0, none⟩ = some (.int .i64 lim)) (hok : amtB l lim = false) :
    Calls Try.prog 97 #[.slice ao l.length c, .func (.func 89) #[] #[.pointer (some ⟨b, 0, none⟩)]] w fun e w' => (∃ r : Nat, e = .returned (.int .i64 r)) ∧ w = w' := by
  have HNO : Hid (¬ ∀ k, k < l.length → okB lim (l.getD k 0) = true) := fun h => by rw [amtB_iff.2 h] at hok; cases hok
  clear hok
  go_enter Try.func97, Try.ntmps97
  go_wp2
  go_loop [8] (fun i => ∃ k : Nat, k ≤ l.length ∧ i = .int .i64 k ∧ ∀ j, j < k → okB lim (l.getD j 0) = true) (fun i => l.length - (intOf i).toNat)
  case atStart => exact ⟨0, Nat.zero_le _, rfl, by intro j hj; omega⟩
  case round =>
    obtain ⟨k, hk, rfl, hall⟩ := hrel
    have HALL := Lib.hid hall
    clear hall
    by_cases hlt : k < l.length
    · obtain ⟨bs, os, rfl, hbs, hcs⟩ := hl.get hlt
      generalize hx : l.getD k 0 = x at hcs
      have HX := Lib.hid hx
      clear hx
      cases ho : okB lim x
      · go_wp2_with (first | (go_at_call 89; refine (amounts1_any _ _ _ _ hc).mono ?_; rintro e w' ⟨rfl, rfl⟩))
        go_ret
        exact ⟨⟨k, rfl⟩, rfl⟩
      · go_wp2_with (first | (go_at_call 89; refine (amounts1_any _ _ _ _ hc).mono ?_; rintro e w' ⟨rfl, rfl⟩))
        go_round
        case rel =>
          refine ⟨k + 1, by omega, by go_num, ?_⟩
          intro j hj
          by_cases hjk : j = k
          · subst hjk; rw [HX.out]; exact ho
          · exact HALL.out j (by omega)
        case measure => simp [intOf]; omega
    · exact absurd (fun j hj => HALL.out j (by omega)) HNO.out

theorem containsInts_any (ao : Option Addr) (c : Nat) (l : List Int) (lim : Int) (b : Nat) (w : World) (hl : IntsAt w ao l) (hn : l.length < 1152921504606846976) (hc : w.cell? ⟨b, 0, none⟩ = some (.int .i64 lim)) :
    Calls Try.prog 88 #[.slice ao l.length c, .func (.func 89) #[] #[.pointer (some ⟨b, 0, none⟩)]] w fun e w' => e = .returned (.bool (!amtB l lim)) ∧ w = w' := by
  cases hok : amtB l lim
  · go_enter Try.func88, Try.ntmps88
    go_wp2_with (first | (go_at_call 97; refine (indexInts_no _ _ _ _ _ _ hl hn hc hok).mono ?_; rintro e w' ⟨⟨r, rfl⟩, rfl⟩))
    go_ret
    exact ⟨ret_bool (by simp), rfl⟩
  · go_enter Try.func88, Try.ntmps88
    go_wp2_with (first | (go_at_call 97; refine (indexInts_yes _ _ _ _ _ _ hl hn hc hok).mono ?_; rintro e w' ⟨rfl, rfl⟩))
    go_ret
    exact ⟨ret_bool (by simp), rfl⟩

theorem amounts_any (ao : Option Addr) (c : Nat) (l : List Int) (lim : Int) (w : World) (hl : IntsAt w ao l) (hn : l.length < 1152921504606846976) :
    Calls Try.prog 73 #[.slice ao l.length c, .int .i64 lim] w fun e w' => e = .returned (.bool (amtB l lim)) ∧ Below w.heap.size w w' := by
  have hl' : IntsAt (w.alloc (.cells #[.int .i64 lim] 3)) ao l := hl.below (Nat.le_refl _) ((Below.refl _ _).alloc (Nat.le_refl _) _)
  have hc : (w.alloc (.cells #[.int .i64 lim] 3)).cell? ⟨w.heap.size, 0, none⟩ = some (.int .i64 lim) := by simp [go_sem]
  go_enter Try.func73, Try.ntmps73
  go_wp2_with (first | (go_at_call 88; refine (containsInts_any _ _ _ _ _ _ hl' hn hc).mono ?_; rintro e w' ⟨rfl, rfl⟩))
  go_ret
  exact ⟨ret_bool (by simp), (Below.refl _ _).alloc (Nat.le_refl _) _⟩

theorem amounts_eq (r : Bool) (ao : Option Addr) (c : Nat) (l : List Int) (lim : Int) (w : World) (hl : IntsAt w ao l) (hn : l.length < 1152921504606846976) (hr : amtB l lim = r) :
    Calls Try.prog 73 #[.slice ao l.length c, .int .i64 lim] w fun e w' => e = .returned (.bool r) ∧ Below w.heap.size w w' := by
  subst hr; exact amounts_any ao c l lim w hl hn

theorem sum_any (ao : Option Addr) (c : Nat) (l : List Int) (M : Int) (w : World) (hl : IntsAt w ao l) (hn : l.length ≤ 100) (hM : 0 ≤ M ∧ M ≤ 10000000000000000) (hr : ∀ k, k < l.length → 0 ≤ l.getD k 0 ∧ l.getD k 0 ≤ M) :
    Calls Try.prog 69 #[.slice ao l.length c] w fun e w' => e = .returned (.int .i64 l.sum) ∧ w = w' := by
  have HR := Lib.hid hr
  clear hr
  go_enter Try.func69, Try.ntmps69
  go_wp2
  go_loop [3, 8] (fun s i => ∃ k : Nat, k ≤ l.length ∧ i = .int .i64 k ∧ s = .int .i64 (l.take k).sum ∧ 0 ≤ (l.take k).sum ∧ (l.take k).sum ≤ k * M) (fun _ i => l.length - (intOf i).toNat)
  case atStart => exact ⟨0, Nat.zero_le _, rfl, rfl, by simp, by simp⟩
  case round =>
    obtain ⟨k, hk, rfl, rfl, h0, h1⟩ := hrel
    by_cases hlt : k < l.length
    · obtain ⟨bs, os, rfl, hbs, hcs⟩ := hl.get hlt
      have hx := HR.out k hlt
      have hts : (l.take (k + 1)).sum = (l.take k).sum + l.getD k 0 := by
        rw [List.take_succ_eq_append_getElem hlt, List.sum_append]; simp [List.getD_eq_getElem?_getD, List.getElem?_eq_getElem hlt]
      generalize l.getD k 0 = x at hcs hx hts
      generalize (l.take k).sum = s at h0 h1 hts
      have HT := Lib.hid hts
      clear hts
      have hkM : (k : Int) * M ≤ 100 * M := Int.mul_le_mul_of_nonneg_right (by omega) hM.1
      have hk1 : ((k + 1 : Nat) : Int) * M = k * M + M := by rw [Int.natCast_add]; simp [Int.add_mul]
      generalize hkm : (k : Int) * M = kM at *
      have HK1 := Lib.hid hk1
      clear hk1 hkm
      go_wp2
      go_round
      case rel => exact ⟨k + 1, by omega, by go_num, by rw [HT.out], by rw [HT.out]; omega, by rw [HT.out, HK1.out]; omega⟩
      case measure => simp [intOf]; omega
    · obtain rfl : k = l.length := by omega
      go_wp2
      go_ret
      exact ⟨ret_int (by simp), rfl⟩

theorem power_any (k : Int) (w : World) (h0 : 0 ≤ k) (h5 : k ≤ 5) :
    Calls Try.prog 74 #[.int .i64 k] w fun e w' => e = .returned (.int .i64 (16 ^ k.toNat)) ∧ w = w' := by
  have : k = 0 ∨ k = 1 ∨ k = 2 ∨ k = 3 ∨ k = 4 ∨ k = 5 := by omega
  rcases this with rfl | rfl | rfl | rfl | rfl | rfl
  all_goals
    go_enter Try.func74, Try.ntmps74
    go_wp2
    go_ret
    exact ⟨ret_int (by decide), rfl⟩
end Go.Proofs.Ytnafllhgjidbkaa
