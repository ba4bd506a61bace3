import Derived.Test.YtnafllhgjidbkaaT3
namespace Go.Proofs.Ytnafllhgjidbkaa
open Go.RowKit

structure Slk where
  K : Int
  Oil : List Int
  Away : Int

def SlkAt (w : World) (v : Value) (s : Slk) : Prop :=
  ∃ ao c, v = .agg #[.int .i64 s.K, .slice ao s.Oil.length c, .int .i64 s.Away] ∧ IntsAt w ao s.Oil ∧ s.Oil.length < 1152921504606846976
theorem SlkAt.below {w w' : World} {v : Value} {s : Slk} (h : SlkAt w v s) {B : Nat} (hB : w.heap.size ≤ B) (hb : Below B w w') : SlkAt w' v s := by
  obtain ⟨ao, c, h1, h2, h3⟩ := h; exact ⟨ao, c, h1, h2.below hB hb, h3⟩
theorem BayAt.below {w w' : World} {v : Value} {s : Bay} (h : BayAt w v s) {B : Nat} (hB : w.heap.size ≤ B) (hb : Below B w w') : BayAt w' v s := by
  obtain ⟨la, lc, sa, sc, h1, h2, h3, h4⟩ := h; exact ⟨la, lc, sa, sc, h1, h2.below hB hb, h3.below hB hb, h4⟩

theorem sum_bd {M : Int} : ∀ (l : List Int), (∀ k, k < l.length → 0 ≤ l.getD k 0 ∧ l.getD k 0 ≤ M) → 0 ≤ l.sum ∧ l.sum ≤ l.length * M
  | [], _ => by simp
  | x :: l, h => by
    have h0 := h 0 (by simp)
    have := sum_bd l (fun k hk => by have := h (k + 1) (by simpa using hk); simpa using this)
    simp only [List.sum_cons, List.length_cons, Int.natCast_add, Int.add_mul]
    simp at h0
    omega
theorem sum_bd100 {M : Int} (l : List Int) (hn : l.length ≤ 100) (hM : 0 ≤ M) (h : ∀ k, k < l.length → 0 ≤ l.getD k 0 ∧ l.getD k 0 ≤ M) : 0 ≤ l.sum ∧ l.sum ≤ 100 * M := by
  have h1 := sum_bd l h
  have : (l.length : Int) * M ≤ 100 * M := Int.mul_le_mul_of_nonneg_right (by omega) hM
  omega

def lim (K : Int) : Int := 36000 * 16 ^ K.toNat
theorem pow_bd (K : Int) (h0 : 0 ≤ K) (h5 : K ≤ 5) : 1 ≤ (16 : Int) ^ K.toNat ∧ (16 : Int) ^ K.toNat ≤ 1048576 := by
  have : K = 0 ∨ K = 1 ∨ K = 2 ∨ K = 3 ∨ K = 4 ∨ K = 5 := by omega
  rcases this with rfl | rfl | rfl | rfl | rfl | rfl <;> decide

def fitsP (B : Bay) (s : Slk) : Prop := (0 ≤ s.K ∧ s.K ≤ 5) ∧ (s.Oil.length : Int) = B.W * B.H ∧ amtB s.Oil (lim s.K) = true ∧ (0 ≤ s.Away ∧ s.Away ≤ lim s.K - s.Oil.sum)
open Classical in
noncomputable def fitsB (B : Bay) (s : Slk) : Bool := decide (fitsP B s)
theorem fitsB_true {B : Bay} {s : Slk} (h : fitsP B s) : fitsB B s = true := by simp [fitsB, h]
theorem fitsB_false {B : Bay} {s : Slk} (h : ¬ fitsP B s) : fitsB B s = false := by simp [fitsB, h]
theorem fitsB_iff {B : Bay} {s : Slk} : fitsB B s = true ↔ fitsP B s := by simp [fitsB]

theorem okB_iff {M n : Int} : okB M n = true ↔ 0 ≤ n ∧ n ≤ M := by simp [okB, betwB]

set_option maxHeartbeats 400000 in
theorem fits_any (v sv : Value) (B : Bay) (s : Slk) (w : World) (hv : BayAt w v B) (hs : SlkAt w sv s) (hval : validP B) :
    Calls Try.prog 72 #[v, sv] w fun e w' => e = .returned (.bool (fitsB B s)) ∧ Below w.heap.size w w' := by
  obtain ⟨la, lc, sa, sc, rfl, hl, hsh, hll, hsl⟩ := hv
  obtain ⟨ao, c, rfl, hi, hn⟩ := hs
  obtain ⟨hp1, hp2⟩ := mul36 hval.1.1 hval.1.2 hval.2.1.1 hval.2.1.2
  have hbx : ∀ o1 o2, Below w.heap.size w ((w.alloc o1).alloc o2) := fun o1 o2 => ((Below.refl _ _).alloc (Nat.le_refl _) _).alloc (by simp) _
  have hWH := hval.1
  have hHH := hval.2.1
  clear hval
  by_cases hK : betwB 0 s.K 5 = true
  by_cases hlen : (s.Oil.length : Int) = B.W * B.H
  · have hK' : 0 ≤ s.K ∧ s.K ≤ 5 := by simpa [betwB] using hK
    have hb : ((s.Oil.length : Int) != B.W * B.H) = false := by simp [hlen]
    obtain ⟨q1, q2⟩ := pow_bd s.K hK'.1 hK'.2
    have hlim : Hid (lim s.K = 36000 * 16 ^ s.K.toNat) := rfl
    have HP := Lib.hid hlen
    have hn36 : s.Oil.length ≤ 36 := by omega
    clear hlen hn
    have hpow := fun W => power_any s.K W hK'.1 hK'.2
    generalize (16 : Int) ^ s.K.toNat = p at q1 q2 hlim hpow
    cases hA : amtB s.Oil (36000 * p)
    · have hf := Lib.hid (fitsB_false (B := B) (s := s) (fun h => by have := h.2.2.1; rw [hlim.out, hA] at this; cases this))
      clear hlim
      go_enter Try.func72, Try.ntmps72
      go_wp2_with (first | (go_at_call 60; refine (between_any _ _ _ _).mono ?_; rintro e w' ⟨rfl, rfl⟩) | (go_at_call 74; refine (hpow _).mono ?_; rintro e w' ⟨rfl, rfl⟩))
      refine wp_region_aft (by kernel_rfl) (by kernel_rfl) ?_
      repeat (go_big_quiet_step ((go_at_call 73; rename_i x; exact Calls.aft (amounts_eq _ ao c s.Oil (36000 * p) x.val (hi.below (Nat.le_refl _) ((hbx _ _).trans (x.bel.mono (by simp <;> omega)))) (by omega) hA))))
      refine wpQuiet_nil ?_
      rintro _ ⟨x, rfl⟩
      go_wp2
      go_ret
      exact ⟨ret_bool hf.out.symm, (hbx _ _).trans (x.bel.mono (by simp <;> omega))⟩
    · have hr : ∀ k, k < s.Oil.length → 0 ≤ s.Oil.getD k 0 ∧ s.Oil.getD k 0 ≤ 36000 * p := fun k hk => okB_iff.1 (amtB_iff.1 hA k hk)
      obtain ⟨q3, q4⟩ := sum_bd100 s.Oil (by omega) (by omega) hr
      have hres : Hid (fitsB B s = betwB 0 s.Away (36000 * p - s.Oil.sum)) := by
        unfold Hid
        by_cases h : 0 ≤ s.Away ∧ s.Away ≤ 36000 * p - s.Oil.sum
        · rw [fitsB_true ⟨hK', HP.out, by rw [hlim.out]; exact hA, by rw [hlim.out]; exact h⟩]; simp [betwB, h]
        · rw [fitsB_false (fun hh => h (by rw [← hlim.out]; exact hh.2.2.2))]; symm; unfold betwB; exact decide_eq_false h
      have HR := Lib.hid hr
      clear hlim hr
      go_enter Try.func72, Try.ntmps72
      go_wp2_with (first | (go_at_call 60; refine (between_any _ _ _ _).mono ?_; rintro e w' ⟨rfl, rfl⟩) | (go_at_call 74; refine (hpow _).mono ?_; rintro e w' ⟨rfl, rfl⟩))
      refine wp_region_aft (by kernel_rfl) (by kernel_rfl) ?_
      repeat (go_big_quiet_step (first | (go_at_call 73; rename_i x; exact Calls.aft (amounts_eq _ ao c s.Oil (36000 * p) x.val (hi.below (Nat.le_refl _) ((hbx _ _).trans (x.bel.mono (by simp <;> omega)))) (by omega) hA)) | (go_at_call 69; rename_i x; exact Calls.aft_same (sum_any ao c s.Oil (36000 * p) x.val (hi.below (Nat.le_refl _) ((hbx _ _).trans (x.bel.mono (by simp <;> omega)))) (by omega) (by omega) HR.out)) | (go_at_call 60; rename_i x; exact Calls.aft_same (between_any _ _ _ _))))
      refine wpQuiet_nil ?_
      rintro _ ⟨x, rfl⟩
      go_wp2
      go_ret
      exact ⟨ret_bool hres.out.symm, (hbx _ _).trans (x.bel.mono (by simp <;> omega))⟩
  · have hf := Lib.hid (fitsB_false (B := B) (s := s) (fun h => hlen h.2.1))
    have hb : ((s.Oil.length : Int) != B.W * B.H) = true := by simpa using hlen
    clear hlen
    go_enter Try.func72, Try.ntmps72
    go_wp2_with (first | (go_at_call 60; refine (between_any _ _ _ _).mono ?_; rintro e w' ⟨rfl, rfl⟩))
    go_ret
    exact ⟨ret_bool hf.out.symm, hbx _ _⟩
  · have hf := Lib.hid (fitsB_false (B := B) (s := s) (fun h => hK (by simp [betwB]; exact h.1)))
    have hK' : betwB 0 s.K 5 = false := by simpa using hK
    clear hK
    go_enter Try.func72, Try.ntmps72
    go_wp2_with (first | (go_at_call 60; refine (between_any _ _ _ _).mono ?_; rintro e w' ⟨rfl, rfl⟩))
    go_ret
    exact ⟨ret_bool hf.out.symm, hbx _ _⟩
end Go.Proofs.Ytnafllhgjidbkaa
