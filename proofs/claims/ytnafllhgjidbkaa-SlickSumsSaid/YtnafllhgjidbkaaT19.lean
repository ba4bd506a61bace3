import Derived.Test.YtnafllhgjidbkaaT18
namespace Go.Proofs.Ytnafllhgjidbkaa
open Go.RowKit
set_option linter.unusedVariables false
set_option linter.unusedSimpArgs false

noncomputable def okE (B : Bay) (s : Slk) : Int := if validB B = true then (if fitsB B s = true then 0 else 21) else 20
theorem askE_one (B : Bay) (s : Slk) : askE B [s] = okE B s := by
  unfold askE okE
  split
  · have : allFitB B [s] = fitsB B s := by
      unfold allFitB allFit
      have : (∀ k, k < [s].length → fitsB B ([s].getD k ⟨0, [], 0⟩) = true) ↔ fitsB B s = true := by
        constructor
        · intro h; exact h 0 (by simp)
        · intro h k hk
          obtain rfl : k = 0 := by simpa using hk
          exact h
      simp only [this]; simp
    rw [this]
  · rfl
theorem slks_one {w : World} {ao : Option Addr} {c : Nat} {s : Slk} (hi : IntsAt w ao s.Oil) (hn : s.Oil.length < 1152921504606846976) :
    SlksAt (w.alloc (.cells #[.int .i64 s.K, .slice ao s.Oil.length c, .int .i64 s.Away] 28)) (some ⟨w.heap.size, 0, none⟩) [s] := by
  intro k hk
  obtain rfl : k = 0 := by simpa using hk
  have hh := World.alloc_heap_new w (.cells #[.int .i64 s.K, .slice ao s.Oil.length c, .int .i64 s.Away] 28)
  exact ⟨w.heap.size, 0, ao, c, rfl, by simp, cell_of_heap hh 0, cell_of_heap hh 1, cell_of_heap hh 2, hi.below (Nat.le_refl _) ((Below.refl _ _).alloc (Nat.le_refl _) _), hn⟩
theorem okE_cases (B : Bay) (s : Slk) : (okE B s = 0 ∧ validP B ∧ fitsP B s) ∨ okE B s = 20 ∨ okE B s = 21 := by
  unfold okE
  by_cases h1 : validP B
  · rw [if_pos (validB_true h1)]
    by_cases h2 : fitsP B s
    · rw [if_pos (fitsB_true h2)]; exact .inl ⟨rfl, h1, h2⟩
    · rw [if_neg (by rw [fitsB_false h2]; simp)]; exact .inr (.inr rfl)
  · rw [if_neg (by rw [validB_false h1]; simp)]; exact .inr (.inl rfl)

noncomputable def aftE (B : Bay) (s : Slk) (n : Int) : Int := if okE B s ≠ 0 then okE B s else if n < 0 ∨ 5 < n then 2 else if 5 < s.K + n then 4 else 0
noncomputable def aftS (B : Bay) (s : Slk) (n : Int) : Slk := if aftE B s n = 0 then mvN B s n.toNat else ⟨0, [], 0⟩
theorem zero_new (base : Nat) (w : World) : SlkNew base w (.agg #[.int .i64 0, .slice none 0 0, .int .i64 0]) ⟨0, [], 0⟩ :=
  ⟨none, 0, rfl, fun h => absurd rfl h, by simp, fun _ h => by cases h⟩

def Aft3 (w : World) (S : Slk) (E : Int) (e : Ending) (w' : World) : Prop := ∃ rv, e = .returned (.tuple #[rv, .int .i64 E]) ∧ SlkNew w.heap.size w' rv S ∧ Below w.heap.size w w'

set_option maxHeartbeats 2000000 in
theorem After_any (v sv : Value) (B : Bay) (s : Slk) (n : Int) (w : World) (hv : BayAt w v B) (hs : SlkAt w sv s) (hnn : -9223372036854775808 ≤ n ∧ n ≤ 9223372036854775807) :
    Calls Try.prog 20 #[v, sv, .int .i64 n] w (Aft3 w (aftS B s n) (aftE B s n)) := by
  have hv0 := hv
  have hs0 := hs
  obtain ⟨la, lc, sa, sc, rfl, hl, hsh, hll, hsl⟩ := hv
  obtain ⟨ao, c, rfl, hi, hn⟩ := hs
  obtain ⟨f0, f1, f2, f3, f4⟩ := three_new (w := w) #[.int .i64 B.W, .int .i64 B.H, .slice la B.Land.length lc, .slice sa B.Share.length sc] #[.int .i64 s.K, .slice ao s.Oil.length c, .int .i64 s.Away] #[.int .i64 0, .slice none 0 0, .int .i64 0] 25 28 28
  have HV := Lib.hid hv0
  have HS := Lib.hid hs0
  clear hv0 hs0 hl hsh
  have hask := askE_one B s
  have HASK := Lib.hid hask
  clear hask
  go_enter Try.func20, Try.ntmps20
  go_wp2_with fail
  generalize hW : (((w.alloc _).alloc _).alloc _) = W at *
  clear hW
  have hsl := slks_one (w := W) (ao := ao) (c := c) (s := s) (hi.below (Nat.le_refl _) f0) hn
  rw [f1] at hsl
  refine (asked_any _ B _ 1 [s] _ hsl (HV.out.below (Nat.le_refl _) (f0.trans ((Below.refl _ _).alloc (by omega) _))) (by simp)).mono ?_
  rintro e W1 ⟨rfl, hb1⟩
  rw [HASK.out]
  have hb2 : Below W.heap.size W W1 := ((Below.refl _ _).alloc (Nat.le_refl _) _).trans (hb1.mono (by simp))
  have g0 := (hb2.block _ (by omega)).trans f2
  have g1 := (hb2.block _ (by omega)).trans f3
  have g2 := (hb2.block _ (by omega)).trans f4
  have d0 := cell_of_heap g0 0
  have d1 := cell_of_heap g0 1
  have d2 := cell_of_heap g0 2
  have d3 := cell_of_heap g0 3
  have s0 := cell_of_heap g1 0
  have s1 := cell_of_heap g1 1
  have s2 := cell_of_heap g1 2
  have r0 := cell_of_heap g2 0
  have r1 := cell_of_heap g2 1
  have r2 := cell_of_heap g2 2
  simp at d0 d1 d2 d3 s0 s1 s2 r0 r1 r2
  have z0 := free_of_heap g2 0
  have z1 := free_of_heap g2 1
  have z2 := free_of_heap g2 2
  have l2 := heap_lt g2
  have HBW : Hid (Below w.heap.size w W1) := f0.trans (hb2.mono f0.size)
  have HG2 := Lib.hid g2
  have HF1 := Lib.hid f1
  clear f0 f1 f2 f3 f4 hb1 hb2 g0 g1 g2 hi
  have zeroend : ∀ E : Int, aftE B s n = E → E ≠ 0 → Hid (Aft3 w (aftS B s n) (aftE B s n) (.returned (.tuple #[.agg #[.int .i64 0, .slice none 0 0, .int .i64 0], .int .i64 E])) (((W1.setCell ⟨w.heap.size + 1 + 1, 0, none⟩ (.int .i64 0)).setCell ⟨w.heap.size + 1 + 1, 1, none⟩ (.slice none 0 0)).setCell ⟨w.heap.size + 1 + 1, 2, none⟩ (.int .i64 0))) := by
    intro E hE h0
    refine ⟨_, by rw [hE], ?_, ((HBW.out.setCell (by simp; omega) _).setCell (by simp; omega) _).setCell (by simp; omega) _⟩
    rw [show aftS B s n = ⟨0, [], 0⟩ from by unfold aftS; rw [hE, if_neg h0]]
    exact zero_new _ _
  rcases okE_cases B s with ⟨h0, hval, hfit⟩ | h0 | h0
  · rw [h0]
    by_cases hr : n < 0 ∨ 5 < n
    · have hE : aftE B s n = 2 := by unfold aftE; rw [if_neg (by simp [h0]), if_pos hr]
      have HZ := zeroend 2 hE (by decide)
      have hbt : betwB 0 n 5 = false := by unfold betwB; exact decide_eq_false (by omega)
      clear zeroend h0 hE hval hfit hr
      go_wp2_with (first | (go_at_call 60; refine (between_any _ _ _ _).mono ?_; rintro e w' ⟨rfl, rfl⟩))
      refine bodyPost_ret (v := .tuple #[.agg #[.int .i64 0, .slice none 0 0, .int .i64 0], .int .i64 2]) (by simp [results, Try.results20, go_sem, r0, r1, r2]) rfl HZ.out
    · have hbt : betwB 0 n 5 = true := by unfold betwB; exact decide_eq_true (by omega)
      have hK := hfit.1
      by_cases hk : 5 < s.K + n
      · have hE : aftE B s n = 4 := by unfold aftE; rw [if_neg (by simp [h0]), if_neg hr, if_pos hk]
        have HZ := zeroend 4 hE (by decide)
        have hnr : 0 ≤ n ∧ n ≤ 5 := by omega
        clear zeroend h0 hE hval hfit hr
        go_wp2_with (first | (go_at_call 60; refine (between_any _ _ _ _).mono ?_; rintro e w' ⟨rfl, rfl⟩))
        refine bodyPost_ret (v := .tuple #[.agg #[.int .i64 0, .slice none 0 0, .int .i64 0], .int .i64 4]) (by simp [results, Try.results20, go_sem, r0, r1, r2]) rfl HZ.out
      · have hE : aftE B s n = 0 := by unfold aftE; rw [if_neg (by simp [h0]), if_neg hr, if_neg hk]
        have hS : aftS B s n = mvN B s n.toNat := by unfold aftS; rw [hE, if_pos rfl]
        obtain ⟨m, rfl⟩ : ∃ m : Nat, n = m := ⟨n.toNat, by omega⟩
        rw [Int.toNat_natCast] at hS
        have HE := Lib.hid hE
        have HS2 := Lib.hid hS
        have HC := Lib.hid (after_any _ _ B s m W1 (HV.out.below (Nat.le_refl _) HBW.out) (HS.out.below (Nat.le_refl _) HBW.out) hval hfit (by omega))
        have hnr : (0 : Int) ≤ m ∧ (m : Int) ≤ 5 := by omega
        have hkk : s.K + m ≤ 5 := by omega
        clear zeroend h0 hE hval hfit hr hS hk
        go_wp2_with (first | (go_at_call 60; refine (between_any _ _ _ _).mono ?_; rintro e w' ⟨rfl, rfl⟩) | fail)
        refine (HC.out).mono ?_
        rintro e w1 ⟨rv, rfl, ⟨a', c', rfl, hi', hn', hf'⟩, hb1⟩
        have e2 := (hb1.block _ l2).trans HG2.out
        have r0' := cell_of_heap e2 0
        have r1' := cell_of_heap e2 1
        have r2' := cell_of_heap e2 2
        simp at r0' r1' r2'
        have z0' := free_of_heap e2 0
        have z1' := free_of_heap e2 1
        have z2' := free_of_heap e2 2
        have hne : Hid (∀ a, a' = some a → a.block ≠ w.heap.size + 1 + 1) := fun a ha => by have := hf' a ha; omega
        have HI' := Lib.hid hi'
        have HF' := Lib.hid hf'
        have HB' := Lib.hid hb1
        have hsz := HBW.out.size
        have hrr := heap_setCell_same (heap_setCell_same (heap_setCell_same e2 (i := 0) (.int .i64 (mvN B s m).K)) (i := 1) (.slice a' (mvN B s m).Oil.length c')) (i := 2) (.int .i64 (mvN B s m).Away)
        rw [set3] at hrr
        have HRR := Lib.hid hrr
        clear hrr e2 hi' hf' hb1 r0 r1 r2 z0 z1 z2
        go_wp2
        have c0 := cell_of_heap HRR.out 0
        have c1 := cell_of_heap HRR.out 1
        have c2 := cell_of_heap HRR.out 2
        simp at c0 c1 c2
        refine bodyPost_ret (v := .tuple #[.agg #[.int .i64 (mvN B s m).K, .slice a' (mvN B s m).Oil.length c', .int .i64 (mvN B s m).Away], .int .i64 0]) (by simp [results, Try.results20, go_sem, c0, c1, c2]) rfl ?_
        rw [HE.out, HS2.out]
        refine ⟨_, rfl, ⟨a', c', rfl, ?_, hn', ?_⟩, ?_⟩
        · exact IntsAt.setCell (IntsAt.setCell (IntsAt.setCell HI'.out hne.out _) hne.out _) hne.out _
        · intro a ha; have := HF'.out a ha; omega
        · exact (((HBW.out.trans (HB'.out.mono hsz)).setCell (by simp; omega) _).setCell (by simp; omega) _).setCell (by simp; omega) _
  · rw [h0]
    have HZ := zeroend 20 (by unfold aftE; rw [if_pos (by rw [h0]; decide), h0]) (by decide)
    clear zeroend h0
    go_wp2
    refine bodyPost_ret (v := .tuple #[.agg #[.int .i64 0, .slice none 0 0, .int .i64 0], .int .i64 20]) (by simp [results, Try.results20, go_sem, r0, r1, r2]) rfl HZ.out
  · rw [h0]
    have HZ := zeroend 21 (by unfold aftE; rw [if_pos (by rw [h0]; decide), h0]) (by decide)
    clear zeroend h0
    go_wp2
    refine bodyPost_ret (v := .tuple #[.agg #[.int .i64 0, .slice none 0 0, .int .i64 0], .int .i64 21]) (by simp [results, Try.results20, go_sem, r0, r1, r2]) rfl HZ.out
end Go.Proofs.Ytnafllhgjidbkaa
