import Derived.Test.YtnafllhgjidbkaaT4
namespace Go.Proofs.Ytnafllhgjidbkaa
open Go.RowKit

/-- A variable that holds a bay, in a block of its own. -/
def BoxB (w : World) (b : Nat) (v : Value) : Prop :=
  b < w.heap.size ∧ ∃ v0 v1 v2 v3, v = .agg #[v0, v1, v2, v3] ∧ w.cell? ⟨b, 0, none⟩ = some v0 ∧ w.cell? ⟨b, 1, none⟩ = some v1 ∧ w.cell? ⟨b, 2, none⟩ = some v2 ∧ w.cell? ⟨b, 3, none⟩ = some v3
theorem BoxB.below {w w' : World} {b : Nat} {v : Value} (h : BoxB w b v) {B : Nat} (hB : w.heap.size ≤ B) (hb : Below B w w') : BoxB w' b v := by
  obtain ⟨hlt, v0, v1, v2, v3, e, h0, h1, h2, h3⟩ := h
  have hh : ∀ o, w'.cell? ⟨b, o, none⟩ = w.cell? ⟨b, o, none⟩ := fun o => hb.cell (p := ⟨b, o, none⟩) (by show b < B; omega)
  exact ⟨Nat.lt_of_lt_of_le hlt hb.size, v0, v1, v2, v3, e, by rw [hh]; exact h0, by rw [hh]; exact h1, by rw [hh]; exact h2, by rw [hh]; exact h3⟩

def SlksAt (w : World) (ao : Option Addr) (ss : List Slk) : Prop :=
  ∀ k, k < ss.length → ∃ b off ai c, ao = some ⟨b, off, none⟩ ∧ b < w.heap.size ∧ w.cell? ⟨b, off + k * 3, none⟩ = some (.int .i64 (ss.getD k ⟨0, [], 0⟩).K) ∧
    w.cell? ⟨b, off + k * 3 + 1, none⟩ = some (.slice ai (ss.getD k ⟨0, [], 0⟩).Oil.length c) ∧ w.cell? ⟨b, off + k * 3 + 2, none⟩ = some (.int .i64 (ss.getD k ⟨0, [], 0⟩).Away) ∧
    IntsAt w ai (ss.getD k ⟨0, [], 0⟩).Oil ∧ (ss.getD k ⟨0, [], 0⟩).Oil.length < 1152921504606846976
theorem SlksAt.below {w w' : World} {ao : Option Addr} {ss : List Slk} (h : SlksAt w ao ss) {B : Nat} (hB : w.heap.size ≤ B) (hb : Below B w w') : SlksAt w' ao ss := by
  intro k hk
  obtain ⟨b, off, ai, c, e, hlt, h0, h1, h2, hi, hn⟩ := h k hk
  have hh : ∀ o, w'.cell? ⟨b, o, none⟩ = w.cell? ⟨b, o, none⟩ := fun o => hb.cell (p := ⟨b, o, none⟩) (by show b < B; omega)
  exact ⟨b, off, ai, c, e, Nat.lt_of_lt_of_le hlt hb.size, by rw [hh]; exact h0, by rw [hh]; exact h1, by rw [hh]; exact h2, hi.below hB hb, hn⟩

theorem asked1_any (sv v : Value) (bb : Nat) (B : Bay) (s : Slk) (w : World) (hb : BoxB w bb v) (hv : BayAt w v B) (hs : SlkAt w sv s) (hval : validP B) :
    Calls Try.prog 86 #[sv, .pointer (some ⟨bb, 0, none⟩)] w fun e w' => e = .returned (.bool (!fitsB B s)) ∧ Below w.heap.size w w' := by
  obtain ⟨hlt, v0, v1, v2, v3, rfl, h0, h1, h2, h3⟩ := hb
  have hs0 := hs
  obtain ⟨ao, c, rfl, hi, hn⟩ := hs
  have hal : ∀ o, Below w.heap.size w (w.alloc o) := fun o => (Below.refl _ _).alloc (Nat.le_refl _) _
  have hv' := fun o => hv.below (Nat.le_refl _) (hal o)
  have hs' := fun o => hs0.below (Nat.le_refl _) (hal o)
  have hf := fun o => fits_any _ _ B s (w.alloc o) (hv' o) (hs' o) hval
  clear hv hs0 hi hval hv' hs'
  go_enter Try.func86, Try.ntmps86
  go_wp2_with (first | (go_at_call 72; refine (hf _).mono ?_; rintro e w' ⟨rfl, hb1⟩))
  go_ret
  exact ⟨rfl, (hal _).trans (hb1.mono (by simp))⟩

theorem indexSlks_yes (v : Value) (bb : Nat) (B : Bay) (ao : Option Addr) (c : Nat) (ss : List Slk) (w : World) (hss : SlksAt w ao ss) (hb : BoxB w bb v) (hv : BayAt w v B) (hval : validP B) (hn : ss.length ≤ 10)
    (hok : ∀ k, k < ss.length → fitsB B (ss.getD k ⟨0, [], 0⟩) = true) :
    Calls Try.prog 95 #[.slice ao ss.length c, .func (.func 86) #[] #[.pointer (some ⟨bb, 0, none⟩)]] w fun e w' => e = .returned (.int .i64 (-1)) ∧ Below w.heap.size w w' := by
  have HOK := Lib.hid hok
  clear hok
  go_enter Try.func95, Try.ntmps95
  go_wp2
  go_loopw [8] (fun i wr => ∃ k : Nat, k ≤ ss.length ∧ i = .int .i64 k ∧ Below w.heap.size w wr) (fun i _ => ss.length - (intOf i).toNat)
  case atStart => exact ⟨0, Nat.zero_le _, rfl, Below.refl _ _⟩
  case round =>
    obtain ⟨k, hk, rfl, hbel⟩ := hrel
    by_cases hlt : k < ss.length
    · obtain ⟨bs, os, ai, ci, rfl, hbs, h0, h1, h2, hi, hni⟩ := (hss.below (Nat.le_refl _) hbel) k hlt
      have ho := HOK.out k hlt
      have hcall := asked1_any (.agg #[.int .i64 (ss.getD k ⟨0, [], 0⟩).K, .slice ai (ss.getD k ⟨0, [], 0⟩).Oil.length ci, .int .i64 (ss.getD k ⟨0, [], 0⟩).Away]) v bb B _ wr (hb.below (Nat.le_refl _) hbel) (hv.below (Nat.le_refl _) hbel) ⟨ai, ci, rfl, hi, hni⟩ hval
      rw [ho] at hcall
      have HC := Lib.hid hcall
      generalize ss.getD k ⟨0, [], 0⟩ = s at h0 h1 h2 HC
      clear hi hni ho hcall
      go_wp2_with (first | (go_at_call 86; refine (HC.out).mono ?_; rintro e w1 ⟨rfl, hb1⟩))
      go_roundw
      case rel => exact ⟨k + 1, by omega, by go_num, hbel.trans (hb1.mono hbel.size)⟩
      case measure => simp [intOf]; omega
    · go_wp2
      go_ret
      exact ⟨rfl, hbel⟩
theorem indexSlks_no (v : Value) (bb : Nat) (B : Bay) (ao : Option Addr) (c : Nat) (ss : List Slk) (w : World) (hss : SlksAt w ao ss) (hb : BoxB w bb v) (hv : BayAt w v B) (hval : validP B) (hn : ss.length ≤ 10)
    (hno : ¬ ∀ k, k < ss.length → fitsB B (ss.getD k ⟨0, [], 0⟩) = true) :
    Calls Try.prog 95 #[.slice ao ss.length c, .func (.func 86) #[] #[.pointer (some ⟨bb, 0, none⟩)]] w fun e w' => (∃ r : Nat, e = .returned (.int .i64 r)) ∧ Below w.heap.size w w' := by
  have HNO := Lib.hid hno
  clear hno
  go_enter Try.func95, Try.ntmps95
  go_wp2
  go_loopw [8] (fun i wr => ∃ k : Nat, k ≤ ss.length ∧ i = .int .i64 k ∧ Below w.heap.size w wr ∧ ∀ j, j < k → fitsB B (ss.getD j ⟨0, [], 0⟩) = true) (fun i _ => ss.length - (intOf i).toNat)
  case atStart => exact ⟨0, Nat.zero_le _, rfl, Below.refl _ _, by intro j hj; omega⟩
  case round =>
    obtain ⟨k, hk, rfl, hbel, hall⟩ := hrel
    have HALL := Lib.hid hall
    clear hall
    by_cases hlt : k < ss.length
    · obtain ⟨bs, os, ai, ci, rfl, hbs, h0, h1, h2, hi, hni⟩ := (hss.below (Nat.le_refl _) hbel) k hlt
      have hcall := asked1_any (.agg #[.int .i64 (ss.getD k ⟨0, [], 0⟩).K, .slice ai (ss.getD k ⟨0, [], 0⟩).Oil.length ci, .int .i64 (ss.getD k ⟨0, [], 0⟩).Away]) v bb B _ wr (hb.below (Nat.le_refl _) hbel) (hv.below (Nat.le_refl _) hbel) ⟨ai, ci, rfl, hi, hni⟩ hval
      have HC := Lib.hid hcall
      generalize hx : ss.getD k ⟨0, [], 0⟩ = s at h0 h1 h2 HC
      have HX := Lib.hid hx
      clear hi hni hcall hx
      cases ho : fitsB B s
      · rw [ho] at HC
        go_wp2_with (first | (go_at_call 86; refine (HC.out).mono ?_; rintro e w1 ⟨rfl, hb1⟩))
        go_ret
        exact ⟨⟨k, rfl⟩, hbel.trans (hb1.mono hbel.size)⟩
      · rw [ho] at HC
        go_wp2_with (first | (go_at_call 86; refine (HC.out).mono ?_; rintro e w1 ⟨rfl, hb1⟩))
        go_roundw
        case rel =>
          refine ⟨k + 1, by omega, by go_num, hbel.trans (hb1.mono hbel.size), ?_⟩
          intro j hj
          by_cases hjk : j = k
          · subst hjk; rw [HX.out]; exact ho
          · exact HALL.out j (by omega)
        case measure => simp [intOf]; omega
    · exact absurd (fun j hj => HALL.out j (by omega)) HNO.out

def allFit (B : Bay) (ss : List Slk) : Prop := ∀ k, k < ss.length → fitsB B (ss.getD k ⟨0, [], 0⟩) = true
open Classical in
noncomputable def allFitB (B : Bay) (ss : List Slk) : Bool := decide (allFit B ss)

theorem containsSlks_any (v : Value) (bb : Nat) (B : Bay) (ao : Option Addr) (c : Nat) (ss : List Slk) (w : World) (hss : SlksAt w ao ss) (hb : BoxB w bb v) (hv : BayAt w v B) (hval : validP B) (hn : ss.length ≤ 10) :
    Calls Try.prog 85 #[.slice ao ss.length c, .func (.func 86) #[] #[.pointer (some ⟨bb, 0, none⟩)]] w fun e w' => e = .returned (.bool (!allFitB B ss)) ∧ Below w.heap.size w w' := by
  by_cases hok : allFit B ss
  · have HF : Hid (allFitB B ss = true) := by simp [Hid, allFitB, hok]
    have HC := Lib.hid (indexSlks_yes v bb B ao c ss w hss hb hv hval hn hok)
    clear hss hb hv hval hn hok
    go_enter Try.func85, Try.ntmps85
    go_wp2_with (first | (go_at_call 95; refine (HC.out).mono ?_; rintro e w1 ⟨rfl, hb1⟩))
    go_ret
    exact ⟨ret_bool (by rw [HF.out]; rfl), hb1⟩
  · have HF : Hid (allFitB B ss = false) := by simp [Hid, allFitB, hok]
    have HC := Lib.hid (indexSlks_no v bb B ao c ss w hss hb hv hval hn hok)
    clear hss hb hv hval hn hok
    go_enter Try.func85, Try.ntmps85
    go_wp2_with (first | (go_at_call 95; refine (HC.out).mono ?_; rintro e w1 ⟨⟨r, rfl⟩, hb1⟩))
    go_ret
    exact ⟨ret_bool (by rw [HF.out]; simp), hb1⟩

noncomputable def askE (B : Bay) (ss : List Slk) : Int := if validB B = true then (if allFitB B ss = true then 0 else 21) else 20

theorem asked_any (v : Value) (B : Bay) (ao : Option Addr) (c : Nat) (ss : List Slk) (w : World) (hss : SlksAt w ao ss) (hv : BayAt w v B) (hn : ss.length ≤ 10) :
    Calls Try.prog 59 #[v, .slice ao ss.length c] w fun e w' => e = .returned (.int .i64 (askE B ss)) ∧ Below w.heap.size w w' := by
  have hv0 := hv
  obtain ⟨la, lc, sa, sc, rfl, hl, hs, hll, hsl⟩ := hv0
  have hal : ∀ o, Below w.heap.size w (w.alloc o) := fun o => (Below.refl _ _).alloc (Nat.le_refl _) _
  have HV : Hid (∀ o, BayAt (w.alloc o) _ B) := fun o => hv.below (Nat.le_refl _) (hal o)
  have HB : Hid (BoxB (w.alloc (.cells #[.int .i64 B.W, .int .i64 B.H, .slice la B.Land.length lc, .slice sa B.Share.length sc] 25)) w.heap.size (.agg #[.int .i64 B.W, .int .i64 B.H, .slice la B.Land.length lc, .slice sa B.Share.length sc])) :=
    ⟨by simp, _, _, _, _, rfl, by simp [go_sem], by simp [go_sem], by simp [go_sem], by simp [go_sem]⟩
  have HSS : Hid (∀ o, SlksAt (w.alloc o) ao ss) := fun o => hss.below (Nat.le_refl _) (hal o)
  clear hv hl hs hss
  by_cases hval : validP B
  · have HVB := Lib.hid (validB_true hval)
    cases hok : allFitB B ss
    · have HE : Hid (askE B ss = 21) := by simp [Hid, askE, HVB.out, hok]
      go_enter Try.func59, Try.ntmps59
      go_wp2_with fail
      refine (valid_any _ B _ (HV.out _)).mono ?_
      rintro e w1 ⟨rfl, hb1⟩
      rw [HVB.out]
      obtain ⟨hc1, hf1⟩ := bcell hb1
      have HC := Lib.hid (containsSlks_any _ w.heap.size B ao c ss w1 (HSS.out _ |>.below (Nat.le_refl _) hb1) (HB.out.below (Nat.le_refl _) hb1) ((HV.out _).below (Nat.le_refl _) hb1) hval hn)
      rw [hok] at HC
      go_wp2_with (first | (go_at_call 85; refine (HC.out).mono ?_; rintro e w2 ⟨rfl, hb2⟩))
      go_ret
      exact ⟨ret_int HE.out.symm, (hal _).trans ((hb1.trans (hb2.mono hb1.size)).mono (by simp))⟩
    · have HE : Hid (askE B ss = 0) := by simp [Hid, askE, HVB.out, hok]
      go_enter Try.func59, Try.ntmps59
      go_wp2_with fail
      refine (valid_any _ B _ (HV.out _)).mono ?_
      rintro e w1 ⟨rfl, hb1⟩
      rw [HVB.out]
      obtain ⟨hc1, hf1⟩ := bcell hb1
      have HC := Lib.hid (containsSlks_any _ w.heap.size B ao c ss w1 (HSS.out _ |>.below (Nat.le_refl _) hb1) (HB.out.below (Nat.le_refl _) hb1) ((HV.out _).below (Nat.le_refl _) hb1) hval hn)
      rw [hok] at HC
      go_wp2_with (first | (go_at_call 85; refine (HC.out).mono ?_; rintro e w2 ⟨rfl, hb2⟩))
      go_ret
      exact ⟨ret_int HE.out.symm, (hal _).trans ((hb1.trans (hb2.mono hb1.size)).mono (by simp))⟩
  · have HVB := Lib.hid (validB_false hval)
    have HE : Hid (askE B ss = 20) := by simp [Hid, askE, HVB.out]
    clear hval
    go_enter Try.func59, Try.ntmps59
    go_wp2_with fail
    refine (valid_any _ B _ (HV.out _)).mono ?_
    rintro e w1 ⟨rfl, hb1⟩
    rw [HVB.out]
    go_wp2
    go_ret
    exact ⟨ret_int HE.out.symm, (hal _).trans (hb1.mono (by simp))⟩
end Go.Proofs.Ytnafllhgjidbkaa
