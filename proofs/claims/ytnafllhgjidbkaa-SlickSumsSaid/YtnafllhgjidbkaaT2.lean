import Derived.Test.YtnafllhgjidbkaaLib
namespace Go.Proofs.Ytnafllhgjidbkaa
open Go.RowKit

def betwB (a b c : Int) : Bool := decide (a ≤ b ∧ b ≤ c)

theorem between_any (a b c : Int) (w : World) :
    Calls Try.prog 60 #[.int .i64 a, .int .i64 b, .int .i64 c] w fun e w' => e = .returned (.bool (betwB a b c)) ∧ w = w' := by
  go_enter Try.func60, Try.ntmps60
  go_wp2
  all_goals go_ret
  all_goals exact ⟨ret_bool (by simp [betwB]; try omega), rfl⟩
theorem between_yes (a b c : Int) (w : World) (h1 : a ≤ b) (h2 : b ≤ c) :
    Calls Try.prog 60 #[.int .i64 a, .int .i64 b, .int .i64 c] w fun e w' => e = .returned (.bool true) ∧ w = w' :=
  (between_any a b c w).mono fun e w' h => ⟨by rw [h.1]; simp [betwB, h1, h2], h.2⟩
theorem between_no (a b c : Int) (w : World) (h : ¬ (a ≤ b ∧ b ≤ c)) :
    Calls Try.prog 60 #[.int .i64 a, .int .i64 b, .int .i64 c] w fun e w' => e = .returned (.bool false) ∧ w = w' :=
  (between_any a b c w).mono fun e w' h' => ⟨by rw [h'.1]; simp [betwB, h], h'.2⟩

structure Bay where
  W : Int
  H : Int
  Land : List Bool
  Share : List Five

/-- A bay's value reads as a bay. -/
def BayAt (w : World) (v : Value) (B : Bay) : Prop :=
  ∃ la lc sa sc, v = .agg #[.int .i64 B.W, .int .i64 B.H, .slice la B.Land.length lc, .slice sa B.Share.length sc] ∧
    BoolsAt w la B.Land ∧ FivesAt w sa B.Share ∧ B.Land.length ≤ 100 ∧ B.Share.length ≤ 100

def Five.sum (x : Five) : Int := x.1 + x.2.1 + x.2.2.1 + x.2.2.2.1 + x.2.2.2.2
def inR (n : Int) : Prop := 0 ≤ n ∧ n ≤ 16
def Five.ok (x : Five) : Prop := inR x.1 ∧ inR x.2.1 ∧ inR x.2.2.1 ∧ inR x.2.2.2.1 ∧ inR x.2.2.2.2
def rowOk (land : Bool) (x : Five) : Prop := x.ok ∧ x.sum = if land then 0 else 16
def validP (B : Bay) : Prop := (1 ≤ B.W ∧ B.W ≤ 6) ∧ (1 ≤ B.H ∧ B.H ≤ 6) ∧ (B.Land.length : Int) = B.W * B.H ∧ (B.Share.length : Int) = B.W * B.H ∧
  ∀ i, i < B.Share.length → rowOk (B.Land.getD i false) (B.Share.getD i (0,0,0,0,0))
open Classical in
noncomputable def validB (B : Bay) : Bool := decide (validP B)
theorem validB_true {B : Bay} (h : validP B) : validB B = true := by simp [validB, h]
theorem validB_false {B : Bay} (h : ¬ validP B) : validB B = false := by simp [validB, h]


theorem mul36 {a b : Int} (h1 : 1 ≤ a) (h2 : a ≤ 6) (h3 : 1 ≤ b) (h4 : b ≤ 6) : 1 ≤ a * b ∧ a * b ≤ 36 := by
  have : a = 1 ∨ a = 2 ∨ a = 3 ∨ a = 4 ∨ a = 5 ∨ a = 6 := by omega
  rcases this with rfl | rfl | rfl | rfl | rfl | rfl <;> omega

set_option maxHeartbeats 400000 in
theorem valid_any (v : Value) (B : Bay) (w : World) (hv : BayAt w v B) :
    Calls Try.prog 35 #[v] w fun e w' => e = .returned (.bool (validB B)) ∧ Below w.heap.size w w' := by
  obtain ⟨la, lc, sa, sc, rfl, hl, hs, hll, hsl⟩ := hv
  by_cases hW : betwB 1 B.W 6 = true
  by_cases hH : betwB 1 B.H 6 = true
  · have hW' : 1 ≤ B.W ∧ B.W ≤ 6 := by simpa [betwB] using hW
    have hH' : 1 ≤ B.H ∧ B.H ≤ 6 := by simpa [betwB] using hH
    obtain ⟨hp1, hp2⟩ := mul36 hW'.1 hW'.2 hH'.1 hH'.2
    have hwr : wrap64 (B.W * B.H) = B.W * B.H := IntWalk.wrap64_in _ ⟨by omega, by omega⟩
    by_cases hn1 : (B.Land.length : Int) = B.W * B.H
    by_cases hn2 : (B.Share.length : Int) = B.W * B.H
    · have hb2 : ((B.Share.length : Int) != B.W * B.H) = false := by simp [hn2]
      have hb1 : ((B.Land.length : Int) != B.W * B.H) = false := by simp [hn1]
      have hlen : B.Land.length = B.Share.length := by omega
      have HL := Lib.hid hlen
      have HP := Lib.hid hn2
      clear hn1 hn2 hlen hwr
      go_enter Try.func35, Try.ntmps35
      go_wp2_with (first | (go_at_call 60; refine (between_any _ _ _ _).mono ?_; rintro e w' ⟨rfl, rfl⟩))
      generalize hW1 : w.alloc (Obj.cells #[Value.int IntKind.i64 B.W, Value.int IntKind.i64 B.H, Value.slice la B.Land.length lc, Value.slice sa B.Share.length sc] 25) = W1
      have hbx : ∀ j, j < 4 → W1.cell? ⟨w.heap.size, j, none⟩ = some ([Value.int IntKind.i64 B.W, Value.int IntKind.i64 B.H, Value.slice la B.Land.length lc, Value.slice sa B.Share.length sc].getD j undef) := by
        intro j hj; rw [← hW1]
        have : j = 0 ∨ j = 1 ∨ j = 2 ∨ j = 3 := by omega
        rcases this with rfl | rfl | rfl | rfl <;> simp [go_sem]
      have hB1 : Below w.heap.size w W1 := by rw [← hW1]; exact (Below.refl _ _).alloc (Nat.le_refl _) _
      have hsz : W1.heap.size = w.heap.size + 1 := by rw [← hW1]; simp
      have hl1 := hl.below (Nat.le_refl _) hB1
      have hs1 := hs.below (Nat.le_refl _) hB1
      clear hW1 hl hs
      go_loopw [43] (fun c wr => ∃ k : Nat, k ≤ B.Share.length ∧ c = .int .i64 k ∧ (∀ i, i < k → rowOk (B.Land.getD i false) (B.Share.getD i (0,0,0,0,0))) ∧ Below W1.heap.size W1 wr) (fun c _ => B.Share.length - (intOf c).toNat)
      case atStart => exact ⟨0, Nat.zero_le _, rfl, by intro i hi; omega, Below.refl _ _⟩
      case round =>
        obtain ⟨k, hk, rfl, hok, hbel⟩ := hrel
        by_cases hlt : k < B.Share.length
        · obtain ⟨bs, os, x0, x1, x2, x3, x4, rfl, hbs, HX, hx0, hx1, hx2, hx3, hx4⟩ := (hs1.below (Nat.le_refl _) hbel).get5 hlt
          obtain ⟨bl, ol, rfl, hbl, hcl⟩ := (hl1.below (Nat.le_refl _) hbel).get (show k < B.Land.length by have := HL.out; omega)
          have hb0 := (hbel.cell (p := ⟨w.heap.size, 2, none⟩) (by show w.heap.size < _; omega)).trans (hbx 2 (by omega))
          have hbs0 : w.heap.size < wr.heap.size := by have := hbel.size; omega
          have hkl : (k : Int) < B.Land.length := by have := HL.out; omega
          generalize hland : B.Land.getD k false = land at hcl
          have HLd := Lib.hid hland
          have HOK := Lib.hid hok
          clear hland hs1 hl1 hok hbx
          go_wp2
          go_loop [5, 49] (fun s c => ∃ j : Nat, j ≤ 5 ∧ c = .int .i64 j ∧ (∀ i, i < j → inR ([x0, x1, x2, x3, x4].getD i 0)) ∧ s = .int .i64 (([x0, x1, x2, x3, x4].take j).sum) ∧ 0 ≤ ([x0, x1, x2, x3, x4].take j).sum ∧ ([x0, x1, x2, x3, x4].take j).sum ≤ 16 * j) (fun _ c => 5 - (intOf c).toNat)
          case atStart => exact ⟨0, by omega, rfl, by intro i hi; omega, rfl, by simp, by simp⟩
          case round =>
            obtain ⟨j, hj, rfl, hin, rfl, hs0, hs16⟩ := hrel
            by_cases hlj : j < 5
            · generalize hy : [x0, x1, x2, x3, x4].getD j 0 = y
              have hix := index5 x0 x1 x2 x3 x4 j hlj y hy
              have hts : ([x0, x1, x2, x3, x4].take (j + 1)).sum = ([x0, x1, x2, x3, x4].take j).sum + y := by
                have : j = 0 ∨ j = 1 ∨ j = 2 ∨ j = 3 ∨ j = 4 := by omega
                rcases this with rfl | rfl | rfl | rfl | rfl <;> subst hy <;> simp <;> omega
              generalize ([x0, x1, x2, x3, x4].take j).sum = s at hs0 hs16 hts
              have HY := Lib.hid hy
              have HT := Lib.hid hts
              have HIN := Lib.hid hin
              clear hy hts hin
              by_cases hyb : betwB 0 y 16 = true
              · have hyr : 0 ≤ y ∧ y ≤ 16 := by simpa [betwB] using hyb
                go_wp2_with (first | (go_at_call 60; refine (between_any _ _ _ _).mono ?_; rintro e w' ⟨rfl, rfl⟩))
                go_round
                case rel =>
                  refine ⟨j + 1, by omega, by go_num, ?_, by rw [HT.out], by rw [HT.out]; omega, by rw [HT.out]; omega⟩
                  intro i hi
                  by_cases hij : i = j
                  · subst hij; rw [HY.out]; exact hyr
                  · exact HIN.out i (by omega)
                case measure => simp [intOf]; omega
              · have hyb' : betwB 0 y 16 = false := by simpa using hyb
                have hno : ¬ validP B := by
                  intro hv
                  have h5 := (hv.2.2.2.2 k hlt).1
                  rw [HX.out] at h5
                  have : inR y := by
                    have h6 : j = 0 ∨ j = 1 ∨ j = 2 ∨ j = 3 ∨ j = 4 := by omega
                    have := HY.out
                    rcases h6 with rfl | rfl | rfl | rfl | rfl <;> subst this
                    · exact h5.1
                    · exact h5.2.1
                    · exact h5.2.2.1
                    · exact h5.2.2.2.1
                    · exact h5.2.2.2.2
                  simp [betwB] at hyb'
                  have := this.2; have := this
                  unfold inR at *; omega
                have hvf := Lib.hid (validB_false hno)
                clear hyb
                go_wp2_with (first | (go_at_call 60; refine (between_any _ _ _ _).mono ?_; rintro e w' ⟨rfl, rfl⟩))
                go_ret
                exact ⟨ret_bool hvf.out.symm, (hB1.trans (hbel.mono (by omega))).trans ((Below.refl _ _).alloc (by omega) _)⟩
            · obtain rfl : j = 5 := by omega
              have hsum : ([x0, x1, x2, x3, x4].take 5).sum = x0 + x1 + x2 + x3 + x4 := by simp; omega
              rw [hsum] at hs0 hs16
              have h5 : Five.ok (x0, x1, x2, x3, x4) := ⟨hin 0 (by omega), hin 1 (by omega), hin 2 (by omega), hin 3 (by omega), hin 4 (by omega)⟩
              have H5 := Lib.hid h5
              rw [hsum]
              clear hin hsum h5
              generalize hS : x0 + x1 + x2 + x3 + x4 = S at hs0 hs16
              have HS := Lib.hid hS
              clear hS
              have hrow : Hid (rowOk land (x0, x1, x2, x3, x4) ↔ S = if land then 0 else 16) := ⟨fun h => HS.out ▸ h.2, fun h => ⟨H5.out, HS.out.trans h⟩⟩
              by_cases hgood : S = if land then 0 else 16
              · have hr : Hid (rowOk (B.Land.getD k false) (B.Share.getD k (0,0,0,0,0))) := by rw [HX.out, HLd.out]; exact hrow.out.2 hgood
                cases land
                · obtain rfl : S = 16 := hgood
                  go_wp2
                  go_roundw
                  case rel =>
                    refine ⟨k + 1, by omega, by go_num, ?_, hbel.trans ((Below.refl _ _).alloc (by have := hbel.size; omega) _)⟩
                    intro i hi
                    by_cases hik : i = k
                    · subst hik; exact hr.out
                    · exact HOK.out i (by omega)
                  case measure => simp [intOf]; omega
                · obtain rfl : S = 0 := hgood
                  go_wp2
                  go_roundw
                  case rel =>
                    refine ⟨k + 1, by omega, by go_num, ?_, hbel.trans ((Below.refl _ _).alloc (by have := hbel.size; omega) _)⟩
                    intro i hi
                    by_cases hik : i = k
                    · subst hik; exact hr.out
                    · exact HOK.out i (by omega)
                  case measure => simp [intOf]; omega
              · have hno : ¬ validP B := by
                  intro hv
                  have := hv.2.2.2.2 k hlt
                  rw [HX.out, HLd.out] at this
                  exact hgood (hrow.out.1 this)
                have hvf := Lib.hid (validB_false hno)
                clear hrow
                cases land
                · have hs1 : ((S : Int) != 16) = true := by simpa using hgood
                  go_wp2
                  go_ret
                  exact ⟨ret_bool hvf.out.symm, (hB1.trans (hbel.mono (by omega))).trans ((Below.refl _ _).alloc (by omega) _)⟩
                · have hs1 : ((S : Int) != 0) = true := by simpa using hgood
                  go_wp2
                  go_ret
                  exact ⟨ret_bool hvf.out.symm, (hB1.trans (hbel.mono (by omega))).trans ((Below.refl _ _).alloc (by omega) _)⟩
        · obtain rfl : k = B.Share.length := by omega
          have hyes := Lib.hid (validB_true (B := B) ⟨hW', hH', by have := HL.out; have := HP.out; omega, HP.out, hok⟩)
          clear hok
          go_wp2
          go_ret
          exact ⟨ret_bool hyes.out.symm, hB1.trans (hbel.mono (by omega))⟩
    · have hvf := Lib.hid (validB_false (B := B) (fun h => hn2 h.2.2.2.1))
      have hb2 : ((B.Share.length : Int) != B.W * B.H) = true := by simpa using hn2
      have hb1 : ((B.Land.length : Int) != B.W * B.H) = false := by simp [hn1]
      clear hn1 hn2
      go_enter Try.func35, Try.ntmps35
      go_wp2_with (first | (go_at_call 60; refine (between_any _ _ _ _).mono ?_; rintro e w' ⟨rfl, rfl⟩))
      go_ret
      exact ⟨ret_bool hvf.out.symm, (Below.refl _ _).alloc (Nat.le_refl _) _⟩
    · have hvf := Lib.hid (validB_false (B := B) (fun h => hn1 h.2.2.1))
      have hb1 : ((B.Land.length : Int) != B.W * B.H) = true := by simpa using hn1
      clear hn1
      go_enter Try.func35, Try.ntmps35
      go_wp2_with (first | (go_at_call 60; refine (between_any _ _ _ _).mono ?_; rintro e w' ⟨rfl, rfl⟩))
      go_ret
      exact ⟨ret_bool hvf.out.symm, (Below.refl _ _).alloc (Nat.le_refl _) _⟩
  · have hvf := Lib.hid (validB_false (B := B) (fun h => hH (by simp [betwB]; exact h.2.1)))
    have hH' : betwB 1 B.H 6 = false := by simpa using hH
    clear hH
    go_enter Try.func35, Try.ntmps35
    go_wp2_with (first | (go_at_call 60; refine (between_any _ _ _ _).mono ?_; rintro e w' ⟨rfl, rfl⟩))
    go_ret
    exact ⟨ret_bool hvf.out.symm, (Below.refl _ _).alloc (Nat.le_refl _) _⟩
  · have hvf := Lib.hid (validB_false (B := B) (fun h => hW (by simp [betwB]; exact h.1)))
    have hW' : betwB 1 B.W 6 = false := by simpa using hW
    clear hW
    go_enter Try.func35, Try.ntmps35
    go_wp2_with (first | (go_at_call 60; refine (between_any _ _ _ _).mono ?_; rintro e w' ⟨rfl, rfl⟩))
    go_ret
    exact ⟨ret_bool hvf.out.symm, (Below.refl _ _).alloc (Nat.le_refl _) _⟩
end Go.Proofs.Ytnafllhgjidbkaa
