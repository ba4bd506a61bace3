import Derived.Test.YtnafllhgjidbkaaT6
import Derived.Test.YtnafllhgjidbkaaT12
namespace Go.Proofs.Ytnafllhgjidbkaa
open Go.RowKit
set_option linter.unusedVariables false
set_option linter.unusedSimpArgs false

def upSum (x : Five) (k : Nat) : Int := (([x.1, x.2.1, x.2.2.1, x.2.2.2.1, x.2.2.2.2] : List Int).take k).sum
theorem upSum_succ (x : Five) {k : Nat} (hk : k < 5) : upSum x (k + 1) = upSum x k + x.at k := by
  unfold upSum Five.at; exact take_sum_succ (by simpa using hk)
theorem upSum_5 (x : Five) : upSum x 5 = x.sum := by unfold upSum Five.sum; simp; omega
theorem ok_iff_at (x : Five) : x.ok ↔ ∀ k, k < 5 → inR (x.at k) := by
  constructor
  · intro h k hk
    have h6 : k = 0 ∨ k = 1 ∨ k = 2 ∨ k = 3 ∨ k = 4 := by omega
    rcases h6 with rfl | rfl | rfl | rfl | rfl
    · exact h.1
    · exact h.2.1
    · exact h.2.2.1
    · exact h.2.2.2.1
    · exact h.2.2.2.2
  · intro h; exact ⟨h 0 (by omega), h 1 (by omega), h 2 (by omega), h 3 (by omega), h 4 (by omega)⟩

set_option maxHeartbeats 2000000 in
theorem rvalid_any (v : Value) (B : Bay) (w : World) (hv : BayAt w v B) :
    Calls Try.prog 26 #[v] w fun e w' => e = .returned (.bool (validB B)) ∧ Below w.heap.size w w' := by
  obtain ⟨la, lc, sa, sc, rfl, hl, hs, hll, hsl⟩ := hv
  have hal : ∀ o, Below w.heap.size w (w.alloc o) := fun o => (Below.refl _ _).alloc (Nat.le_refl _) _
  by_cases h1 : B.W < 1
  · have hno := Lib.hid (validB_false (B := B) (fun h => by have := h.1; omega))
    go_enter Try.func26, Try.ntmps26
    go_wp2
    go_ret
    exact ⟨ret_bool hno.out.symm, hal _⟩
  by_cases h2 : 6 < B.W
  · have hno := Lib.hid (validB_false (B := B) (fun h => by have := h.1; omega))
    go_enter Try.func26, Try.ntmps26
    go_wp2
    go_ret
    exact ⟨ret_bool hno.out.symm, hal _⟩
  by_cases h3 : B.H < 1
  · have hno := Lib.hid (validB_false (B := B) (fun h => by have := h.2.1; omega))
    go_enter Try.func26, Try.ntmps26
    go_wp2
    go_ret
    exact ⟨ret_bool hno.out.symm, hal _⟩
  by_cases h4 : 6 < B.H
  · have hno := Lib.hid (validB_false (B := B) (fun h => by have := h.2.1; omega))
    go_enter Try.func26, Try.ntmps26
    go_wp2
    go_ret
    exact ⟨ret_bool hno.out.symm, hal _⟩
  obtain ⟨hp1, hp2⟩ := mul36 (show 1 ≤ B.W by omega) (show B.W ≤ 6 by omega) (show 1 ≤ B.H by omega) (show B.H ≤ 6 by omega)
  by_cases hn1 : (B.Land.length : Int) = B.W * B.H
  case neg =>
    have hno := Lib.hid (validB_false (B := B) (fun h => hn1 h.2.2.1))
    have hb1 : ((B.Land.length : Int) != B.W * B.H) = true := by simpa using hn1
    clear hn1
    go_enter Try.func26, Try.ntmps26
    go_wp2
    go_ret
    exact ⟨ret_bool hno.out.symm, hal _⟩
  have hb1 : ((B.Land.length : Int) != B.W * B.H) = false := by simp [hn1]
  by_cases hn2 : (B.Share.length : Int) = B.W * B.H
  case neg =>
    have hno := Lib.hid (validB_false (B := B) (fun h => hn2 h.2.2.2.1))
    have hb2 : ((B.Share.length : Int) != B.W * B.H) = true := by simpa using hn2
    clear hn1 hn2
    go_enter Try.func26, Try.ntmps26
    go_wp2
    go_ret
    exact ⟨ret_bool hno.out.symm, hal _⟩
  have hb2 : ((B.Share.length : Int) != B.W * B.H) = false := by simp [hn2]
  have HP1 := Lib.hid hn1
  have HP2 := Lib.hid hn2
  have hlen : B.Land.length = B.Share.length := by omega
  have HL := Lib.hid hlen
  clear hn1 hn2 hlen
  go_enter Try.func26, Try.ntmps26
  go_wp2
  go_loop [3] (fun c => ∃ k : Nat, k ≤ B.Land.length ∧ c = .int .i64 k ∧ (∀ i, i < k → rowOk (B.Land.getD i false) (B.Share.getD i (0,0,0,0,0)))) (fun c => B.Land.length - (intOf c).toNat)
  case atStart => exact ⟨0, Nat.zero_le _, rfl, by intro i hi; omega⟩
  case round =>
    obtain ⟨k, hk, rfl, hok⟩ := hrel
    have HOK := Lib.hid hok
    clear hok
    by_cases hlt : k < B.Land.length
    · obtain ⟨bs, os, rfl, hbs, hcs⟩ := hs.get (show k < B.Share.length by have := HL.out; omega)
      obtain ⟨bl, ol, rfl, hbl, hcl⟩ := hl.get hlt
      generalize hx : B.Share.getD k (0,0,0,0,0) = x at hcs
      generalize hland : B.Land.getD k false = land at hcl
      have hks : (k : Int) < B.Share.length := by have := HL.out; omega
      have HX := Lib.hid hx
      have HLd := Lib.hid hland
      have HCS : Hid (∀ j, j < 5 → w.cell? ⟨bs, os + k * 5 + j, none⟩ = some (.int .i64 (x.at j))) := fun j hj => by rw [Nat.add_assoc, hcs j hj, five_at x j hj]
      clear hx hland hcs hl hs
      go_wp2
      go_loop [4, 5] (fun t i => ∃ j : Nat, j ≤ 5 ∧ i = .int .i64 j ∧ t = .int .i64 (upSum x j) ∧ (∀ i, i < j → inR (x.at i)) ∧ 0 ≤ upSum x j ∧ upSum x j ≤ 16 * j) (fun _ i => 5 - (intOf i).toNat)
      case atStart => exact ⟨0, by omega, rfl, by simp [upSum], by intro i hi; omega, by simp [upSum], by simp [upSum]⟩
      case round =>
        obtain ⟨j, hj, rfl, rfl, hin, hs0, hs16⟩ := hrel
        have HIN := Lib.hid hin
        clear hin
        by_cases hlj : j < 5
        · have hcj := HCS.out j hlj
          have hsu := upSum_succ x hlj
          generalize hy : x.at j = y at hcj hsu
          generalize upSum x j = t at hs0 hs16 hsu
          have HY := Lib.hid hy
          have HSU := Lib.hid hsu
          clear hy hsu
          by_cases hy0 : y < 0
          · have hno := Lib.hid (validB_false (B := B) (fun h => by
              have := (ok_iff_at _).1 (h.2.2.2.2 k (by omega)).1 j hlj; rw [HX.out, HY.out] at this; have := this.1; omega))
            go_wp2
            go_ret
            exact ⟨ret_bool hno.out.symm, hal _⟩
          by_cases hy16 : 16 < y
          · have hno := Lib.hid (validB_false (B := B) (fun h => by
              have := (ok_iff_at _).1 (h.2.2.2.2 k (by omega)).1 j hlj; rw [HX.out, HY.out] at this; have := this.2; omega))
            go_wp2
            go_ret
            exact ⟨ret_bool hno.out.symm, hal _⟩
          go_wp2
          go_round
          case rel =>
            refine ⟨j + 1, by omega, by go_num, by rw [HSU.out], ?_, by rw [HSU.out]; omega, by rw [HSU.out]; omega⟩
            intro i hi
            by_cases hij : i = j
            · subst hij; rw [HY.out]; exact ⟨by omega, by omega⟩
            · exact HIN.out i (by omega)
          case measure => simp [intOf]; omega
        · obtain rfl : j = 5 := by omega
          have h5 : x.ok := (ok_iff_at x).2 HIN.out
          rw [upSum_5] at hs0 hs16 ⊢
          have H5 := Lib.hid h5
          clear h5
          generalize hS : x.sum = S at hs0 hs16
          have HS := Lib.hid hS
          clear hS
          have hrow : Hid (rowOk land x ↔ S = if land then 0 else 16) := ⟨fun h => HS.out ▸ h.2, fun h => ⟨H5.out, HS.out.trans h⟩⟩
          by_cases hgood : S = if land then 0 else 16
          · have hr : Hid (rowOk (B.Land.getD k false) (B.Share.getD k (0,0,0,0,0))) := by rw [HX.out, HLd.out]; exact hrow.out.2 hgood
            cases land
            · obtain rfl : S = 16 := hgood
              go_wp2
              go_round
              case rel =>
                refine ⟨k + 1, by omega, by go_num, ?_⟩
                intro i hi
                by_cases hik : i = k
                · subst hik; exact hr.out
                · exact HOK.out i (by omega)
              case measure => simp [intOf]; omega
            · obtain rfl : S = 0 := hgood
              go_wp2
              go_round
              case rel =>
                refine ⟨k + 1, by omega, by go_num, ?_⟩
                intro i hi
                by_cases hik : i = k
                · subst hik; exact hr.out
                · exact HOK.out i (by omega)
              case measure => simp [intOf]; omega
          · have hno : ¬ validP B := by
              intro hv
              have := hv.2.2.2.2 k (by omega)
              rw [HX.out, HLd.out] at this
              exact hgood (hrow.out.1 this)
            have hvf := Lib.hid (validB_false hno)
            clear hrow hno
            cases land
            · have hs1 : ((S : Int) != 16) = true := by simpa using hgood
              go_wp2
              go_ret
              exact ⟨ret_bool hvf.out.symm, hal _⟩
            · have hs1 : ((S : Int) != 0) = true := by simpa using hgood
              go_wp2
              go_ret
              exact ⟨ret_bool hvf.out.symm, hal _⟩
    · obtain rfl : k = B.Land.length := by omega
      have hyes := Lib.hid (validB_true (B := B) ⟨⟨by omega, by omega⟩, ⟨by omega, by omega⟩, HP1.out, HP2.out, fun i hi => HOK.out i (by have := HL.out; omega)⟩)
      go_wp2
      go_ret
      exact ⟨ret_bool hyes.out.symm, hal _⟩
end Go.Proofs.Ytnafllhgjidbkaa
