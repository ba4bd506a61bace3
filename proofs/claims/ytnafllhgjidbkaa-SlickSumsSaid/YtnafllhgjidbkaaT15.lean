import Derived.Test.YtnafllhgjidbkaaT14
namespace Go.Proofs.Ytnafllhgjidbkaa
open Go.RowKit
set_option linter.unusedVariables false
set_option linter.unusedSimpArgs false

def inBay (B : Bay) (x y : Int) : Prop := (0 ≤ x ∧ x < B.W) ∧ 0 ≤ y ∧ y < B.H
instance (B : Bay) (x y : Int) : Decidable (inBay B x y) := by unfold inBay; exact inferInstance
def shV (B : Bay) (x y : Int) (k : Nat) : Int × Nat := if inBay B x y then ((B.Share.getD (y * B.W + x).toNat (0,0,0,0,0)).at k, (y * B.W + x).toNat) else (0, 0)
theorem cell_in {B : Bay} (hval : validP B) {x y : Int} (h : inBay B x y) : 0 ≤ y * B.W ∧ y * B.W ≤ 36 ∧ (y * B.W + x).toNat < B.Share.length ∧ ((y * B.W + x).toNat : Int) = y * B.W + x := by
  obtain ⟨⟨h1, h2⟩, h3, h4⟩ := h
  have hW := hval.1
  have hS := hval.2.2.2.1
  have hp := mul36 hval.1.1 hval.1.2 hval.2.1.1 hval.2.1.2
  have h0 : 0 ≤ y * B.W := Int.mul_nonneg h3 (by omega)
  have h5 : y * B.W ≤ (B.H - 1) * B.W := Int.mul_le_mul_of_nonneg_right (by omega) (by omega)
  rw [Int.sub_mul, Int.mul_comm B.H, Int.one_mul] at h5
  omega

set_option maxHeartbeats 1000000 in
theorem share_any (v : Value) (B : Bay) (x y : Int) (k : Nat) (w : World) (hv : BayAt w v B) (hval : validP B) (hx : -1 ≤ x ∧ x ≤ 6) (hy : -1 ≤ y ∧ y ≤ 6) (hk : k < 5) :
    Calls Try.prog 96 #[v, .int .i64 x, .int .i64 y, .int .i64 k] w fun e w' => e = .returned (.tuple #[.int .i64 (shV B x y k).1, .int .i64 (shV B x y k).2]) ∧ Below w.heap.size w w' := by
  obtain ⟨la, lc, sa, sc, rfl, hl, hs, hll, hsl⟩ := hv
  have hal : ∀ o, Below w.heap.size w (w.alloc o) := fun o => (Below.refl _ _).alloc (Nat.le_refl _) _
  by_cases hin : inBay B x y
  · obtain ⟨h0, h36, hlt, hi⟩ := cell_in hval hin
    have hsv : shV B x y k = ((B.Share.getD (y * B.W + x).toNat (0,0,0,0,0)).at k, (y * B.W + x).toNat) := by unfold shV; rw [if_pos hin]
    generalize hn : (y * B.W + x).toNat = i at hlt hi hsv
    obtain ⟨bs, os, rfl, hbs, hcs⟩ := (hs.below (Nat.le_refl _) (hal (.cells #[.int .i64 B.W, .int .i64 B.H, .slice la B.Land.length lc, .slice sa B.Share.length sc] 25))).get hlt
    have hck := hcs k hk
    rw [five_at _ k hk, ← Nat.add_assoc] at hck
    generalize (B.Share.getD i (0,0,0,0,0)).at k = p at hck hsv
    have HSV := Lib.hid hsv
    obtain ⟨⟨i1, i2⟩, i3, i4⟩ := hin
    have hi' : y * B.W + x = (i : Int) := hi.symm
    have hkk : (k : Int) < 5 := by omega
    clear hs hl hcs hn hi hsv hval
    go_enter Try.func96, Try.ntmps96
    go_wp2
    go_quiet (fail)
    go_wp2
    go_ret2
    exact ⟨by rw [HSV.out]; rfl, (hal _).trans ⟨rfl, rfl, rfl, Nat.le_refl _, fun _ _ => rfl⟩⟩
  · have hsv : shV B x y k = (0, 0) := by unfold shV; rw [if_neg hin]
    have HSV := Lib.hid hsv
    clear hsv hs hl
    by_cases h1 : x < 0
    · clear hval
      go_enter Try.func96, Try.ntmps96
      go_wp2
      go_ret2
      exact ⟨by rw [HSV.out]; rfl, hal _⟩
    by_cases h2 : B.W ≤ x
    · clear hval
      go_enter Try.func96, Try.ntmps96
      go_wp2
      go_ret2
      exact ⟨by rw [HSV.out]; rfl, hal _⟩
    by_cases h3 : y < 0
    · clear hval
      go_enter Try.func96, Try.ntmps96
      go_wp2
      go_ret2
      exact ⟨by rw [HSV.out]; rfl, hal _⟩
    have h4 : B.H ≤ y := by
      refine Classical.byContradiction fun h => hin ⟨⟨by omega, by omega⟩, by omega, by omega⟩
    clear hval hin
    go_enter Try.func96, Try.ntmps96
    go_wp2
    go_ret2
    exact ⟨by rw [HSV.out]; rfl, hal _⟩
end Go.Proofs.Ytnafllhgjidbkaa
