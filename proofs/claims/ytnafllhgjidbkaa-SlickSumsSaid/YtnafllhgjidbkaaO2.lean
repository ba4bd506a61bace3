/- Two small numbers that came in. -/
import Derived.Test.YtnafllhgjidbkaaO1
namespace Go.Proofs.Ytnafllhgjidbkaa
open Go.ChangeShapes Go.WideShapes Go.ChangeAt Go.RowKit Go.Deep Go.Joins
set_option linter.unusedVariables false
set_option linter.unusedSimpArgs false
section
variable {H : Type} {enc : TypeId × Value → H} {W : World} {sp : Nat → Bool}
theorem u8_bd {n : Int} (h : (Lit.int .u8 n).wf = true) : 0 ≤ n ∧ n ≤ 255 := by
  simp [Lit.wf, IntKind.min, IntKind.max, IntKind.signed, IntKind.bits] at h; omega
theorem i64_bd {n : Int} (h : (Lit.int .i64 n).wf = true) : -9223372036854775808 ≤ n ∧ n ≤ 9223372036854775807 := by
  simp [Lit.wf, IntKind.min, IntKind.max, IntKind.signed, IntKind.bits] at h; omega
set_option maxRecDepth 100000 in
theorem open_two45 {v : Value} {d : DataW H} {p : List MemPlace} {r : Reach} {b0 : Nat} (hv : Value.okWide Try.prog W r b0 45 v) (h : DataW.Trod enc Try.prog W 0 sp true 45 v d p) :
    ∃ a b : Int, v = .agg #[.int .u8 a, .int .u8 b] ∧ (0 ≤ a ∧ a ≤ 255) ∧ 0 ≤ b ∧ b ≤ 255 := by
  simp only [Value.okWide, Try.underlying45] at hv
  obtain ⟨cs, rfl, hsz, _⟩ := hv
  obtain ⟨fuel, hf⟩ := h
  have hc : Try.prog.cellsOf 5 = 1 := by kernel_rfl
  have hc2 : Try.prog.cellsOf 45 = 2 := by kernel_rfl
  rw [hc2] at hsz
  obtain ⟨xs, m, _, _, hl, hxl, hx⟩ := DataW.trod_array Try.underlying45 hf
  rw [hc] at hx
  obtain ⟨l⟩ := cs
  have hl2 : l.length = 2 := by simpa using hsz
  match l, hl2 with
  | [c0, c1], _ =>
    have h0 := hx 0 (by omega)
    have h1 := hx 1 (by omega)
    rw [List.getElem?_eq_getElem (by omega)] at h0 h1
    simp [Value.cells] at h0 h1
    obtain ⟨a, e0, _, w0⟩ := DataW.trod_int Try.underlying5 h0
    obtain ⟨b, e1, _, w1⟩ := DataW.trod_int Try.underlying5 h1
    cases e0
    cases e1
    exact ⟨a, b, rfl, u8_bd w0, u8_bd w1⟩
end
end Go.Proofs.Ytnafllhgjidbkaa
