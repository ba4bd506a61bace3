/- How prices, pairs of slicks and lists of numbers that came in read. -/
import Derived.Test.YtnafllhgjidbkaaO2
namespace Go.Proofs.Ytnafllhgjidbkaa
open Go.ChangeShapes Go.WideShapes Go.ChangeAt Go.RowKit Go.Deep Go.Joins
set_option linter.unusedVariables false
set_option linter.unusedSimpArgs false
section
variable {H : Type} {enc : TypeId × Value → H} {W : World} {sp : Nat → Bool}
set_option maxRecDepth 100000 in
theorem open_priced {v : Value} {d : DataW H} {p : List MemPlace} {r : Reach} {b0 : Nat} (hv : Value.okWide Try.prog W r b0 64 v) (h : DataW.Trod enc Try.prog W 0 sp true 64 v d p) :
    ∃ (po : Option Addr) (pc : Nat) (l : List Int) (N : Int), v = .agg #[.slice po l.length pc, .int .i64 N] ∧ IntsAt W po l ∧ -9223372036854775808 ≤ N ∧ N ≤ 9223372036854775807 := by
  obtain ⟨v0, v1, y0, y1, n, rfl, _, _, h0, h1⟩ := open_agg2 Try.underlying64 (by kernel_rfl) (by kernel_rfl) hv h
  obtain ⟨po, pc, l, rfl, hl, hw⟩ := open_ints26 h0
  obtain ⟨k, e0, _, f0⟩ := DataW.trod_int Try.underlying3 h1
  cases e0
  exact ⟨po, pc, l, k, rfl, hl, i64_bd f0⟩
set_option maxRecDepth 100000 in
theorem open_intsv {v : Value} {d : DataW H} {p : List MemPlace} {r : Reach} {b0 : Nat} (hv : Value.okWide Try.prog W r b0 26 v) (h : DataW.Trod enc Try.prog W 0 sp true 26 v d p) :
    ∃ (po : Option Addr) (pc : Nat) (l : List Int), v = .slice po l.length pc ∧ IntsAt W po l := by
  obtain ⟨fuel, hf⟩ := h
  obtain ⟨ao, n, cp, rfl⟩ := okWide_slice Try.underlying26 hv
  simp only [Value.cells] at hf
  obtain ⟨po, pc, l, e, hl, hw⟩ := open_ints26 hf
  exact ⟨po, pc, l, e, hl⟩
set_option maxRecDepth 100000 in
theorem open_pair {v : Value} {d : DataW H} {p : List MemPlace} {r : Reach} {b0 : Nat} (hv : Value.okWide Try.prog W r b0 56 v) (h : DataW.Trod enc Try.prog W 0 sp true 56 v d p) :
    ∃ (s t : Slk) (ao : Option Addr) (c : Nat) (bo : Option Addr) (d : Nat), v = .agg #[.int .i64 s.K, .slice ao s.Oil.length c, .int .i64 s.Away, .int .i64 t.K, .slice bo t.Oil.length d, .int .i64 t.Away] ∧ IntsAt W ao s.Oil ∧ IntsAt W bo t.Oil := by
  simp only [Value.okWide, Try.underlying56] at hv
  obtain ⟨cs, rfl, hsz, _⟩ := hv
  obtain ⟨fuel, hf⟩ := h
  have hc : Try.prog.cellsOf 28 = 3 := by kernel_rfl
  have hc3 : Try.prog.cellsOf 3 = 1 := by kernel_rfl
  have hc26 : Try.prog.cellsOf 26 = 1 := by kernel_rfl
  have hc2 : Try.prog.cellsOf 56 = 6 := by kernel_rfl
  rw [hc2] at hsz
  obtain ⟨xs, m, _, _, hl, hxl, hx⟩ := DataW.trod_array Try.underlying56 hf
  rw [hc] at hx
  obtain ⟨l⟩ := cs
  have hl2 : l.length = 6 := by simpa using hsz
  match l, hl2 with
  | [c0, c1, c2, c3, c4, c5], _ =>
    have h0 := hx 0 (by omega)
    have h1 := hx 1 (by omega)
    rw [List.getElem?_eq_getElem (by omega)] at h0 h1
    simp [Value.cells] at h0 h1
    obtain ⟨a0, a1, a2, n, _, _, g0, g1, g2⟩ := trod_struct3 Try.underlying28 h0
    obtain ⟨b0, b1, b2, n', _, _, k0, k1, k2⟩ := trod_struct3 Try.underlying28 h1
    simp [hc3, hc26] at g0 g1 g2 k0 k1 k2
    obtain ⟨z0, e0, _, _⟩ := DataW.trod_int Try.underlying3 g0
    obtain ⟨z2, e2, _, _⟩ := DataW.trod_int Try.underlying3 g2
    obtain ⟨y0, f0, _, _⟩ := DataW.trod_int Try.underlying3 k0
    obtain ⟨y2, f2, _, _⟩ := DataW.trod_int Try.underlying3 k2
    obtain ⟨ao, c, la, rfl, hla, _⟩ := open_ints26 g1
    obtain ⟨bo, d, lb, rfl, hlb, _⟩ := open_ints26 k1
    cases e0
    cases e2
    cases f0
    cases f2
    exact ⟨⟨z0, la, z2⟩, ⟨y0, lb, y2⟩, ao, c, bo, d, rfl, hla, hlb⟩
end
end Go.Proofs.Ytnafllhgjidbkaa
