/- How what came in reads as bays and slicks. -/
import Derived.Test.YtnafllhgjidbkaaT4
import Derived.ProofKit
import Derived.OpenShut
import Derived.Lib.SmallJoins
import Derived.Deep.Slices
namespace Go.Proofs.Ytnafllhgjidbkaa
open Go.ChangeShapes Go.WideShapes Go.ChangeAt Go.RowKit Go.Deep Go.Joins
set_option linter.unusedVariables false
set_option linter.unusedSimpArgs false

theorem cells_at {w : World} {a : Addr} {cs : List Value} (h : ∀ i, i < cs.length → w.cell? (a.add i) = some (cs.getD i undef)) : CellsAt w (some a) cs := by
  intro hne
  have hp : 0 < cs.length := List.length_pos_iff.2 hne
  obtain ⟨b, off, spot⟩ := a
  have hspot : spot = none := by simpa [Addr.add] using World.cell?_spot (h 0 hp)
  subst hspot
  refine ⟨b, off, rfl, ?_, fun j hj => by rw [← Go.WideShapes.add_plain]; exact h j hj⟩
  have := World.block_lt_of_cell? _ _ (h 0 hp)
  simpa [Addr.add] using this

section
variable {H : Type} {enc : TypeId × Value → H} {W : World} {sp : Nat → Bool}

theorem open_bools22 {n : Nat} {v : Value} {x : DataW H × List MemPlace} (h : DataW.trod enc Try.prog W 0 sp true n 22 [v] = some x) :
    ∃ (ao : Option Addr) (c : Nat) (l : List Bool), v = .slice ao l.length c ∧ BoolsAt W ao l := by
  rcases open_slice1 Try.underlying22 (by kernel_rfl) h with ⟨hcs, _⟩ | ⟨a, len, cap, m, f, V, D, Pl, hcs, _, hl, _, hm, _, hx⟩
  · cases hcs
    exact ⟨none, 0, [], rfl, fun hne => absurd rfl hne⟩
  · cases hcs
    have hlm : len ≤ m := by rw [hm]; split <;> omega
    obtain ⟨b, hb⟩ := choose_lt (α := Bool) (n := len) (p := fun i b => V i = .bool b) (fun i hi => by
      obtain ⟨b, hb, _⟩ := DataW.trod_bool Try.underlying4 (hx i (by omega)).2
      exact ⟨b, by simpa using hb⟩)
    refine ⟨some a, cap, (List.range len).map b, by simp, ?_⟩
    refine cells_at (fun i hi => ?_)
    have hi' : i < len := by simpa using hi
    rw [(hx i (by omega)).1, hb i hi']
    simp [List.getD_eq_getElem?_getD, hi']

theorem open_ints26 {n : Nat} {v : Value} {x : DataW H × List MemPlace} (h : DataW.trod enc Try.prog W 0 sp true n 26 [v] = some x) :
    ∃ (ao : Option Addr) (c : Nat) (l : List Int), v = .slice ao l.length c ∧ IntsAt W ao l ∧ ∀ k, k < l.length → (Lit.int .i64 (l.getD k 0)).wf = true := by
  rcases open_slice1 Try.underlying26 (by kernel_rfl) h with ⟨hcs, _⟩ | ⟨a, len, cap, m, f, V, D, Pl, hcs, _, hl, _, hm, _, hx⟩
  · cases hcs
    exact ⟨none, 0, [], rfl, fun hne => absurd rfl hne, by intro k hk; simp at hk⟩
  · cases hcs
    have hlm : len ≤ m := by rw [hm]; split <;> omega
    obtain ⟨b, hb⟩ := choose_lt (α := Int) (n := len) (p := fun i b => V i = .int .i64 b ∧ (Lit.int .i64 b).wf = true) (fun i hi => by
      obtain ⟨b, hb, _, hw⟩ := DataW.trod_int Try.underlying3 (hx i (by omega)).2
      exact ⟨b, by simpa using hb, hw⟩)
    refine ⟨some a, cap, (List.range len).map b, by simp, ?_, ?_⟩
    · refine cells_at (fun i hi => ?_)
      have hi' : i < len := by simpa using hi
      rw [(hx i (by omega)).1, (hb i hi').1]
      simp [List.getD_eq_getElem?_getD, hi']
    · intro k hk
      have hk' : k < len := by simpa using hk
      have := (hb k hk').2
      simpa [List.getD_eq_getElem?_getD, hk'] using this

theorem open_fives23 {n : Nat} {v : Value} {x : DataW H × List MemPlace} (h : DataW.trod enc Try.prog W 0 sp true n 23 [v] = some x) :
    ∃ (ao : Option Addr) (c : Nat) (l : List Five), v = .slice ao l.length c ∧ FivesAt W ao l := by
  rcases open_slice Try.underlying23 h with ⟨hcs, _⟩ | ⟨a, len, cap, m, f, D, Pl, hcs, _, hl, _, hm, _, hx⟩
  · cases hcs
    exact ⟨none, 0, [], rfl, fun hne => absurd rfl hne⟩
  · cases hcs
    have hc5 : Try.prog.cellsOf 74 = 5 := by kernel_rfl
    have hc1 : Try.prog.cellsOf 3 = 1 := by kernel_rfl
    have hlm : len ≤ m := by rw [hm]; split <;> omega
    rw [hc5] at hx
    obtain ⟨b, hb⟩ := choose_lt (α := Five) (n := len) (p := fun i y => ∀ j, j < 5 → W.cell? ((a.add (i * 5)).add j) = some ((Five.cells y).getD j undef)) (fun i hi => by
      obtain ⟨cs', h1, h2⟩ := hx i (by omega)
      obtain ⟨_, hlen, hcell⟩ := World.cells?_some h1
      obtain ⟨xs, k, _, _, _, hxl, hxs⟩ := DataW.trod_array Try.underlying74 h2
      rw [hc1] at hxs
      have each : ∀ j, j < 5 → ∃ z : Int, cs'[j]? = some (.int .i64 z) := fun j hj => by
        have h3 := hxs j hj
        have hj' : j < xs.length := by omega
        rw [List.getElem?_eq_getElem hj'] at h3
        obtain ⟨z, hz, _⟩ := DataW.trod_int Try.underlying3 h3
        refine ⟨z, ?_⟩
        have h4 := congrArg (fun l => l[0]?) hz
        simpa [List.getElem?_take, List.getElem?_drop] using h4
      obtain ⟨z0, e0⟩ := each 0 (by omega)
      obtain ⟨z1, e1⟩ := each 1 (by omega)
      obtain ⟨z2, e2⟩ := each 2 (by omega)
      obtain ⟨z3, e3⟩ := each 3 (by omega)
      obtain ⟨z4, e4⟩ := each 4 (by omega)
      refine ⟨(z0, z1, z2, z3, z4), fun j hj => ?_⟩
      rw [hcell j hj]
      match j, hj with
      | 0, _ => rw [e0]; rfl
      | 1, _ => rw [e1]; rfl
      | 2, _ => rw [e2]; rfl
      | 3, _ => rw [e3]; rfl
      | 4, _ => rw [e4]; rfl)
    refine ⟨some a, cap, (List.range len).map b, by simp, ?_⟩
    refine cells_at (fun i hi => ?_)
    rw [flat_len] at hi
    have hi' : i < 5 * len := by simpa using hi
    have hq : i / 5 < len := by omega
    have h5 := hb (i / 5) hq (i % 5) (by omega)
    rw [add_add, show i / 5 * 5 + i % 5 = i by omega] at h5
    rw [h5]
    have h6 := flat_get ((List.range len).map b) (i / 5) (i % 5) (by simpa using hq) (by omega)
    rw [show i / 5 * 5 + i % 5 = i by omega] at h6
    rw [h6]
    simp [List.getD_eq_getElem?_getD, hq]

set_option maxRecDepth 100000 in
theorem open_bay {v : Value} {d : DataW H} {p : List MemPlace} {r : Reach} {b0 : Nat} (hv : Value.okWide Try.prog W r b0 25 v) (h : DataW.Trod enc Try.prog W 0 sp true 25 v d p) :
    ∃ (B : Bay) (la : Option Addr) (lc : Nat) (sa : Option Addr) (sc : Nat), v = .agg #[.int .i64 B.W, .int .i64 B.H, .slice la B.Land.length lc, .slice sa B.Share.length sc] ∧ BoolsAt W la B.Land ∧ FivesAt W sa B.Share ∧
      (Lit.int .i64 B.W).wf = true ∧ (Lit.int .i64 B.H).wf = true := by
  obtain ⟨v0, v1, v2, v3, y0, y1, y2, y3, n, rfl, _, _, h0, h1, h2, h3⟩ := open_agg4 Try.underlying25 (by kernel_rfl) (by kernel_rfl) hv h
  obtain ⟨wW, e0, _, f0⟩ := DataW.trod_int Try.underlying3 h0
  obtain ⟨wH, e1, _, f1⟩ := DataW.trod_int Try.underlying3 h1
  obtain ⟨la, lc, l, rfl, hl⟩ := open_bools22 h2
  obtain ⟨sa, sc, s, rfl, hs⟩ := open_fives23 h3
  cases e0
  cases e1
  exact ⟨⟨wW, wH, l, s⟩, la, lc, sa, sc, rfl, hl, hs, f0, f1⟩

set_option maxRecDepth 100000 in
theorem open_slick {v : Value} {d : DataW H} {p : List MemPlace} {r : Reach} {b0 : Nat} (hv : Value.okWide Try.prog W r b0 28 v) (h : DataW.Trod enc Try.prog W 0 sp true 28 v d p) :
    ∃ (s : Slk) (ao : Option Addr) (c : Nat), v = .agg #[.int .i64 s.K, .slice ao s.Oil.length c, .int .i64 s.Away] ∧ IntsAt W ao s.Oil ∧
      (Lit.int .i64 s.K).wf = true ∧ (Lit.int .i64 s.Away).wf = true ∧ ∀ k, k < s.Oil.length → (Lit.int .i64 (s.Oil.getD k 0)).wf = true := by
  obtain ⟨v0, v1, v2, y0, y1, y2, n, rfl, _, _, h0, h1, h2⟩ := open_agg3 Try.underlying28 (by kernel_rfl) (by kernel_rfl) hv h
  obtain ⟨k, e0, _, f0⟩ := DataW.trod_int Try.underlying3 h0
  obtain ⟨a, e2, _, f2⟩ := DataW.trod_int Try.underlying3 h2
  obtain ⟨ao, c, l, rfl, hl, hw⟩ := open_ints26 h1
  cases e0
  cases e2
  exact ⟨⟨k, l, a⟩, ao, c, rfl, hl, f0, f2, hw⟩
end
end Go.Proofs.Ytnafllhgjidbkaa
