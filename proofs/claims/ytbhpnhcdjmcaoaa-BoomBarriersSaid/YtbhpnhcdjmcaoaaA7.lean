/- Texts of the proof, part 7: O1, L0, L7. -/
import Derived.Test.YtbhpnhcdjmcaoaaA6
import Derived.WalkKit
import Derived.Below
import Derived.Laws.OwnMore
import Derived.Maps.AppendAt
import Derived.Laws.IdiomCopy
import Derived.Laws.CopyRow
import Derived.IntWalk
import Derived.StillTail
import Derived.Scope
import Derived.ChangeKeysEq
import Derived.Laws.Small
import Derived.OrdersIn
import Derived.TacticsIn
import Derived.OwnWalkIn
import Derived.RangeFuncNested
import Derived.RangeFuncLeaves
import Derived.RangeFuncRecord
import Derived.Maps.Keyed
import Derived.Maps.RangeRun
import Derived.DeepKeys4
import Derived.Test.YtbhpnhcdjmcaoaaRows
import Derived.KernelRfl
import Derived.ProofKit
import Derived.OpenShut
import Derived.Lib.SmallJoins
import Derived.Deep.Slices
/- Boom: how charts, cells and numbers that came in read. -/
namespace Go.Proofs.Ytbhpnhcdjmcaoaa
open Go.RowKit
set_option linter.unusedVariables false
set_option linter.unusedSimpArgs false
open Go.ChangeShapes Go.WideShapes Go.ChangeAt Go.RowKit Go.Deep Go.Joins
theorem i64_bd {n : Int} (h : (Lit.int .i64 n).wf = true) : -9223372036854775808 ≤ n ∧ n ≤ 9223372036854775807 := by
  simp [Lit.wf, IntKind.min, IntKind.max, IntKind.signed, IntKind.bits] at h; omega
theorem u8_bd {n : Int} (h : (Lit.int .u8 n).wf = true) : 0 ≤ n ∧ n ≤ 255 := by
  simp [Lit.wf, IntKind.min, IntKind.max, IntKind.signed, IntKind.bits] at h; omega
theorem ro_at {w : World} {a : Addr} {cs : List Value} (h : ∀ i, i < cs.length → w.cell? (a.add i) = some (cs.getD i undef)) : RoAt w (some a) cs := by
  intro hne
  have hp : 0 < cs.length := List.length_pos_iff.2 hne
  obtain ⟨b, off, spot⟩ := a
  have hspot : spot = none := by simpa [Addr.add] using World.cell?_spot (h 0 hp)
  subst hspot
  refine ⟨b, off, rfl, ?_, fun j hj => by rw [← Go.WideShapes.add_plain]; exact h j hj⟩
  have := World.block_lt_of_cell? _ _ (h 0 hp)
  simpa [Addr.add] using this
theorem add_add (a : Addr) (i j : Nat) : (a.add i).add j = a.add (i + j) := by
  unfold Addr.add
  by_cases hi : i = 0
  · subst hi; simp
  · by_cases hj : j = 0
    · subst hj; simp [hi]
    · simp [hi, hj, Nat.add_assoc]
def cellV (l : List Cell) : List Value := l.flatMap fun x => [.int .i64 x.1, .int .i64 x.2]
theorem cellV_len (l : List Cell) : (cellV l).length = 2 * l.length := by
  induction l with
  | nil => rfl
  | cons x l ih => simp only [cellV, List.flatMap_cons, List.length_append] at *; simp [ih]; omega
theorem cellV_get : ∀ {l : List Cell} {k : Nat}, k < l.length → (cellV l).getD (k * 2) undef = .int .i64 (l.getD k (0, 0)).1 ∧ (cellV l).getD (k * 2 + 1) undef = .int .i64 (l.getD k (0, 0)).2
  | x :: l, 0, _ => ⟨rfl, rfl⟩
  | x :: l, k + 1, h => by
    have := cellV_get (l := l) (k := k) (by simpa using h)
    simp only [cellV, List.flatMap_cons] at *
    rw [show (k + 1) * 2 + 1 = k * 2 + 1 + 1 + 1 by omega, show (k + 1) * 2 = k * 2 + 1 + 1 by omega]
    simpa using this
theorem den_cells (ρ : Env) (l : List Cell) : (cellC l).map (C.den ρ) = cellV l := by
  induction l with
  | nil => rfl
  | cons x l ih => simp only [cellC, cellV, List.flatMap_cons, List.map_append] at *; rw [ih]; rfl
def CellsAt (W : World) (ao : Option Addr) (c : Nat) (l : List Cell) : Prop := RoAt W ao (cellV l) ∧ l.length ≤ c ∧ l.length < 9223372036854775808
def IntsAt (W : World) (ao : Option Addr) (l : List Int) : Prop := RoAt W ao (l.map (Value.int .i64)) ∧ l.length < 9223372036854775808
section
variable {H : Type} {enc : TypeId × Value → H} {W : World} {sp : Nat → Bool}
set_option maxRecDepth 10000 in
theorem open_cells30 {n : Nat} {v : Value} {x : DataW H × List MemPlace} (h : DataW.trod enc Try.prog W 0 sp true n 30 [v] = some x) :
    ∃ (ao : Option Addr) (c : Nat) (l : List Cell), v = .slice ao l.length c ∧ CellsAt W ao c l := by
  rcases open_slice Try.underlying30 h with ⟨hcs, _⟩ | ⟨a, len, cap, m, f, D, Pl, hcs, _, hl, hmax, hm, _, hx⟩
  · cases hcs
    exact ⟨none, 0, [], rfl, fun hne => absurd rfl hne, by simp, by simp⟩
  · cases hcs
    have hc2 : Try.prog.cellsOf 57 = 2 := by kernel_rfl
    have hc1 : Try.prog.cellsOf 3 = 1 := by kernel_rfl
    have hlm : len ≤ m := by rw [hm]; split <;> omega
    have hlen : len < 9223372036854775808 := by unfold maxLen at hmax; omega
    rw [hc2] at hx
    obtain ⟨b, hb⟩ := choose_lt (α := Cell) (n := len) (p := fun i y => W.cell? (a.add (i * 2)) = some (.int .i64 y.1) ∧ W.cell? (a.add (i * 2 + 1)) = some (.int .i64 y.2)) (fun i hi => by
      obtain ⟨cs', h1, h2⟩ := hx i (by omega)
      obtain ⟨_, hlen, hcell⟩ := World.cells?_some h1
      obtain ⟨y0, y1, k, _, hl2, h3, h4⟩ := trod_struct2 Try.underlying57 h2
      match cs', hlen with
      | [c0, c1], _ =>
        simp [hc1] at h3 h4
        obtain ⟨z0, e0, _, _⟩ := DataW.trod_int Try.underlying3 h3
        obtain ⟨z1, e1, _, _⟩ := DataW.trod_int Try.underlying3 h4
        cases e0
        cases e1
        have g0 := hcell 0 (by omega)
        have g1 := hcell 1 (by omega)
        rw [add_add] at g0 g1
        exact ⟨(z0, z1), by simpa using g0, by simpa using g1⟩)
    refine ⟨some a, cap, (List.range len).map b, by simp, ro_at (fun i hi => ?_), by simpa using hl, by simpa using hlen⟩
    rw [cellV_len] at hi
    simp only [List.length_map, List.length_range] at hi
    have hq : i / 2 < len := by omega
    obtain ⟨g0, g1⟩ := hb (i / 2) hq
    obtain ⟨k0, k1⟩ := cellV_get (l := (List.range len).map b) (k := i / 2) (by simpa using hq)
    have hgd : ((List.range len).map b).getD (i / 2) (0, 0) = b (i / 2) := by simp [List.getD_eq_getElem?_getD, hq]
    rw [hgd] at k0 k1
    rcases Nat.mod_two_eq_zero_or_one i with hi2 | hi2
    · rw [show i / 2 * 2 = i by omega] at g0 k0
      rw [g0, k0]
    · rw [show i / 2 * 2 + 1 = i by omega] at g1 k1
      rw [g1, k1]
theorem open_ints22 {n : Nat} {v : Value} {x : DataW H × List MemPlace} (h : DataW.trod enc Try.prog W 0 sp true n 22 [v] = some x) :
    ∃ (ao : Option Addr) (c : Nat) (l : List Int), v = .slice ao l.length c ∧ IntsAt W ao l := by
  rcases open_slice1 Try.underlying22 (by kernel_rfl) h with ⟨hcs, _⟩ | ⟨a, len, cap, m, f, V, D, Pl, hcs, _, hl, hmax, hm, _, hx⟩
  · cases hcs
    exact ⟨none, 0, [], rfl, fun hne => absurd rfl hne, by simp⟩
  · cases hcs
    have hlm : len ≤ m := by rw [hm]; split <;> omega
    have hlen : len < 9223372036854775808 := by unfold maxLen at hmax; omega
    obtain ⟨b, hb⟩ := choose_lt (α := Int) (n := len) (p := fun i b => V i = .int .i64 b) (fun i hi => by
      obtain ⟨b, hb, _, hw⟩ := DataW.trod_int Try.underlying3 (hx i (by omega)).2
      exact ⟨b, by simpa using hb⟩)
    refine ⟨some a, cap, (List.range len).map b, by simp, ro_at (fun i hi => ?_), by simpa using hlen⟩
    have hi' : i < len := by simpa using hi
    rw [(hx i (by omega)).1, hb i hi']
    simp [List.getD_eq_getElem?_getD, hi']
set_option maxRecDepth 100000 in
theorem open_chart {v : Value} {d : DataW H} {p : List MemPlace} {r : Reach} {b0 : Nat} (hv : Value.okWide Try.prog W r b0 24 v) (h : DataW.Trod enc Try.prog W 0 sp true 24 v d p) :
    ∃ (cw ch : Int) (cs : List Int) (ao : Option Addr) (c : Nat), v = .agg #[.int .i64 cw, .int .i64 ch, .slice ao cs.length c] ∧ IntsAt W ao cs := by
  obtain ⟨v0, v1, v2, y0, y1, y2, n, rfl, _, _, h0, h1, h2⟩ := open_agg3 Try.underlying24 (by kernel_rfl) (by kernel_rfl) hv h
  obtain ⟨k, e0, _, f0⟩ := DataW.trod_int Try.underlying3 h0
  obtain ⟨a, e1, _, f2⟩ := DataW.trod_int Try.underlying3 h1
  obtain ⟨ao, c, l, rfl, hl⟩ := open_ints22 h2
  cases e0
  cases e1
  exact ⟨k, a, l, ao, c, rfl, hl⟩
set_option maxRecDepth 100000 in
theorem open_cellsv {v : Value} {d : DataW H} {p : List MemPlace} {r : Reach} {b0 : Nat} (hv : Value.okWide Try.prog W r b0 30 v) (h : DataW.Trod enc Try.prog W 0 sp true 30 v d p) :
    ∃ (ao : Option Addr) (c : Nat) (l : List Cell), v = .slice ao l.length c ∧ CellsAt W ao c l := by
  obtain ⟨fuel, hf⟩ := h
  obtain ⟨ao, n, cp, rfl⟩ := okWide_slice Try.underlying30 hv
  simp only [Value.cells] at hf
  exact open_cells30 hf
set_option maxRecDepth 100000 in
theorem open_intsv {v : Value} {d : DataW H} {p : List MemPlace} {r : Reach} {b0 : Nat} (hv : Value.okWide Try.prog W r b0 22 v) (h : DataW.Trod enc Try.prog W 0 sp true 22 v d p) :
    ∃ (ao : Option Addr) (c : Nat) (l : List Int), v = .slice ao l.length c ∧ IntsAt W ao l := by
  obtain ⟨fuel, hf⟩ := h
  obtain ⟨ao, n, cp, rfl⟩ := okWide_slice Try.underlying22 hv
  simp only [Value.cells] at hf
  exact open_ints22 hf
end
/-- Memory that comes in, with the room behind it. -/
theorem Hp.rosz {ρ : Env} {w : World} {L : List E} {nx : Nat} (h : ∀ e ∈ L, (∃ z, e.kd = .ro z ∧ (z = 0 ∨ e.cs.length ≤ (ρ e.lab).2 * z)) ∧ e.lab < nx ∧ (∀ c ∈ e.cs, c.wf nx) ∧ RoAt w (ρ e.lab).1 (e.cs.map (C.den ρ))) (hd : injB [] L = true) : Hp w.heap.size ρ w L nx := by
  refine ⟨Nat.le_refl _, fun e he => ?_, fun e he => ⟨(h e he).2.1, (h e he).2.2.1⟩, fun e he e' he' hl => injB_spec hd e he e' he' (.inl hl), fun e he e' he' hro => ?_⟩
  · obtain ⟨⟨z, h1, h2⟩, h3, h4, h5⟩ := h e he
    obtain ⟨lab, kd, cs⟩ := e
    simp only at h1 h2
    subst h1
    exact ⟨h5, h2⟩
  · obtain ⟨⟨z, h1, _⟩, _⟩ := h e he
    rw [h1] at hro; cases hro
/-- Where what came in lies: label k at place k. -/
def envL (l : List (Option Addr × Nat)) : Env := fun k => l.getD k (none, 0)
theorem ent_ints {W : World} {ρ : Env} {l : List Int} {k nx : Nat} {ao : Option Addr} (h : IntsAt W ao l) (hk : k < nx) (hr : (ρ k).1 = ao) : (∃ z, (Kd.ro 0) = .ro z ∧ (z = 0 ∨ (l.map C.i).length ≤ (ρ k).2 * z)) ∧ k < nx ∧ (∀ c ∈ l.map C.i, c.wf nx) ∧ RoAt W (ρ k).1 ((l.map C.i).map (C.den ρ)) := by
  refine ⟨⟨0, rfl, .inl rfl⟩, hk, wf_ints _ _, ?_⟩
  rw [List.map_map, hr]; exact h.1
theorem ent_cells {W : World} {ρ : Env} {l : List Cell} {k nx c : Nat} {ao : Option Addr} (h : CellsAt W ao c l) (hk : k < nx) (hr : ρ k = (ao, c)) : (∃ z, (Kd.ro 2) = .ro z ∧ (z = 0 ∨ (cellC l).length ≤ (ρ k).2 * z)) ∧ k < nx ∧ (∀ c ∈ cellC l, c.wf nx) ∧ RoAt W (ρ k).1 ((cellC l).map (C.den ρ)) := by
  refine ⟨⟨2, rfl, .inr ?_⟩, hk, wf_cells _ _, ?_⟩
  · rw [hr, cellC_len]; have := h.2.1; simp only; omega
  · rw [den_cells, hr]; exact h.1
theorem hp_1 {W : World} {cs : List Int} {ao : Option Addr} {c : Nat} (h : IntsAt W ao cs) : Hp W.heap.size (envL [(ao, c)]) W [⟨0, .ro 0, cs.map C.i⟩] 1 := by
  refine Hp.rosz (fun e he => ?_) rfl
  rw [List.mem_singleton.1 he]; exact ent_ints h (by show 0 < 1; omega) rfl
theorem hp_2 {W : World} {cs : List Int} {l : List Cell} {ao bo : Option Addr} {c d : Nat} (h : IntsAt W ao cs) (h2 : CellsAt W bo d l) : Hp W.heap.size (envL [(ao, c), (bo, d)]) W [⟨0, .ro 0, cs.map C.i⟩, ⟨1, .ro 2, cellC l⟩] 2 := by
  refine Hp.rosz (fun e he => ?_) rfl
  simp only [List.mem_cons, List.not_mem_nil, or_false] at he
  rcases he with rfl | rfl
  · exact ent_ints h (by show 0 < 2; omega) rfl
  · exact ent_cells h2 (by show 1 < 2; omega) rfl
theorem isTrue_any {f : FuncId} {vs : List V} {L : List E} {na : Nat} {ρ : Env} {w : World} {args : Array Value} (spec : Spec Try.prog f vs L na (Is (V.c (.bool true)))) (hp : Hp w.heap.size ρ w L na) (hv : ∀ v ∈ vs, v.wf na) (ha : (vs.map (V.den ρ)).toArray = args) :
    Calls Try.prog f args w fun e w' => e = .returned (.bool true) ∧ Below w.heap.size w w' := by
  subst ha
  refine (spec ρ w hp hv).mono ?_
  rintro e w' ⟨v, ρ', L', nx', rfl, h1, h2, h3, h4, h5, h6⟩
  exact ⟨by rw [h6 ρ']; rfl, h4⟩
end Go.Proofs.Ytbhpnhcdjmcaoaa

/- Boom: what the laws share. -/
namespace Go.Proofs.Ytbhpnhcdjmcaoaa
open Go.RowKit
set_option linter.unusedVariables false
set_option linter.unusedSimpArgs false
theorem wide_spec (W H : Int) (n : Nat) (hn : n < 9223372036854775808) : Spec Try.prog 16 [chR W H n] [] 1 (Is (V.c (.bool (decide ((n : Int) > 300))))) := by
  refine Spec.of tok Try.func16 rfl rfl rfl fun n0 cx => vc_ok tok ?_
  repeat ((conv => whnf); first
      | (refine And.intro (by first | omega | exact Nat.le_of_ble_eq_true rfl | (dsimp only [inK]; omega) | (simp only [mulS_eq]; omega) | (simp only [mulS_eq, setL_length]; omega) | (simp only [setL_length, List.length_map]; omega) | exact ⟨by omega, by omega, by first | exact Nat.le_of_ble_eq_true rfl | (dsimp only; omega) | (simp only [setL_length]; omega) | (simp only [setL_length, List.length_map]; omega)⟩ | exact ⟨by omega, by first | rfl | omega, by omega, Nat.le_of_ble_eq_true rfl, Nat.le_of_ble_eq_true rfl⟩ | exact ⟨rfl, rfl, rfl, Nat.le_of_ble_eq_true rfl, by first | rfl | omega | exact Nat.le_of_ble_eq_true rfl | (dsimp only; omega) | (simp; done) | (simp; omega), by first | rfl | omega | exact Nat.le_of_ble_eq_true rfl | (dsimp only; omega) | (simp; done) | (simp; omega), by omega, Nat.le_of_ble_eq_true rfl⟩ | exact Eq.refl true) ?_)
      | (refine Exists.intro _ (And.intro rfl ?_))
      | (refine And.intro (And.intro rfl (chk_rowI _ _ _ _)) ?_)
      | (refine br_t (by omega) ?_)
      | (refine br_f (by omega) ?_)
      | (refine bs_t (by omega) ?_)
      | (refine bs_f (by omega) ?_)
      | (refine fun (K' : K3) hK' => ?_)
      | (refine hK' _ _ _ ?_; clear hK' K')
      | (refine draw_auto tok mixed (by kernel_rfl) ?_)
      | (refine bs_bt (Eq.refl true) ?_)
      | (refine bs_bf (Eq.refl false) ?_)
      | (refine br_bt (Eq.refl true) ?_)
      | (refine br_bf (Eq.refl false) ?_)
      | (refine CallK.m ?_)
      | (refine And.intro (And.intro rfl rfl) ?_))
  intro ρ; rfl
theorem long_spec (m : Nat) (hm : m < 9223372036854775808) : Spec Try.prog 23 [V.c (.sl 0 m)] [] 1 (Is (V.c (.bool (decide ((m : Int) > 250))))) := by
  refine Spec.of tok Try.func23 rfl rfl rfl fun n0 cx => vc_ok tok ?_
  repeat ((conv => whnf); first
      | (refine And.intro (by first | omega | exact Nat.le_of_ble_eq_true rfl | (dsimp only [inK]; omega) | (simp only [mulS_eq]; omega) | (simp only [mulS_eq, setL_length]; omega) | (simp only [setL_length, List.length_map]; omega) | exact ⟨by omega, by omega, by first | exact Nat.le_of_ble_eq_true rfl | (dsimp only; omega) | (simp only [setL_length]; omega) | (simp only [setL_length, List.length_map]; omega)⟩ | exact ⟨by omega, by first | rfl | omega, by omega, Nat.le_of_ble_eq_true rfl, Nat.le_of_ble_eq_true rfl⟩ | exact ⟨rfl, rfl, rfl, Nat.le_of_ble_eq_true rfl, by first | rfl | omega | exact Nat.le_of_ble_eq_true rfl | (dsimp only; omega) | (simp; done) | (simp; omega), by first | rfl | omega | exact Nat.le_of_ble_eq_true rfl | (dsimp only; omega) | (simp; done) | (simp; omega), by omega, Nat.le_of_ble_eq_true rfl⟩ | exact Eq.refl true) ?_)
      | (refine Exists.intro _ (And.intro rfl ?_))
      | (refine And.intro (And.intro rfl (chk_rowI _ _ _ _)) ?_)
      | (refine br_t (by omega) ?_)
      | (refine br_f (by omega) ?_)
      | (refine bs_t (by omega) ?_)
      | (refine bs_f (by omega) ?_)
      | (refine fun (K' : K3) hK' => ?_)
      | (refine hK' _ _ _ ?_; clear hK' K')
      | (refine draw_auto tok mixed (by kernel_rfl) ?_)
      | (refine bs_bt (Eq.refl true) ?_)
      | (refine bs_bf (Eq.refl false) ?_)
      | (refine br_bt (Eq.refl true) ?_)
      | (refine br_bf (Eq.refl false) ?_)
      | (refine CallK.m ?_)
      | (refine And.intro (And.intro rfl rfl) ?_))
  intro ρ; rfl
theorem bar22 : barO 2 2 [5, 0, 0, 3] = some ([0, 3], (8, 2)) := by decide +kernel
theorem awake_spec : Spec Try.prog 17 [] [] 0 (Is (V.c (.bool true))) := by
  have hc := cheapest_spec 2 2 [5, 0, 0, 3] (by simp)
  have ho : okC 2 2 [5, 0, 0, 3] = true := by decide +kernel
  rw [ho, bar22] at hc
  have hc : Spec Try.prog 18 [chR 2 2 4] [⟨0, .ro 0, [5, 0, 0, 3].map C.i⟩] 2 (Is (V.tup [A.c (C.i 8), A.c (C.i 0)])) := hc
  refine Spec.of tok Try.func17 rfl rfl rfl fun n0 cx => vc_ok tok ?_
  repeat ((conv => whnf); first
      | (refine And.intro (by first | omega | exact Nat.le_of_ble_eq_true rfl | (dsimp only [inK]; omega) | (simp only [mulS_eq]; omega) | (simp only [mulS_eq, setL_length]; omega) | (simp only [setL_length, List.length_map]; omega) | exact ⟨by omega, by omega, by first | exact Nat.le_of_ble_eq_true rfl | (dsimp only; omega) | (simp only [setL_length]; omega) | (simp only [setL_length, List.length_map]; omega)⟩ | exact ⟨by omega, by first | rfl | omega, by omega, Nat.le_of_ble_eq_true rfl, Nat.le_of_ble_eq_true rfl⟩ | exact ⟨rfl, rfl, rfl, Nat.le_of_ble_eq_true rfl, by first | rfl | omega | exact Nat.le_of_ble_eq_true rfl | (dsimp only; omega) | (simp; done) | (simp; omega), by first | rfl | omega | exact Nat.le_of_ble_eq_true rfl | (dsimp only; omega) | (simp; done) | (simp; omega), by omega, Nat.le_of_ble_eq_true rfl⟩ | exact Eq.refl true) ?_)
      | (refine Exists.intro _ (And.intro rfl ?_))
      | (refine And.intro (And.intro rfl (chk_rowI _ _ _ _)) ?_)
      | (refine br_t (by omega) ?_)
      | (refine br_f (by omega) ?_)
      | (refine bs_t (by omega) ?_)
      | (refine bs_f (by omega) ?_)
      | (refine fun (K' : K3) hK' => ?_)
      | (refine hK' _ _ _ ?_; clear hK' K')
      | (refine draw_auto tok mixed (by kernel_rfl) ?_)
      | (refine CallK.val (R := [(0, some 0)]) hc (by kernel_rfl) rfl (by simp [V.wf, A.wf, C.wf]) ⟨roE_ints (l := 0) (k := .vec 3 1) rfl (by omega) rfl (.inl rfl), trivial⟩ rfl rfl (by simp [V.wf, A.wf, C.wf]) ?_)
      | (refine bs_bt (Eq.refl true) ?_)
      | (refine bs_bf (Eq.refl false) ?_)
      | (refine br_bt (Eq.refl true) ?_)
      | (refine br_bf (Eq.refl false) ?_)
      | (refine CallK.m ?_)
      | (refine And.intro (And.intro rfl rfl) ?_))
  intro ρ; rfl
section
variable {n0 nx : Nat} {L : List E} {K : V → List E → Nat → Prop}
theorem awake_k (hK : K (V.c (.bool true)) [] nx) : CallK Try.prog n0 17 [] L nx K :=
  CallK.val (R := []) awake_spec (by kernel_rfl) rfl (by simp) trivial rfl rfl trivial hK
theorem wide_k {W H : Int} {n a : Nat} (hn : n < 9223372036854775808) (hK : K (V.c (.bool (decide ((n : Int) > 300)))) [] nx) : CallK Try.prog n0 16 [V.agg [C.i W, C.i H, .sl a n]] L nx K :=
  CallK.val (R := [(0, some a)]) (wide_spec W H n hn) (by kernel_rfl) rfl (by simp [V.wf, A.wf, C.wf]) trivial rfl rfl trivial hK
theorem long_k {m a : Nat} (hm : m < 9223372036854775808) (hK : K (V.c (.bool (decide ((m : Int) > 250)))) [] nx) : CallK Try.prog n0 23 [V.c (.sl a m)] L nx K :=
  CallK.val (R := [(0, some a)]) (long_spec m hm) (by kernel_rfl) rfl (by simp [V.wf, A.wf, C.wf]) trivial rfl rfl trivial hK
end
end Go.Proofs.Ytbhpnhcdjmcaoaa

/- Boom: the law of the barriers. -/
namespace Go.Proofs.Ytbhpnhcdjmcaoaa
open Go.RowKit
set_option linter.unusedVariables false
set_option linter.unusedSimpArgs false
theorem barriers_long (W H : Int) (cs : List Int) (l : List Cell) (hcs : cs.length < 9223372036854775808) (hl : l.length < 9223372036854775808) (h : (cs.length : Int) > 300 ∨ (l.length : Int) > 250) :
    Spec Try.prog 7 [chR W H cs.length, V.c (.sl 1 l.length)] [⟨0, .ro 0, cs.map C.i⟩, ⟨1, .ro 2, cellC l⟩] 2 (Is (V.c (.bool true))) := by
  refine Spec.of tok Try.func7 rfl rfl rfl fun n0 cx => vc_ok tok ?_
  by_cases h1 : (cs.length : Int) > 300
  · repeat ((conv => whnf); first
        | (refine And.intro (by first | omega | exact Nat.le_of_ble_eq_true rfl | (dsimp only [inK]; omega) | (simp only [mulS_eq]; omega) | (simp only [mulS_eq, setL_length]; omega) | (simp only [setL_length, List.length_map]; omega) | exact ⟨by omega, by omega, by first | exact Nat.le_of_ble_eq_true rfl | (dsimp only; omega) | (simp only [setL_length]; omega) | (simp only [setL_length, List.length_map]; omega)⟩ | exact ⟨by omega, by first | rfl | omega, by omega, Nat.le_of_ble_eq_true rfl, Nat.le_of_ble_eq_true rfl⟩ | exact ⟨rfl, rfl, rfl, Nat.le_of_ble_eq_true rfl, by first | rfl | omega | exact Nat.le_of_ble_eq_true rfl | (dsimp only; omega) | (simp; done) | (simp; omega), by first | rfl | omega | exact Nat.le_of_ble_eq_true rfl | (dsimp only; omega) | (simp; done) | (simp; omega), by omega, Nat.le_of_ble_eq_true rfl⟩ | exact Eq.refl true) ?_)
        | (refine Exists.intro _ (And.intro rfl ?_))
        | (refine And.intro (And.intro rfl (chk_rowI _ _ _ _)) ?_)
        | (refine br_t (by omega) ?_)
        | (refine br_f (by omega) ?_)
        | (refine bs_t (by omega) ?_)
        | (refine bs_f (by omega) ?_)
        | (refine fun (K' : K3) hK' => ?_)
        | (refine hK' _ _ _ ?_; clear hK' K')
        | (refine draw_auto tok mixed (by kernel_rfl) ?_)
        | (refine wide_k hcs ?_)
        | (refine bs_t h1 ?_)
        | (refine br_t h1 ?_)
        | (refine awake_k ?_)
        | (refine bs_bt (Eq.refl true) ?_)
        | (refine bs_bf (Eq.refl false) ?_)
        | (refine br_bt (Eq.refl true) ?_)
        | (refine br_bf (Eq.refl false) ?_)
        | (refine CallK.m ?_)
        | (refine And.intro (And.intro rfl rfl) ?_))
    intro ρ; rfl
  · have h2 : (l.length : Int) > 250 := by omega
    repeat ((conv => whnf); first
        | (refine And.intro (by first | omega | exact Nat.le_of_ble_eq_true rfl | (dsimp only [inK]; omega) | (simp only [mulS_eq]; omega) | (simp only [mulS_eq, setL_length]; omega) | (simp only [setL_length, List.length_map]; omega) | exact ⟨by omega, by omega, by first | exact Nat.le_of_ble_eq_true rfl | (dsimp only; omega) | (simp only [setL_length]; omega) | (simp only [setL_length, List.length_map]; omega)⟩ | exact ⟨by omega, by first | rfl | omega, by omega, Nat.le_of_ble_eq_true rfl, Nat.le_of_ble_eq_true rfl⟩ | exact ⟨rfl, rfl, rfl, Nat.le_of_ble_eq_true rfl, by first | rfl | omega | exact Nat.le_of_ble_eq_true rfl | (dsimp only; omega) | (simp; done) | (simp; omega), by first | rfl | omega | exact Nat.le_of_ble_eq_true rfl | (dsimp only; omega) | (simp; done) | (simp; omega), by omega, Nat.le_of_ble_eq_true rfl⟩ | exact Eq.refl true) ?_)
        | (refine Exists.intro _ (And.intro rfl ?_))
        | (refine And.intro (And.intro rfl (chk_rowI _ _ _ _)) ?_)
        | (refine br_t (by omega) ?_)
        | (refine br_f (by omega) ?_)
        | (refine bs_t (by omega) ?_)
        | (refine bs_f (by omega) ?_)
        | (refine fun (K' : K3) hK' => ?_)
        | (refine hK' _ _ _ ?_; clear hK' K')
        | (refine draw_auto tok mixed (by kernel_rfl) ?_)
        | (refine wide_k hcs ?_)
        | (refine bs_f h1 ?_)
        | (refine br_f h1 ?_)
        | (refine long_k hl ?_)
        | (refine bs_t h2 ?_)
        | (refine br_t h2 ?_)
        | (refine awake_k ?_)
        | (refine bs_bt (Eq.refl true) ?_)
        | (refine bs_bf (Eq.refl false) ?_)
        | (refine br_bt (Eq.refl true) ?_)
        | (refine br_bf (Eq.refl false) ?_)
        | (refine CallK.m ?_)
        | (refine And.intro (And.intro rfl rfl) ?_))
    intro ρ; rfl
theorem cost_same (W H : Int) (cs : List Int) (l : List Cell) : ∃ a e : Int, (if okC W H cs then (if pIsBar W H cs l then V.tup [A.c (C.i (psum cs (listI W H l))), A.c (C.i 0)] else V.tup [A.c (C.i 0), A.c (C.i 5)]) else V.tup [A.c (C.i 0), A.c (C.i 30)]) = V.tup [A.c (C.i a), A.c (C.i e)] ∧
    (if okC W H cs then (if isBarB W H cs l then V.tup [A.c (C.i (sumC W cs l)), A.c (C.i 0)] else V.tup [A.c (C.i 0), A.c (C.i 5)]) else V.tup [A.c (C.i 0), A.c (C.i 30)]) = V.tup [A.c (C.i a), A.c (C.i e)] := by
  cases hv : okC W H cs with
  | false => exact ⟨0, 30, rfl, rfl⟩
  | true =>
    have hW : 0 < W := by have := (okC_iff.1 hv).w; omega
    rw [pIsBar_eq hW]
    cases hb : isBarB W H cs l with
    | false => exact ⟨0, 5, rfl, rfl⟩
    | true =>
      rw [psum_eq (isBar_iff.1 hb).on]
      exact ⟨_, 0, rfl, rfl⟩
theorem isbar_same (W H : Int) (cs : List Int) (l : List Cell) : (okC W H cs && pIsBar W H cs l) = (okC W H cs && isBarB W H cs l) := by
  cases hv : okC W H cs with
  | false => rfl
  | true =>
    have hW : 0 < W := by have := (okC_iff.1 hv).w; omega
    rw [pIsBar_eq hW]
set_option maxRecDepth 10000 in
set_option maxHeartbeats 4000000 in
theorem barriers_spec (W H : Int) (cs : List Int) (l : List Cell) (hcs : ¬ (cs.length : Int) > 300) (hl : ¬ (l.length : Int) > 250) :
    Spec Try.prog 7 [chR W H cs.length, V.c (.sl 1 l.length)] [⟨0, .ro 0, cs.map C.i⟩, ⟨1, .ro 2, cellC l⟩] 2 (Is (V.c (.bool true))) := by
  have h1 := isBarrier_spec W H cs l (by omega) (by omega)
  have h2 := risBar_spec W H cs l (by omega) (by omega)
  have h3 := costOf_spec W H cs l (by omega) (by omega)
  have h4 := rcostOf_spec W H cs l (by omega) (by omega)
  have h5 := valid_spec W H cs (by omega)
  have h6 := rvalid_spec W H cs (by omega)
  obtain ⟨a, e, e1, e2⟩ := cost_same W H cs l
  rw [e1] at h3
  rw [e2] at h4
  rw [isbar_same] at h1
  obtain ⟨b, hb⟩ : ∃ b, b = (okC W H cs && isBarB W H cs l) := ⟨_, rfl⟩
  obtain ⟨o, ho⟩ : ∃ o, o = okC W H cs := ⟨_, rfl⟩
  obtain ⟨g, hg⟩ : ∃ g : Int, g = if okC W H cs = true then 0 else 30 := ⟨_, rfl⟩
  rw [← hb, ← hg] at h1 h2
  rw [← ho] at h5 h6
  refine Spec.of tok Try.func7 rfl rfl rfl fun n0 cx => vc_ok tok ?_
  repeat ((conv => whnf); first
      | (refine And.intro (by first | omega | exact Nat.le_of_ble_eq_true rfl | (dsimp only [inK]; omega) | (simp only [mulS_eq]; omega) | (simp only [mulS_eq, setL_length]; omega) | (simp only [setL_length, List.length_map]; omega) | exact ⟨by omega, by omega, by first | exact Nat.le_of_ble_eq_true rfl | (dsimp only; omega) | (simp only [setL_length]; omega) | (simp only [setL_length, List.length_map]; omega)⟩ | exact ⟨by omega, by first | rfl | omega, by omega, Nat.le_of_ble_eq_true rfl, Nat.le_of_ble_eq_true rfl⟩ | exact ⟨rfl, rfl, rfl, Nat.le_of_ble_eq_true rfl, by first | rfl | omega | exact Nat.le_of_ble_eq_true rfl | (dsimp only; omega) | (simp; done) | (simp; omega), by first | rfl | omega | exact Nat.le_of_ble_eq_true rfl | (dsimp only; omega) | (simp; done) | (simp; omega), by omega, Nat.le_of_ble_eq_true rfl⟩ | exact Eq.refl true) ?_)
      | (refine Exists.intro _ (And.intro rfl ?_))
      | (refine And.intro (And.intro rfl (chk_rowI _ _ _ _)) ?_)
      | (refine br_t (by omega) ?_)
      | (refine br_f (by omega) ?_)
      | (refine bs_t (by omega) ?_)
      | (refine bs_f (by omega) ?_)
      | (refine fun (K' : K3) hK' => ?_)
      | (refine hK' _ _ _ ?_; clear hK' K')
      | (refine draw_auto tok mixed (by kernel_rfl) ?_)
      | (refine wide_k (by omega) ?_)
      | (refine bs_f hcs ?_)
      | (refine br_f hcs ?_)
      | (refine long_k (by omega) ?_)
      | (refine bs_f hl ?_)
      | (refine br_f hl ?_)
      | (refine CallK.val (R := []) h1 (by kernel_rfl) rfl (by simp [V.wf, A.wf, C.wf]) ⟨roE_ints rfl (by omega) rfl (.inl rfl), roE_cells rfl (by omega) rfl (.inr rfl), trivial⟩ rfl rfl (by simp [V.wf, A.wf, C.wf]) ?_)
      | (refine CallK.val (R := []) h2 (by kernel_rfl) rfl (by simp [V.wf, A.wf, C.wf]) ⟨roE_ints rfl (by omega) rfl (.inl rfl), roE_cells rfl (by omega) rfl (.inr rfl), trivial⟩ rfl rfl (by simp [V.wf, A.wf, C.wf]) ?_)
      | (refine CallK.val (R := []) h3 (by kernel_rfl) rfl (by simp [V.wf, A.wf, C.wf]) ⟨roE_ints rfl (by omega) rfl (.inl rfl), roE_cells rfl (by omega) rfl (.inr rfl), trivial⟩ rfl rfl (by simp [V.wf, A.wf, C.wf]) ?_)
      | (refine CallK.val (R := []) h4 (by kernel_rfl) rfl (by simp [V.wf, A.wf, C.wf]) ⟨roE_ints rfl (by omega) rfl (.inl rfl), roE_cells rfl (by omega) rfl (.inr rfl), trivial⟩ rfl rfl (by simp [V.wf, A.wf, C.wf]) ?_)
      | (refine HD_mk (fun _ h => CallK.val (R := []) h5 (by kernel_rfl) rfl (by simp [V.wf, A.wf, C.wf]) ⟨roE_ints rfl (by omega) rfl (.inl rfl), trivial⟩ rfl rfl trivial h) ?_)
      | (refine HD_mk (fun _ h => CallK.val (R := []) h6 (by kernel_rfl) rfl (by simp [V.wf, A.wf, C.wf]) ⟨roE_ints rfl (by omega) rfl (.inl rfl), trivial⟩ rfl rfl trivial h) ?_)
      | (refine bs_bt (by simp) ?_)
      | (refine br_bt (by simp) ?_)
      | (refine HD_mk (fun _ h => awake_k h) ?_)
      | (refine bs_bt (Eq.refl true) ?_)
      | (refine bs_bf (Eq.refl false) ?_)
      | (refine br_bt (Eq.refl true) ?_)
      | (refine br_bf (Eq.refl false) ?_)
      | (refine CallK.m ?_)
      | (refine And.intro (And.intro rfl rfl) ?_))
  intro ρ; rfl
theorem barriers_any (W H : Int) (cs : List Int) (l : List Cell) (ao : Option Addr) (c : Nat) (bo : Option Addr) (d : Nat) (w : World) (h : IntsAt w ao cs) (h2 : CellsAt w bo d l) :
    Calls Try.prog 7 #[.agg #[.int .i64 W, .int .i64 H, .slice ao cs.length c], .slice bo l.length d] w fun e w' => e = .returned (.bool true) ∧ Below w.heap.size w w' := by
  by_cases hl : (cs.length : Int) > 300 ∨ (l.length : Int) > 250
  · exact isTrue_any (vs := [chR W H cs.length, V.c (.sl 1 l.length)]) (barriers_long W H cs l h.2 h2.2.2 hl) (hp_2 h h2) (by simp [V.wf, A.wf, C.wf]) rfl
  · exact isTrue_any (vs := [chR W H cs.length, V.c (.sl 1 l.length)]) (barriers_spec W H cs l (fun e => hl (.inl e)) (fun e => hl (.inr e))) (hp_2 h h2) (by simp [V.wf, A.wf, C.wf]) rfl
end Go.Proofs.Ytbhpnhcdjmcaoaa

