/- Texts of the proof, part 6: O1, T3, T4, J1, E1, E2, J2, J3, J4, M1, M2, M3, N6, X4, N15, N7, N8, N16, N17, N10, X3, N11, N12, N18, N19, N13, N14, N20, N21, L0, L3, N9, L10, O3, L12, J5, Y1, L11, J6. -/
import Derived.Test.YtijnimgmpocmaaaDoorDD5
import Derived.WalkKit
import Derived.Below
import Derived.Lib.TrailingZeros
import Derived.Laws.OwnMore
import Derived.Maps.AppendAt
import Derived.Laws.IdiomCopy
import Derived.Laws.CopyRow
import Derived.IntWalk
import Derived.StillTail
import Derived.Scope
import Derived.ChangeKeysEq
import Derived.Laws.Small
import Derived.OrdersIn
import Derived.TacticsIn
import Derived.OwnWalkIn
import Derived.RangeFuncNested
import Derived.RangeFuncLeaves
import Derived.RangeFuncRecord
import Derived.Maps.Keyed
import Derived.Maps.RangeRun
import Derived.DeepKeys4
import Derived.Test.YtijnimgmpocmaaaDoorRows
import Derived.KernelRfl
import Derived.Shelf.Spec.TrailingZeros
import Derived.PlainAid
import Derived.StillTailTactics
import Derived.WalkSpells
import Derived.OwnWalk
import Derived.Deep.RegionLaw
import Derived.Lib.SliceRun
import Derived.Deep.OwnRows
import Derived.LoopTactic
import Derived.Lib.Hide
import Derived.ProofKit
import Derived.OpenShut
import Derived.Lib.SmallJoins
import Derived.Deep.Slices
import Derived.Deep.RegionHeld3
import Derived.Shelf.Sort.Plain
import Derived.Shelf.Slices.In.SortNone
import Derived.Shelf.Slices.CompactI
/- Waste: how kinds, fillings and numbers that came in read. -/
namespace Go.Proofs.YtijnimgmpocmaaaDoor
open Go.RowKit
set_option linter.unusedVariables false
set_option linter.unusedSimpArgs false
open Go.ChangeShapes Go.WideShapes Go.ChangeAt Go.RowKit Go.Deep Go.Joins
theorem ro_at {w : World} {a : Addr} {cs : List Value} (h : ∀ i, i < cs.length → w.cell? (a.add i) = some (cs.getD i undef)) : RoAt w (some a) cs := by
  intro hne
  have hp : 0 < cs.length := List.length_pos_iff.2 hne
  obtain ⟨b, off, spot⟩ := a
  have hspot : spot = none := by simpa [Addr.add] using World.cell?_spot (h 0 hp)
  subst hspot
  refine ⟨b, off, rfl, ?_, fun j hj => by rw [← Go.WideShapes.add_plain]; exact h j hj⟩
  have := World.block_lt_of_cell? _ _ (h 0 hp)
  simpa [Addr.add] using this
theorem add_add (a : Addr) (i j : Nat) : (a.add i).add j = a.add (i + j) := by
  unfold Addr.add
  by_cases hi : i = 0
  · subst hi; simp
  · by_cases hj : j = 0
    · subst hj; simp [hi]
    · simp [hi, hj, Nat.add_assoc]
def cellV (l : List Cell) : List Value := l.flatMap fun x => [.int .i64 x.1, .int .i64 x.2]
theorem cellV_len (l : List Cell) : (cellV l).length = 2 * l.length := by
  induction l with
  | nil => rfl
  | cons x l ih => simp only [cellV, List.flatMap_cons, List.length_append] at *; simp [ih]; omega
theorem cellV_get : ∀ {l : List Cell} {k : Nat}, k < l.length → (cellV l).getD (k * 2) undef = .int .i64 (l.getD k (0, 0)).1 ∧ (cellV l).getD (k * 2 + 1) undef = .int .i64 (l.getD k (0, 0)).2
  | x :: l, 0, _ => ⟨rfl, rfl⟩
  | x :: l, k + 1, h => by
    have := cellV_get (l := l) (k := k) (by simpa using h)
    simp only [cellV, List.flatMap_cons] at *
    rw [show (k + 1) * 2 + 1 = k * 2 + 1 + 1 + 1 by omega, show (k + 1) * 2 = k * 2 + 1 + 1 by omega]
    simpa using this
theorem den_cells (ρ : Env) (l : List Cell) : (cellC l).map (C.den ρ) = cellV l := by
  induction l with
  | nil => rfl
  | cons x l ih => simp only [cellC, cellV, List.flatMap_cons, List.map_append] at *; rw [ih]; rfl
def CellsAt (W : World) (ao : Option Addr) (c : Nat) (l : List Cell) : Prop := RoAt W ao (cellV l) ∧ l.length ≤ c ∧ l.length < 9223372036854775808
def IntsAt (W : World) (ao : Option Addr) (l : List Int) : Prop := RoAt W ao (l.map (Value.int .i64)) ∧ l.length < 9223372036854775808
section
variable {H : Type} {enc : TypeId × Value → H} {W : World} {sp : Nat → Bool}
set_option maxRecDepth 10000 in
theorem open_cells22 {n : Nat} {v : Value} {x : DataW H × List MemPlace} (h : DataW.trod enc Tryd.prog W 0 sp true n 22 [v] = some x) :
    ∃ (ao : Option Addr) (c : Nat) (l : List Cell), v = .slice ao l.length c ∧ CellsAt W ao c l := by
  rcases open_slice Tryd.underlying22 h with ⟨hcs, _⟩ | ⟨a, len, cap, m, f, D, Pl, hcs, _, hl, hmax, hm, _, hx⟩
  · cases hcs
    exact ⟨none, 0, [], rfl, fun hne => absurd rfl hne, by simp, by simp⟩
  · cases hcs
    have hc2 : Tryd.prog.cellsOf 59 = 2 := by kernel_rfl
    have hc1 : Tryd.prog.cellsOf 3 = 1 := by kernel_rfl
    have hlm : len ≤ m := by rw [hm]; split <;> omega
    have hlen : len < 9223372036854775808 := by unfold maxLen at hmax; omega
    rw [hc2] at hx
    obtain ⟨b, hb⟩ := choose_lt (α := Cell) (n := len) (p := fun i y => W.cell? (a.add (i * 2)) = some (.int .i64 y.1) ∧ W.cell? (a.add (i * 2 + 1)) = some (.int .i64 y.2)) (fun i hi => by
      obtain ⟨cs', h1, h2⟩ := hx i (by omega)
      obtain ⟨_, hlen, hcell⟩ := World.cells?_some h1
      obtain ⟨xs, k, _, _, hl2, hxl, hgo⟩ := DataW.trod_array Tryd.underlying59 h2
      match cs', hlen with
      | [c0, c1], _ =>
        have h3 := hgo 0 (by omega)
        have h4 := hgo 1 (by omega)
        simp [hc1] at h3 h4
        obtain ⟨y0, hy0⟩ : ∃ y, xs[0]? = some y := ⟨xs[0]'(by omega), List.getElem?_eq_getElem _⟩
        obtain ⟨y1, hy1⟩ : ∃ y, xs[1]? = some y := ⟨xs[1]'(by omega), List.getElem?_eq_getElem _⟩
        rw [hy0] at h3
        rw [hy1] at h4
        obtain ⟨z0, e0, _, _⟩ := DataW.trod_int Tryd.underlying3 h3
        obtain ⟨z1, e1, _, _⟩ := DataW.trod_int Tryd.underlying3 h4
        cases e0
        cases e1
        have g0 := hcell 0 (by omega)
        have g1 := hcell 1 (by omega)
        rw [add_add] at g0 g1
        exact ⟨(z0, z1), by simpa using g0, by simpa using g1⟩)
    refine ⟨some a, cap, (List.range len).map b, by simp, ro_at (fun i hi => ?_), by simpa using hl, by simpa using hlen⟩
    rw [cellV_len] at hi
    simp only [List.length_map, List.length_range] at hi
    have hq : i / 2 < len := by omega
    obtain ⟨g0, g1⟩ := hb (i / 2) hq
    obtain ⟨k0, k1⟩ := cellV_get (l := (List.range len).map b) (k := i / 2) (by simpa using hq)
    have hgd : ((List.range len).map b).getD (i / 2) (0, 0) = b (i / 2) := by simp [List.getD_eq_getElem?_getD, hq]
    rw [hgd] at k0 k1
    rcases Nat.mod_two_eq_zero_or_one i with hi2 | hi2
    · rw [show i / 2 * 2 = i by omega] at g0 k0
      rw [g0, k0]
    · rw [show i / 2 * 2 + 1 = i by omega] at g1 k1
      rw [g1, k1]
set_option maxRecDepth 100000 in
theorem open_kinds {v : Value} {d : DataW H} {p : List MemPlace} {r : Reach} {b0 : Nat} (hv : Value.okWide Tryd.prog W r b0 24 v) (h : DataW.Trod enc Tryd.prog W 0 sp true 24 v d p) :
    ∃ (N : Int) (ps : List Cell) (ao : Option Addr) (c : Nat), v = .agg #[.int .i64 N, .slice ao ps.length c] ∧ CellsAt W ao c ps := by
  obtain ⟨v0, v1, y0, y1, n, rfl, _, _, h0, h1⟩ := open_agg2 Tryd.underlying24 (by kernel_rfl) (by kernel_rfl) hv h
  obtain ⟨k, e0, _, f0⟩ := DataW.trod_int Tryd.underlying3 h0
  obtain ⟨ao, c, l, rfl, hl⟩ := open_cells22 h1
  cases e0
  exact ⟨k, l, ao, c, rfl, hl⟩
end
/-- Memory that comes in, with the room behind it. -/
theorem Hp.rosz {ρ : Env} {w : World} {L : List E} {nx : Nat} (h : ∀ e ∈ L, (∃ z, e.kd = .ro z ∧ (z = 0 ∨ e.cs.length ≤ (ρ e.lab).2 * z)) ∧ e.lab < nx ∧ (∀ c ∈ e.cs, c.wf nx) ∧ RoAt w (ρ e.lab).1 (e.cs.map (C.den ρ))) (hd : injB [] L = true) (hF : Fct w.heap.size w) : Hp w.heap.size ρ w L nx := by
  refine ⟨⟨Nat.le_refl _, hF⟩, fun e he => ?_, fun e he => ⟨(h e he).2.1, (h e he).2.2.1⟩, fun e he e' he' hl => injB_spec hd e he e' he' (.inl hl), fun e he e' he' hro => ?_⟩
  · obtain ⟨⟨z, h1, h2⟩, h3, h4, h5⟩ := h e he
    obtain ⟨lab, kd, cs⟩ := e
    simp only at h1 h2
    subst h1
    exact ⟨h5, h2⟩
  · obtain ⟨⟨z, h1, _⟩, _⟩ := h e he
    rw [h1] at hro; cases hro
/-- Where what came in lies: label k at place k. -/
def envL (l : List (Option Addr × Nat)) : Env := fun k => l.getD k (none, 0)
theorem ent_cells {W : World} {ρ : Env} {l : List Cell} {k nx c : Nat} {ao : Option Addr} (h : CellsAt W ao c l) (hk : k < nx) (hr : ρ k = (ao, c)) : (∃ z, (Kd.ro 2) = .ro z ∧ (z = 0 ∨ (cellC l).length ≤ (ρ k).2 * z)) ∧ k < nx ∧ (∀ c ∈ cellC l, c.wf nx) ∧ RoAt W (ρ k).1 ((cellC l).map (C.den ρ)) := by
  refine ⟨⟨2, rfl, .inr ?_⟩, hk, wf_cells _ _, ?_⟩
  · rw [hr, cellC_len]; have := h.2.1; simp only; omega
  · rw [den_cells, hr]; exact h.1
theorem isTrue_any {f : FuncId} {vs : List V} {L : List E} {na : Nat} {ρ : Env} {w : World} {args : Array Value} (spec : Spec Tryd.prog f vs L na (Is (V.c (.bool true)))) (hp : Hp w.heap.size ρ w L na) (hv : ∀ v ∈ vs, v.wf na) (ha : (vs.map (V.den ρ)).toArray = args) :
    Calls Tryd.prog f args w fun e w' => e = .returned (.bool true) ∧ Below w.heap.size w w' := by
  subst ha
  refine (spec ρ w hp hv).mono ?_
  rintro e w' ⟨v, ρ', L', nx', rfl, h1, h2, h3, h4, h5, h6⟩
  exact ⟨by rw [h6 ρ']; rfl, h4⟩
end Go.Proofs.YtijnimgmpocmaaaDoor

/- Waste: Without, walked by the kit's tactics (its last region draws its order and turns a row). -/
namespace Go.Proofs.YtijnimgmpocmaaaDoor
open Go.RowKit
set_option linter.unusedVariables false
set_option linter.unusedSimpArgs false
open Go.ChangeShapes Go.WideShapes Go.ChangeAt Go.RowKit Go.Deep Go.Joins
theorem rowO.base {w : World} {b b' e sz n : Nat} {v : Value} {xs : List Value} (h : rowO w b e sz v n xs) (hb : b' ≤ b) : rowO w b' e sz v n xs := by
  obtain ⟨h1, h2 | ⟨g, off, cap, cur, hv, hg, h3⟩⟩ := h
  · exact ⟨h1, .inl h2⟩
  · exact ⟨h1, .inr ⟨g, off, cap, cur, hv, by omega, h3⟩⟩
end Go.Proofs.YtijnimgmpocmaaaDoor

/- Waste: Without. -/
namespace Go.Proofs.YtijnimgmpocmaaaDoor
open Go.RowKit
set_option linter.unusedVariables false
set_option linter.unusedSimpArgs false
@[reducible] def kX (N : Int) (ps : List Cell) : V := V.agg [C.i N, C.sl 0 ps.length]
/-- The error of a pair. -/
def pairE (N : Int) (ps : List Cell) (z : Int) : Int := if okK' N ps then (if 0 ≤ z ∧ z ≤ (ps.length : Int) - 1 then 0 else 2) else 70
end Go.Proofs.YtijnimgmpocmaaaDoor

/- Waste: the kinds of a table. -/
namespace Go.Proofs.YtijnimgmpocmaaaDoor
open Go.RowKit
set_option linter.unusedVariables false
set_option linter.unusedSimpArgs false
/-- The pairs of a row, of its first k kinds. -/
def prI (s a k : Nat) : List (Nat × Nat) := (((bitsL s).take k).filter fun b => decide (a < b)).map fun b => (a, b)
def prK (t : List Nat) (a : Nat) : List (Nat × Nat) := (List.range a).flatMap fun i => prI (t.getD i 0) i (bitsL (t.getD i 0)).length
/-- Kinds whose pairs may be nil. -/
def optK (n : Int) (ps : List Cell) (v : V) (L' : List E) : Prop :=
  ∃ o : C, v = V.agg [C.i n, o] ∧ ((o = C.nil ∧ ps = []) ∨ ∃ lab, o = C.sl lab ps.length ∧ find L' lab = some ⟨lab, .vec 59 2, cellC ps⟩)
section
variable {P : Program} {n0 nx nac : Nat} {f : FuncId} {vs vs' : List V} {Lc L : List E} {R : Rn} {K : V → List E → Nat → Prop}
theorem CallK.optK {n : Int} {ps : List Cell} (spec : Spec P f vs Lc nac (fun v L' _ => optK n ps v L')) (hok : callB P f = true)
    (hv : renVs R vs = some vs') (hvw : ∀ v ∈ vs, v.wf nac) (hL : roL R nac L Lc) (hLc : injB [] Lc = true)
    (hK : K (V.agg [C.i n, .sl nx ps.length]) [⟨nx, .vec 59 2, cellC ps⟩] (nx + 1)) : CallK P n0 f vs' L nx K := by
  refine CallK.mk' hok spec hv hvw hL hLc ?_
  rintro v L' nx' hw ⟨o, rfl, ⟨rfl, rfl⟩ | ⟨lab, rfl, hf⟩⟩
  · refine ⟨V.agg [C.i n, .sl nx 0], [⟨nx, .vec 59 2, []⟩], nx + 1, [(nx, none)], ⟨Nat.le_succ _, ?_, ?_, ⟨covE_nil (renL_one _ _) (Nat.lt_succ_self nx) rfl rfl, trivial⟩, rfl, ?_⟩, hK⟩
    · simp [V.ren, A.ren, C.ren, renL_one, C.i, seqO]
    · simp [V.chk, A.chk, C.chk, inLab_one, C.i]
    · simp only [List.all_cons, List.all_nil, Bool.and_true, inLab_one, Kd.isRo, Bool.not_false]
  · refine ⟨V.agg [C.i n, .sl nx ps.length], [⟨nx, .vec 59 2, cellC ps⟩], nx + 1, [(nx, some lab)], ⟨Nat.le_succ _, ?_, ?_, ⟨covE_some (renL_one _ _) (Nat.lt_succ_self nx) (wf_cells _ _) hf (ren_cells _ _), trivial⟩, rfl, ?_⟩, hK⟩
    · simp [V.ren, A.ren, C.ren, renL_one, C.i, seqO]
    · simp [V.chk, A.chk, C.chk, inLab_one, C.i]
    · simp only [List.all_cons, List.all_nil, Bool.and_true, inLab_one, Kd.isRo, Bool.not_false, Bool.true_and]
      exact chk_cells _ _
end
theorem covE_c {R : Rn} {nx lab l : Nat} {L : List E} {us : List Cell} {kd : Kd} {cs' : List C} (hr : renL R lab = some l) (h1 : lab < nx) (h3 : find L l = some ⟨l, kd, cs'⟩) (h4 : cs' = cellC us) : covE R nx L ⟨lab, kd, cellC us⟩ := by
  subst h4; exact covE_some hr h1 (wf_cells _ _) h3 (ren_cells _ _)
end Go.Proofs.YtijnimgmpocmaaaDoor

/- Waste: the fewest skips. -/
namespace Go.Proofs.YtijnimgmpocmaaaDoor
open Go.RowKit
set_option linter.unusedVariables false
set_option linter.unusedSimpArgs false
theorem pos_spec (x : Int) : Spec Tryd.prog 97 [V.i x] [] 1 (Is (V.c (.bool (decide (x > 0))))) := by
  refine Spec.of tok Tryd.func97 rfl rfl rfl fun n0 cx => vc_ok tok ?_
  repeat ((conv => whnf); first | (refine And.intro (by first | omega | exact Nat.le_of_ble_eq_true rfl | (dsimp only [inK]; omega) | (simp only [mulS_eq]; omega) | (simp only [mulS_eq, setL_length]; omega) | (simp only [setL_length]; omega) | (simp only [setL_length, List.length_map]; omega) | (exact ⟨by omega, by omega, by first | exact Nat.le_of_ble_eq_true rfl | (dsimp only; omega) | (simp only [setL_length]; omega) | (simp only [setL_length, List.length_map]; omega)⟩) | (exact ⟨by omega, by first | rfl | omega, by omega, Nat.le_of_ble_eq_true rfl, Nat.le_of_ble_eq_true rfl⟩) | (exact ⟨rfl, rfl, rfl, Nat.le_of_ble_eq_true rfl, by first | rfl | omega | exact Nat.le_of_ble_eq_true rfl | (dsimp only; omega) | (simp; done) | (simp; omega), by first | rfl | omega | exact Nat.le_of_ble_eq_true rfl | (dsimp only; omega) | (simp; done) | (simp; omega), by omega, Nat.le_of_ble_eq_true rfl⟩) | exact Eq.refl true) ?_) | refine Exists.intro _ (And.intro rfl ?_) | refine And.intro (And.intro rfl (chk_rowI _ _ _ _)) ?_ | refine br_t (by omega) ?_ | refine br_f (by omega) ?_ | refine bs_t (by omega) ?_ | refine bs_f (by omega) ?_ | refine fun (K' : K3) hK' => ?_ | (refine hK' _ _ _ ?_; clear hK' K') | refine draw_auto tok mixed (by kernel_rfl) ?_ | refine bs_bt (Eq.refl true) ?_ | refine bs_bf (Eq.refl false) ?_ | refine br_bt (Eq.refl true) ?_ | refine br_bf (Eq.refl false) ?_ | refine CallK.m ?_ | refine Two.l ?_ | refine And.intro (And.intro rfl rfl) ?_)
  intro ρ; rfl
def fewI (t : List Nat) (n : Nat) : Int := idxV (fnL (srtW t) (n + 1)) fun x => decide (x > 0)
theorem fewest_spec (t : List Nat) (n : Nat) (htl : t.length = n) (hn : n ≤ 8) (ht : ∀ s ∈ t, s < 256) : Spec Tryd.prog 70 [V.c (.sl 0 n)] [⟨0, .ro 0, t.map C.u⟩] 1 (Is (V.i (fewI t n))) := by
  have hso := sorts_spec t n htl hn ht
  have hix := index_any (Lc := []) (na := 1) (p := fun x => decide (x > 0)) (l := fnL (srtW t) (n + 1)) (f := 97) (caps := []) (by rw [fnL_len]; omega) (by kernel_rfl) (fun i hi => pos_spec _) (by simp) (by omega) (by simp) (fun _ _ => trivial) rfl
  rw [fnL_len] at hix
  refine Spec.of tok Tryd.func70 rfl rfl rfl fun n0 cx => vc_ok tok ?_
  repeat ((conv => whnf); first | (refine And.intro (by first | omega | exact Nat.le_of_ble_eq_true rfl | (dsimp only [inK]; omega) | (simp only [mulS_eq]; omega) | (simp only [mulS_eq, setL_length]; omega) | (simp only [setL_length]; omega) | (simp only [setL_length, List.length_map]; omega) | (exact ⟨by omega, by omega, by first | exact Nat.le_of_ble_eq_true rfl | (dsimp only; omega) | (simp only [setL_length]; omega) | (simp only [setL_length, List.length_map]; omega)⟩) | (exact ⟨by omega, by first | rfl | omega, by omega, Nat.le_of_ble_eq_true rfl, Nat.le_of_ble_eq_true rfl⟩) | (exact ⟨rfl, rfl, rfl, Nat.le_of_ble_eq_true rfl, by first | rfl | omega | exact Nat.le_of_ble_eq_true rfl | (dsimp only; omega) | (simp; done) | (simp; omega), by first | rfl | omega | exact Nat.le_of_ble_eq_true rfl | (dsimp only; omega) | (simp; done) | (simp; omega), by omega, Nat.le_of_ble_eq_true rfl⟩) | exact Eq.refl true) ?_) | refine Exists.intro _ (And.intro rfl ?_) | refine And.intro (And.intro rfl (chk_rowI _ _ _ _)) ?_ | refine br_t (by omega) ?_ | refine br_f (by omega) ?_ | refine bs_t (by omega) ?_ | refine bs_f (by omega) ?_ | refine fun (K' : K3) hK' => ?_ | (refine hK' _ _ _ ?_; clear hK' K') | refine draw_auto tok mixed (by kernel_rfl) ?_ | refine CallK.rowF (R := []) (flat_i _) hso (by kernel_rfl) rfl (by simp [V.wf, A.wf, C.wf]) ⟨roE_f (flat_u _) (l := 0) rfl (by omega) rfl (.inl rfl), trivial⟩ rfl ?_ | refine CallK.val (R := [(0, some 1)]) hix (by kernel_rfl) rfl (by simp [V.wf, A.wf, C.wf]) ⟨roE_f (flat_i _) (l := 1) rfl (by omega) rfl (.inl rfl), trivial⟩ rfl rfl trivial ?_ | refine bs_bt (Eq.refl true) ?_ | refine bs_bf (Eq.refl false) ?_ | refine br_bt (Eq.refl true) ?_ | refine br_bf (Eq.refl false) ?_ | refine CallK.m ?_ | refine Two.l ?_ | refine And.intro (And.intro rfl rfl) ?_)
  intro ρ; rfl
set_option maxRecDepth 10000 in
theorem Fewest_spec (n : Nat) (qs : List (Nat × Nat)) (hk : Knd n qs) : Spec Tryd.prog 31 [V.agg [C.i n, C.sl 0 (castP qs).length]] [⟨0, .ro 2, cellC (castP qs)⟩] 1 (Is (V.tup [A.c (C.i (fewI (tabS n qs) n)), A.c (C.i 0)])) := by
  have hnt := newTable_spec n qs hk
  have hfe := fewest_spec (tabS n qs) n (tabS_len n qs) hk.rng.2 (tabS_256 hk)
  refine Spec.of tok Tryd.func31 rfl rfl rfl fun n0 cx => vc_ok tok ?_
  repeat ((conv => whnf); first | (refine And.intro (by first | omega | exact Nat.le_of_ble_eq_true rfl | (dsimp only [inK]; omega) | (simp only [mulS_eq]; omega) | (simp only [mulS_eq, setL_length]; omega) | (simp only [setL_length]; omega) | (simp only [setL_length, List.length_map]; omega) | (exact ⟨by omega, by omega, by first | exact Nat.le_of_ble_eq_true rfl | (dsimp only; omega) | (simp only [setL_length]; omega) | (simp only [setL_length, List.length_map]; omega)⟩) | (exact ⟨by omega, by first | rfl | omega, by omega, Nat.le_of_ble_eq_true rfl, Nat.le_of_ble_eq_true rfl⟩) | (exact ⟨rfl, rfl, rfl, Nat.le_of_ble_eq_true rfl, by first | rfl | omega | exact Nat.le_of_ble_eq_true rfl | (dsimp only; omega) | (simp; done) | (simp; omega), by first | rfl | omega | exact Nat.le_of_ble_eq_true rfl | (dsimp only; omega) | (simp; done) | (simp; omega), by omega, Nat.le_of_ble_eq_true rfl⟩) | exact Eq.refl true) ?_) | refine Exists.intro _ (And.intro rfl ?_) | refine And.intro (And.intro rfl (chk_rowI _ _ _ _)) ?_ | refine br_t (by omega) ?_ | refine br_f (by omega) ?_ | refine bs_t (by omega) ?_ | refine bs_f (by omega) ?_ | refine fun (K' : K3) hK' => ?_ | (refine hK' _ _ _ ?_; clear hK' K') | refine draw_auto tok mixed (by kernel_rfl) ?_ | refine CallK.rowE (R := []) (flat_u _) hnt (by kernel_rfl) rfl (by simp [V.wf, A.wf, C.wf]) ⟨roE_f (flat_c _) (l := 0) rfl (by omega) rfl (.inr rfl), trivial⟩ rfl ?_ | refine CallK.val (R := [(0, some 2)]) hfe (by kernel_rfl) rfl (by simp [V.wf, A.wf, C.wf]) ⟨roE_f (flat_u _) (l := 2) rfl (by omega) rfl (.inl rfl), trivial⟩ rfl rfl trivial ?_ | refine bs_bt (Eq.refl true) ?_ | refine bs_bf (Eq.refl false) ?_ | refine br_bt (Eq.refl true) ?_ | refine br_bf (Eq.refl false) ?_ | refine CallK.m ?_ | refine Two.l ?_ | refine And.intro (And.intro rfl rfl) ?_)
  intro ρ; rfl
theorem srt_sig {n : Nat} {qs : List (Nat × Nat)} (hk : Knd n qs) (j : Nat) : srtW (tabS n qs) j = sig (symC (clP qs)) (List.range n) j := by
  have hl := tabS_len n qs
  have := waysB_sig (cl := symC (clP qs)) (t := tabS n qs) (fun a b _ _ => tabS_cl hk a b) j
  rw [hl] at this
  unfold srtW; rw [hl]; exact this
theorem fewI_least {n : Nat} {qs : List (Nat × Nat)} (hk : Knd n qs) : ∃ k, k ≤ n ∧ fewI (tabS n qs) n = (k : Nat) ∧ 0 < sig (symC (clP qs)) (List.range n) k ∧ ∀ j, j < k → sig (symC (clP qs)) (List.range n) j = 0 := by
  unfold fewI idxV
  cases h : (fnL (srtW (tabS n qs)) (n + 1)).findIdx? fun x => decide (x > 0) with
  | none =>
    exfalso
    have h1 := List.findIdx?_eq_none_iff.1 h (srtW (tabS n qs) n) (List.mem_map.2 ⟨n, List.mem_range.2 (by omega), rfl⟩)
    have h2 := sig_top (symC (clP qs)) (List.range n)
    rw [List.length_range] at h2
    rw [srt_sig hk, h2] at h1
    simp at h1
  | some k =>
    obtain ⟨h1, h2, h3⟩ := List.findIdx?_eq_some_iff_getElem.1 h
    rw [fnL_len] at h1
    have hg : ∀ j (hj : j < (fnL (srtW (tabS n qs)) (n + 1)).length), (fnL (srtW (tabS n qs)) (n + 1))[j] = srtW (tabS n qs) j := fun j hj => by simp [fnL]
    refine ⟨k, by omega, rfl, ?_, fun j hj => ?_⟩
    · rw [hg, srt_sig hk] at h2; simpa using h2
    · have h4 := h3 j hj
      rw [hg, srt_sig hk] at h4
      have h5 := sig_nonneg (symC (clP qs)) (List.range n) j
      simp at h4
      omega
end Go.Proofs.YtijnimgmpocmaaaDoor

/- Waste, plain: a pair less. -/
namespace Go.Proofs.YtijnimgmpocmaaaDoor
open Go.RowKit
set_option linter.unusedVariables false
set_option linter.unusedSimpArgs false
theorem Knd.erase {n : Nat} {qs : List (Nat × Nat)} (hk : Knd n qs) (i : Nat) : Knd n (qs.eraseIdx i) :=
  ⟨hk.rng, fun p hp => hk.ok p (List.mem_of_mem_eraseIdx hp), hk.nd.sublist (List.eraseIdx_sublist _ _)⟩
end Go.Proofs.YtijnimgmpocmaaaDoor

/- Waste: Joined. -/
namespace Go.Proofs.YtijnimgmpocmaaaDoor
open Go.RowKit
set_option linter.unusedVariables false
set_option linter.unusedSimpArgs false
def jn1 (u v : Nat) (t : List Nat) (p : Nat × Nat) : List Nat :=
  if nam u v p.1 = nam u v p.2 then t else (t.set (nam u v p.1) (t.getD (nam u v p.1) 0 ||| 2 ^ nam u v p.2)).set (nam u v p.2) (t.getD (nam u v p.2) 0 ||| 2 ^ nam u v p.1)
def jnK (n u v : Nat) (qs : List (Nat × Nat)) : Nat → List Nat
  | 0 => List.replicate (n - 1) 0
  | k + 1 => jn1 u v (jnK n u v qs k) (qs.getD k (0, 0))
/-- The pairs of the joined kinds. -/
def jnQ (n : Nat) (qs : List (Nat × Nat)) (i : Nat) : List (Nat × Nat) := prK (jnK n (qs.getD i (0, 0)).1 (qs.getD i (0, 0)).2 qs qs.length) (n - 1)
def rowA (t z m : Nat) (N : Int) (cs : List C) (v : V) (L' : List E) : Prop := ∃ lab, v = V.tup [A.agg [C.i N, .sl lab m], A.c (C.i 0)] ∧ find L' lab = some ⟨lab, .vec t z, cs⟩
section
variable {P : Program} {n0 nx nac : Nat} {f : FuncId} {vs vs' : List V} {Lc L : List E} {R : Rn} {K : V → List E → Nat → Prop}
theorem CallK.rowA {t z m : Nat} {N : Int} {cs : List C} (hfl : FlatC cs) (spec : Spec P f vs Lc nac (fun v L' _ => rowA t z m N cs v L')) (hok : callB P f = true)
    (hv : renVs R vs = some vs') (hvw : ∀ v ∈ vs, v.wf nac) (hL : roL R nac L Lc) (hLc : injB [] Lc = true)
    (hK : K (V.tup [A.agg [C.i N, .sl nx m], A.c (C.i 0)]) [⟨nx, .vec t z, cs⟩] (nx + 1)) : CallK P n0 f vs' L nx K := by
  refine CallK.mk' hok spec hv hvw hL hLc ?_
  rintro v L' nx' hw ⟨lab, rfl, hf⟩
  refine ⟨V.tup [A.agg [C.i N, .sl nx m], A.c (C.i 0)], [⟨nx, .vec t z, cs⟩], nx + 1, [(nx, some lab)], ⟨Nat.le_succ _, ?_, ?_, ⟨covE_some (renL_one _ _) (Nat.lt_succ_self nx) (hfl.wf _) hf (hfl.ren _), trivial⟩, rfl, ?_⟩, hK⟩
  · simp [V.ren, A.ren, C.ren, renL_one, C.i, seqO]
  · simp [V.chk, A.chk, C.chk, inLab_one, C.i]
  · simp only [List.all_cons, List.all_nil, Bool.and_true, inLab_one, Kd.isRo, Bool.not_false, Bool.true_and]
    exact hfl.chk _
end
end Go.Proofs.YtijnimgmpocmaaaDoor

/- Waste, plain: the joined kinds. -/
namespace Go.Proofs.YtijnimgmpocmaaaDoor
open Go.RowKit
set_option linter.unusedVariables false
set_option linter.unusedSimpArgs false
section
variable {n : Nat} {qs : List (Nat × Nat)} {i : Nat}
end
end Go.Proofs.YtijnimgmpocmaaaDoor

/- Waste: light. -/
namespace Go.Proofs.YtijnimgmpocmaaaDoor
open Go.RowKit
set_option linter.unusedVariables false
set_option linter.unusedSimpArgs false
theorem roE_fe {R : Rn} {nx lab l z : Nat} {k : Kd} {L : List E} {cs cs' : List C} (hfl : FlatC cs) (hr : renL R lab = some l) (h1 : lab < nx) (h3 : find L l = some ⟨l, k, cs'⟩) (hz : z = 0 ∨ k.z = some z) (he : cs' = cs) : roE R nx L ⟨lab, .ro z, cs⟩ := by
  subst he; exact roE_f hfl hr h1 h3 hz
end Go.Proofs.YtijnimgmpocmaaaDoor

/- Waste: the document's pairs left out, and whether kinds are the same. -/
namespace Go.Proofs.YtijnimgmpocmaaaDoor
open Go.RowKit
set_option linter.unusedVariables false
set_option linter.unusedSimpArgs false
/-- What has come behind some pairs. -/
def erK (ps : List Cell) (i k : Nat) : List Cell := (ps.take k).eraseIdx i
end Go.Proofs.YtijnimgmpocmaaaDoor

/- Waste: the kinds of which the others clash. -/
namespace Go.Proofs.YtijnimgmpocmaaaDoor
open Go.RowKit
set_option linter.unusedVariables false
set_option linter.unusedSimpArgs false
def otF (t : List Nat) (n a : Nat) : Nat := dif (2 ^ n - 1) (t.getD a 0 ||| 2 ^ a)
def otK (t : List Nat) (n k : Nat) : List Nat := (List.range k).map (otF t n)
def otQ (n : Nat) (qs : List (Nat × Nat)) : List (Nat × Nat) := prK (otK (tabS n qs) n n) n
end Go.Proofs.YtijnimgmpocmaaaDoor

/- Waste: the document's kinds of which the others clash. -/
namespace Go.Proofs.YtijnimgmpocmaaaDoor
open Go.RowKit
set_option linter.unusedVariables false
set_option linter.unusedSimpArgs false
/-- Pairs in ascending order. -/
def plB (f : Nat → Nat → Bool) (a b : Nat) : List (Nat × Nat) := ((List.range b).filter fun b => decide (a < b) && f a b).map fun b => (a, b)
def plA (f : Nat → Nat → Bool) (n a : Nat) : List (Nat × Nat) := (List.range a).flatMap fun a => plB f a n
end Go.Proofs.YtijnimgmpocmaaaDoor

/- Waste: the kinds of a set as a list, lists compared. -/
namespace Go.Proofs.YtijnimgmpocmaaaDoor
open Go.RowKit
set_option linter.unusedVariables false
set_option linter.unusedSimpArgs false
/-- Lists compared. -/
def cmpR : List Nat → List Nat → Int
  | x :: a, y :: b => if x < y then -1 else if y < x then 1 else cmpR a b
  | _, _ => 0
def lexB : List Nat → List Nat → Bool
  | x :: a, y :: b => if x = y then lexB a b else decide (x < y)
  | _, _ => false
def cmpI (x y : Int) : Int := if x < y then -1 else if x > y then 1 else 0
theorem natI_get {l : List Nat} {k : Nat} (h : k < l.length) : (natI l).getD k 0 = (l.getD k 0 : Nat) := by
  simp [natI, List.getD_eq_getElem?_getD, h]
end Go.Proofs.YtijnimgmpocmaaaDoor

/- slices.Sort and slices.Compact at integers: where the library's text lies in this program; the calls. -/
namespace Go.Proofs.YtijnimgmpocmaaaDoor
open Go.RowKit
set_option linter.unusedVariables false
set_option linter.unusedSimpArgs false
def ren189 : Go.Shelf.Ren := ⟨fun x => match x with
  | 189 => 106
  | 125 => 119
  | 257 => 118
  | 128 => 130
  | 129 => 131
  | 294 => 121
  | 295 => 122
  | 296 => 123
  | 297 => 124
  | 298 => 125
  | 299 => 126
  | 216 => 127
  | 300 => 128
  | 301 => 129
  | 328 => 132
  | 329 => 133
  | 330 => 134
  | 331 => 135
  | 332 => 136
  | 215 => 120
  | 343 => 137
  | n => n, fun x => match x with
  | 28 => 25
  | 3 => 3
  | 46 => 74
  | 0 => 0
  | 51 => 110
  | 53 => 112
  | 4 => 4
  | 183 => 123
  | 182 => 122
  | 131 => 127
  | 5 => 5
  | 9 => 9
  | 218 => 129
  | 222 => 133
  | 228 => 135
  | 229 => 136
  | n => n, fun x => x⟩
theorem lays189 : Lays.n189 Tryd.prog ren189 where
  mixed := by kernel_rfl
  f125 := Tryd.func119.trans (congrArg some (by kernel_rfl))
  f128 := Tryd.func130.trans (congrArg some (by kernel_rfl))
  f129 := Tryd.func131.trans (congrArg some (by kernel_rfl))
  f189 := Tryd.func106.trans (congrArg some (by kernel_rfl))
  f215 := Tryd.func120.trans (congrArg some (by kernel_rfl))
  f216 := Tryd.func127.trans (congrArg some (by kernel_rfl))
  f257 := Tryd.func118.trans (congrArg some (by kernel_rfl))
  f294 := Tryd.func121.trans (congrArg some (by kernel_rfl))
  f295 := Tryd.func122.trans (congrArg some (by kernel_rfl))
  f296 := Tryd.func123.trans (congrArg some (by kernel_rfl))
  f297 := Tryd.func124.trans (congrArg some (by kernel_rfl))
  f298 := Tryd.func125.trans (congrArg some (by kernel_rfl))
  f299 := Tryd.func126.trans (congrArg some (by kernel_rfl))
  f300 := Tryd.func128.trans (congrArg some (by kernel_rfl))
  f301 := Tryd.func129.trans (congrArg some (by kernel_rfl))
  f328 := Tryd.func132.trans (congrArg some (by kernel_rfl))
  f329 := Tryd.func133.trans (congrArg some (by kernel_rfl))
  f330 := Tryd.func134.trans (congrArg some (by kernel_rfl))
  f331 := Tryd.func135.trans (congrArg some (by kernel_rfl))
  f332 := Tryd.func136.trans (congrArg some (by kernel_rfl))
  f343 := Tryd.func137.trans (congrArg some (by kernel_rfl))
  t0 := Tryd.underlying0
  a0 := Tryd.isAgg0
  z0 := Tryd.sizeOf0
  v0 := Tryd.zeroValue0
  t3 := Tryd.underlying3
  a3 := Tryd.isAgg3
  z3 := Tryd.sizeOf3
  v3 := Tryd.zeroValue3
  t4 := Tryd.underlying4
  a4 := Tryd.isAgg4
  z4 := Tryd.sizeOf4
  v4 := Tryd.zeroValue4
  t5 := Tryd.underlying5
  a5 := Tryd.isAgg5
  z5 := Tryd.sizeOf5
  v5 := Tryd.zeroValue5
  t9 := Tryd.underlying9
  a9 := Tryd.isAgg9
  z9 := Tryd.sizeOf9
  v9 := Tryd.zeroValue9
  t28 := Tryd.underlying25
  a28 := Tryd.isAgg25
  z28 := Tryd.sizeOf25
  v28 := Tryd.zeroValue25
  t46 := Tryd.underlying74
  a46 := Tryd.isAgg74
  z46 := Tryd.sizeOf74
  v46 := Tryd.zeroValue74
  t51 := Tryd.underlying110
  a51 := Tryd.isAgg110
  z51 := Tryd.sizeOf110
  v51 := Tryd.zeroValue110
  t53 := Tryd.underlying112
  a53 := Tryd.isAgg112
  z53 := Tryd.sizeOf112
  v53 := Tryd.zeroValue112
  t131 := Tryd.underlying127
  a131 := Tryd.isAgg127
  z131 := Tryd.sizeOf127
  v131 := Tryd.zeroValue127
  t182 := Tryd.underlying122
  a182 := Tryd.isAgg122
  z182 := Tryd.sizeOf122
  v182 := Tryd.zeroValue122
  t183 := Tryd.underlying123
  a183 := Tryd.isAgg123
  z183 := Tryd.sizeOf123
  v183 := Tryd.zeroValue123
  t218 := Tryd.underlying129
  a218 := Tryd.isAgg129
  z218 := Tryd.sizeOf129
  v218 := Tryd.zeroValue129
  t222 := Tryd.underlying133
  a222 := Tryd.isAgg133
  z222 := Tryd.sizeOf133
  v222 := Tryd.zeroValue133
  t228 := Tryd.underlying135
  a228 := Tryd.isAgg135
  z228 := Tryd.sizeOf135
  v228 := Tryd.zeroValue135
  t229 := Tryd.underlying136
  a229 := Tryd.isAgg136
  z229 := Tryd.sizeOf136
  v229 := Tryd.zeroValue136
def ren20 : Go.Shelf.Ren := ⟨fun x => match x with
  | 20 => 85
  | n => n, fun x => match x with
  | 22 => 25
  | n => n, fun x => x⟩
theorem lays20 : Lays2.n20 Tryd.prog ren20 where
  mixed := by kernel_rfl
  f20 := Tryd.func85.trans (congrArg some (by kernel_rfl))
  t0 := Tryd.underlying0
  a0 := Tryd.isAgg0
  z0 := Tryd.sizeOf0
  v0 := Tryd.zeroValue0
  t3 := Tryd.underlying3
  a3 := Tryd.isAgg3
  z3 := Tryd.sizeOf3
  v3 := Tryd.zeroValue3
  t4 := Tryd.underlying4
  a4 := Tryd.isAgg4
  z4 := Tryd.sizeOf4
  v4 := Tryd.zeroValue4
  t22 := Tryd.underlying25
  a22 := Tryd.isAgg25
  z22 := Tryd.sizeOf25
  v22 := Tryd.zeroValue25
  i3 := by kernel_rfl
open Go.Sort in
theorem heap_putRow {w : World} {g off : Nat} {d : Array Int} {cur : Array Value} {t : TypeId} (hg : w.heap[g]? = some (.cells cur t (0, 0))) : (putRow (Value.int .i64) w g off d).heap[g]? = some (.cells (putCells (Value.int .i64) off d cur) t (0, 0)) := by
  simp only [putRow, mapBlock]
  rw [Array.getElem?_modify, if_pos rfl, hg]; rfl
open Go.Sort in
theorem take_putCells {off : Nat} {d : Array Int} {cur : Array Value} (h : off + d.size ≤ cur.size) : ((putCells (Value.int .i64) off d cur).toList.drop off).take d.size = d.toList.map (Value.int .i64) := by
  apply List.ext_getElem
  · simp [putCells]; omega
  · intro i h1 h2
    have hi : i < d.size := by simpa using h2
    simp [putCells, List.getElem_take, List.getElem_drop, hi]
open Go.Sort in
theorem sort_any (g off n cap : Nat) (w : World) (n0 : Nat) (q : List Int) (hown : rowO w n0 3 1 (.slice (some ⟨g, off, none⟩) n cap) n (q.map (Value.int .i64))) (hq : q.length = n) (hn : n ≤ 1000) :
    Calls Tryd.prog 106 #[.slice (some ⟨g, off, none⟩) n cap] w fun e w' => e = .returned (.tuple #[]) ∧ w.grownBy w' (some g) ∧ rowO w' n0 3 1 (.slice (some ⟨g, off, none⟩) n cap) n ((q.mergeSort fun x y => decide (x ≤ y)).map (Value.int .i64)) := by
  obtain ⟨hx, ⟨h', _⟩ | ⟨g', off', cap', cur, h', hb, hg, hnc, hcm, hcs, htake⟩⟩ := hown
  · simp at h'
  simp only [Value.slice.injEq, Option.some.injEq, Addr.mk.injEq, and_true, true_and] at h'
  obtain ⟨⟨rfl, rfl⟩, rfl⟩ := h'
  subst hq
  have hH : Holds (Value.int .i64) w g off q.toArray := by
    intro j hj
    have hj' : j < q.length := by simpa using hj
    refine ⟨?_, frozen_of_row w g (off + j) cur 3 hg⟩
    rw [cell_of_row w g (off + j) cur 3 (0, 0) hg]
    have h1 : (q.map (Value.int .i64))[j]? = some (.int .i64 q[j]) := by simp [hj']
    rw [← htake, List.getElem?_take, if_pos (by omega), List.getElem?_drop] at h1
    simp only [Array.getElem?_toList] at h1
    rw [h1]
    simp [hj']
  have hc := Any.slices_Sort_int lays189 g off cap q w hH (Array.getElem?_eq_some_iff.1 hg).1 (by omega)
  refine Calls.mono (show Calls Tryd.prog 106 _ w _ from hc) ?_
  rintro e w' ⟨rfl, m, os, rfl⟩
  have hlen : (q.mergeSort fun x y => decide (x ≤ y)).length = q.length := List.length_mergeSort ..
  have hgl := (Array.getElem?_eq_some_iff.1 hg).1
  have hg1 : (grow (putRow (Value.int .i64) (Sort.ahead w m) g off (q.mergeSort fun x y => decide (x ≤ y)).toArray) os).heap[g]? = some (.cells (putCells (Value.int .i64) off (q.mergeSort fun x y => decide (x ≤ y)).toArray cur) 3 (0, 0)) := by
    have h1 := heap_putRow (w := Sort.ahead w m) (off := off) (d := (q.mergeSort fun x y => decide (x ≤ y)).toArray) hg
    show (_ ++ os)[g]? = _
    rw [Array.getElem?_append_left (by rw [size_putRow]; exact hgl)]
    exact h1
  refine ⟨rfl, ⟨rfl, rfl, rfl, ?_, ?_⟩, by simp [hlen], .inr ⟨g, off, cap, _, rfl, hb, hg1, hnc, hcm, ?_, ?_⟩⟩
  · show w.heap.size ≤ (_ ++ os).size
    rw [Array.size_append, size_putRow]
    show w.heap.size ≤ w.heap.size + os.size
    omega
  · intro k hk hne
    show (_ ++ os)[k]? = _
    rw [Array.getElem?_append_left (by rw [size_putRow]; exact hk)]
    simp only [putRow, mapBlock]
    rw [Array.getElem?_modify, if_neg (fun e => hne (by rw [e]))]
    rfl
  · simpa [putCells] using hcs
  · have := take_putCells (off := off) (d := (q.mergeSort fun x y => decide (x ≤ y)).toArray) (cur := cur) (by simp [hlen]; omega)
    simpa [hlen] using this
/-- A row of one's own, sorted. -/
theorem CallM.sort {n0 nx l : Nat} {q : List Int} {L : List E} {K : V → List E → Nat → Prop} (hl : (L.all fun e => !Nat.beq e.lab l) = true) (hn : q.length ≤ 1000) (hlx : l < nx)
    (hK : K (V.tup []) (⟨l, .vec 3 1, (q.mergeSort fun x y => decide (x ≤ y)).map C.i⟩ :: L) (nx + 1)) : CallM Tryd.prog n0 106 [V.c (.sl l q.length)] (⟨l, .vec 3 1, q.map C.i⟩ :: L) nx K := by
  refine ⟨by kernel_rfl, fun ρ w hp _ => ?_⟩
  have hne : ∀ e ∈ L, e.lab ≠ l := fun e he => by
    have := List.all_eq_true.1 hl e he
    intro h
    rw [h] at this; simp at this
  have hm : (⟨l, .vec 3 1, q.map C.i⟩ : E) ∈ (⟨l, .vec 3 1, q.map C.i⟩ :: L : List E) := List.mem_cons_self ..
  obtain ⟨n', hown⟩ := hp.ok _ hm
  have hden : ∀ (x : List Int) (ρ : Env), (x.map C.i).map (C.den ρ) = x.map (Value.int .i64) := fun x ρ => by rw [List.map_map]; rfl
  simp only [hden] at hown
  have hn' : n' = q.length := by have := hown.1; simp at this; omega
  subst hn'
  have hr : ∃ w', Calls Tryd.prog 106 #[.slice (ρ l).1 q.length (ρ l).2] w (fun e w1 => e = .returned (.tuple #[]) ∧ w.grownBy w1 (Value.slice (ρ l).1 q.length (ρ l).2).ownBlock ∧ rowO w1 n0 3 1 (.slice (ρ l).1 q.length (ρ l).2) q.length ((q.mergeSort fun x y => decide (x ≤ y)).map (Value.int .i64))) ∧ w' = w := by
    refine ⟨w, ?_, rfl⟩
    have hown' := hown
    obtain ⟨_, ⟨hv, h0⟩ | ⟨g, off, cap, cur, hv, hb, hg, _⟩⟩ := hown
    · have hq : q = [] := List.eq_nil_of_length_eq_zero h0
      subst hq
      refine Calls.mono (show Calls Tryd.prog 106 _ w _ from Any.slices_Sort_int_none lays189 (ρ l).1 (ρ l).2 w) ?_
      rintro e w1 ⟨rfl, rfl⟩
      exact ⟨rfl, ⟨rfl, rfl, rfl, Nat.le_refl _, fun _ _ _ => rfl⟩, by simpa using hown'⟩
    · have hv1 : (ρ l).1 = some ⟨g, off, none⟩ ∧ (ρ l).2 = cap := by
        simp only [Value.slice.injEq, true_and] at hv; exact hv
      rw [hv1.1, hv1.2] at hown' ⊢
      exact sort_any g off q.length cap w n0 q hown' rfl hn
  obtain ⟨_, hc, _⟩ := hr
  refine Calls.mono (show Calls Tryd.prog 106 ([V.c (.sl l q.length)].map (V.den ρ)).toArray w _ from hc) ?_
  rintro e w' ⟨rfl, hgr, hrow⟩
  rw [← hden _ ρ] at hrow
  have hob : (Value.slice (ρ l).1 q.length (ρ l).2).ownBlock = blk ρ l := by cases hq : (ρ l).1 <;> simp [Value.ownBlock, blk, hq]
  have hap : ∀ y ∈ L, (y.kd.isFl = true → y.cs ≠ []) → ∀ b, blk ρ y.lab = some b → some b ≠ (Value.slice (ρ l).1 q.length (ρ l).2).ownBlock := by
    intro y hy hcs b hb heq
    rw [hob] at heq
    exact hp.apart _ hm y (List.mem_cons_of_mem _ hy) rfl (hne y hy) hcs b heq.symm hb
  obtain ⟨g1, g2⟩ := hp.moved (L0 := L) (v := .slice (ρ l).1 q.length (ρ l).2) (fun e he => List.mem_cons_of_mem _ he) hap (wf_ints _ _) (fun b hb => ⟨(hown.lt b hb).1, owns_cells hown hb⟩) hrow hgr (fun b hb => .inl (by rw [hob]; exact hb))
  have hput : (ρ.put nx (ρ l).1 (ρ l).2) l = ρ l := Env.put_agr ρ nx _ _ l (by omega)
  have g3 := g1.relab (als := [(nx, l)]) (by intro p hp'; rw [List.mem_singleton.1 hp']; exact ⟨by rw [Env.put_same, hput], by show l < nx + 1; omega⟩) (by
    intro p hp' e he
    rw [List.mem_singleton.1 hp']
    rcases List.mem_cons.1 he with rfl | he
    · show nx ≠ l; omega
    · exact hne e he) rfl
  have hmap : List.map (relE [(nx, l)]) (⟨nx, .vec 3 1, (q.mergeSort fun x y => decide (x ≤ y)).map C.i⟩ :: L) = ⟨l, .vec 3 1, (q.mergeSort fun x y => decide (x ≤ y)).map C.i⟩ :: L := by
    have h0 : ∀ e ∈ L, relE [(nx, l)] e = e := fun e he => by
      have h1 := (hp.wf e (List.mem_cons_of_mem _ he)).1
      have h2 : Nat.beq nx e.lab = false := by
        cases hb : Nat.beq nx e.lab with
        | false => rfl
        | true => have := Nat.eq_of_beq_eq_true hb; omega
      obtain ⟨lab, kd, cs⟩ := e
      simp only at h2
      simp only [relE, relN, h2, cond_false]
    rw [List.map_cons]
    congr 1
    · simp only [relE, relN, Nat.beq_refl, cond_true]
    · exact (List.map_congr_left h0).trans (List.map_id' L)
  rw [hmap] at g3
  exact ⟨V.tup [], _, nx + 1, ρ.put nx (ρ l).1 (ρ l).2, by simp [V.den], by omega, by simp [V.wf], Env.put_agr _ _ _ _, g2, g3, hK⟩
theorem cpt_le (q : List Int) : (Lib.compact q).length ≤ q.length := by
  unfold Lib.compact Lib.compactUpTo
  rw [List.length_map]
  refine Nat.le_trans (List.length_filter_le _ _) ?_
  simp
open Go.Sort in
theorem take_putCells' {off k : Nat} {d : Array Int} {cur : Array Value} (h : off + d.size ≤ cur.size) (hk : k ≤ d.size) : ((putCells (Value.int .i64) off d cur).toList.drop off).take k = (d.toList.map (Value.int .i64)).take k := by
  have := take_putCells h
  rw [← this, List.take_take, Nat.min_eq_left hk]
open Go.Sort in
theorem compact_any (g off n cap : Nat) (w : World) (n0 : Nat) (q : List Int) (hown : rowO w n0 3 1 (.slice (some ⟨g, off, none⟩) n cap) n (q.map (Value.int .i64))) (hq : q.length = n) (hn : n ≤ 1000) :
    Calls Tryd.prog 85 #[.slice (some ⟨g, off, none⟩) n cap] w fun e w' => e = .returned (.slice (some ⟨g, off, none⟩) (Lib.compact q).length cap) ∧ w.grownBy w' (some g) ∧ rowO w' n0 3 1 (.slice (some ⟨g, off, none⟩) (Lib.compact q).length cap) (Lib.compact q).length ((Lib.compact q).map (Value.int .i64)) := by
  obtain ⟨hx, ⟨h', _⟩ | ⟨g', off', cap', cur, h', hb, hg, hnc, hcm, hcs, htake⟩⟩ := hown
  · simp at h'
  simp only [Value.slice.injEq, Option.some.injEq, Addr.mk.injEq, and_true, true_and] at h'
  obtain ⟨⟨rfl, rfl⟩, rfl⟩ := h'
  subst hq
  have hH : Holds (Value.int .i64) w g off q.toArray := by
    intro j hj
    have hj' : j < q.length := by simpa using hj
    refine ⟨?_, frozen_of_row w g (off + j) cur 3 hg⟩
    rw [cell_of_row w g (off + j) cur 3 (0, 0) hg]
    have h1 : (q.map (Value.int .i64))[j]? = some (.int .i64 q[j]) := by simp [hj']
    rw [← htake, List.getElem?_take, if_pos (by omega), List.getElem?_drop] at h1
    simp only [Array.getElem?_toList] at h1
    rw [h1]
    simp [hj']
  have hc := Any.slices_Compact_int lays20 g off cap q w hH (by omega) hnc
  refine Calls.mono (show Calls Tryd.prog 85 _ w _ from hc) ?_
  rintro e w' ⟨rfl, m, rfl⟩
  have hle : (Lib.compact q).length ≤ q.length := cpt_le q
  obtain ⟨d, hd⟩ : ∃ d, d = (Lib.compact q ++ List.replicate (q.length - (Lib.compact q).length) 0).toArray := ⟨_, rfl⟩
  have hds : d.size = q.length := by rw [hd]; simp; omega
  have hdt : (d.toList.map (Value.int .i64)).take (Lib.compact q).length = (Lib.compact q).map (Value.int .i64) := by
    rw [hd]; simp [← List.map_take]
  rw [← hd]
  have hg1 : (putRow (Value.int .i64) (Sort.ahead w m) g off d).heap[g]? = some (.cells (putCells (Value.int .i64) off d cur) 3 (0, 0)) := heap_putRow (w := Sort.ahead w m) hg
  refine ⟨rfl, ⟨rfl, rfl, rfl, ?_, ?_⟩, by simp, .inr ⟨g, off, cap, _, rfl, hb, hg1, by omega, hcm, ?_, ?_⟩⟩
  · rw [size_putRow]; exact Nat.le_refl _
  · intro k hk hne
    simp only [putRow, mapBlock]
    rw [Array.getElem?_modify, if_neg (fun e => hne (by rw [e]))]
    rfl
  · simpa [putCells] using hcs
  · rw [← hdt]
    have := take_putCells' (off := off) (d := d) (cur := cur) (k := (Lib.compact q).length) (by rw [hds]; omega) (by rw [hds]; exact hle)
    simpa using this
/-- A row of one's own, its runs of equal numbers cut. -/
theorem CallX.compact {n0 nx l : Nat} {q : List Int} (hq : 1 ≤ q.length) (hn : q.length ≤ 1000) (hlx : l < nx) : CallX Tryd.prog n0 85 l q.length ⟨l, .vec 3 1, q.map C.i⟩ nx (V.c (.sl nx (Lib.compact q).length)) [⟨nx, .vec 3 1, (Lib.compact q).map C.i⟩] := by
  refine ⟨by kernel_rfl, fun ρ w hp => ?_⟩
  have hm : (⟨l, .vec 3 1, q.map C.i⟩ : E) ∈ ([⟨l, .vec 3 1, q.map C.i⟩] : List E) := List.mem_cons_self ..
  obtain ⟨n', hown⟩ := hp.ok _ hm
  have hden : ∀ (x : List Int) (ρ : Env), (x.map C.i).map (C.den ρ) = x.map (Value.int .i64) := fun x ρ => by rw [List.map_map]; rfl
  simp only [hden] at hown
  have hn' : n' = q.length := by have := hown.1; simp at this; omega
  subst hn'
  have hown' := hown
  obtain ⟨_, ⟨hv, h0⟩ | ⟨g, off, cap, cur, hv, hb, hg, _⟩⟩ := hown
  · omega
  have hv1 : (ρ l).1 = some ⟨g, off, none⟩ ∧ (ρ l).2 = cap := by
    simp only [Value.slice.injEq, true_and] at hv; exact hv
  have hc := compact_any g off q.length cap w n0 q (by rw [hv1.1, hv1.2] at hown'; exact hown') rfl hn
  have hden0 : (V.c (.sl l q.length)).den ρ = .slice (some ⟨g, off, none⟩) q.length cap := by
    show Value.slice (ρ l).1 q.length (ρ l).2 = _
    rw [hv1.1, hv1.2]
  rw [hden0]
  refine Calls.mono hc ?_
  rintro e w' ⟨rfl, hgr, hrow⟩
  refine ⟨ρ.put nx (some ⟨g, off, none⟩) cap, ?_, Nat.lt_succ_self nx, Env.put_agr _ _ _ _, _, _, some g, some ⟨g, off, none⟩, cap, Nat.lt_succ_self nx, rfl, rfl, wf_ints _ _, .inr ⟨_, hm, rfl, rfl, ?_⟩, ?_, ?_, hgr, ?_⟩
  · show Ending.returned _ = Ending.returned (Value.slice ((ρ.put nx _ _) nx).1 _ ((ρ.put nx _ _) nx).2)
    rw [Env.put_same]
  · simp [blk, hv1.1]
  · intro b hb'
    cases hb'
    exact ⟨hb, fun o ho => by rw [hg] at ho; cases ho; rfl⟩
  · refine ⟨(Lib.compact q).length, ?_⟩
    rw [Env.put_same, hden]
    exact hrow
  · intro b hb'; cases hb'; exact .inl rfl
theorem X_mk {P : Program} {n0 g l n nx : Nat} {en : E} {v : V} {new : List E} {B : Bool} {R' : V → List E → Prop} (h : CallX P n0 g l n en nx v new) (hb : B = true) (hR : R' v new) : ∃ v new, CallX P n0 g l n en nx v new ∧ B = true ∧ R' v new := ⟨v, new, h, hb, hR⟩
end Go.Proofs.YtijnimgmpocmaaaDoor

/- Waste: slices.Sorted of slices.Values. -/
namespace Go.Proofs.YtijnimgmpocmaaaDoor
open Go.RowKit
set_option linter.unusedVariables false
set_option linter.unusedSimpArgs false
theorem roE_x {R : Rn} {nx lab l z : Nat} {k : Kd} {L : List E} {cs cs' : List C} (hr : renL R lab = some l) (h1 : lab < nx) (hw : ∀ c ∈ cs, c.wf nx) (h3 : find L l = some ⟨l, k, cs'⟩) (hz : z = 0 ∨ k.z = some z) (h : seqO (cs.map (C.ren R)) = some cs') : roE R nx L ⟨lab, .ro z, cs⟩ := by
  refine ⟨h1, hw, ?_⟩
  show match renL R lab with | some l => _ | none => _
  rw [hr]
  exact ⟨k, _, h3, hz, h⟩
theorem values_spec (l n nx : Nat) (L : List E) : SpecM Tryd.prog 84 [V.c (.sl l n)] L nx (fun v L' nx' => v = V.c (.fn 107 [(nx, 0)]) ∧ L' = ⟨nx, .own 25, [.sl l n]⟩ :: L ∧ nx' = nx + 1) := by
  refine SpecM.of tok Tryd.func84 rfl rfl rfl fun n0 cx => vc_ok tok ?_
  repeat ((conv => whnf); first | refine fun (K' : K3) hK' => ?_ | (refine hK' _ _ _ ?_; clear hK' K'))
  exact ⟨rfl, rfl, rfl⟩
set_option maxRecDepth 10000 in
set_option maxHeartbeats 4000000 in
theorem appendSeqV_spec (zs : List Int) (hz : zs.length ≤ 1000) : Spec Tryd.prog 116 [V.c .nil, V.c (.fn 107 [(0, 0)])] [⟨0, .ro 0, [.sl 1 zs.length]⟩, ⟨1, .ro 0, zs.map C.i⟩] 2
    (fun v L' _ => ∃ lab, v = V.c (.sl lab zs.length) ∧ find L' lab = some ⟨lab, .vec 3 1, zs.map C.i⟩) := by
  have hzl : (zs.map C.i).length = zs.length := List.length_map ..
  refine Spec.of tok Tryd.func116 rfl rfl rfl fun n0 cx => vc_ok tok ?_
  repeat ((conv => whnf); first | refine fun (K' : K3) hK' => ?_ | (refine hK' _ _ _ ?_; clear hK' K'))
  refine Tri.opq fun K' hK' => ?_
  refine Tri.rangeFunc tok (by exact rfl) (by kernel_rfl) (by exact rfl) (by exact rfl) (by exact rfl) (by exact rfl) (by exact rfl) (by exact rfl) ?_
  intro y cxi oo ob od hy hY
  refine vc_ok tok ?_
  repeat ((conv => whnf); first | refine Exists.intro _ (And.intro rfl ?_) | refine fun (K' : K3) hK' => ?_ | (refine hK' _ _ _ ?_; clear hK' K'))
  refine Tri.loop (γ := Nat) (fun k => k ≤ zs.length) (fun k => [(0, V.c (.v y)), (5, V.c (.sl 1 zs.length)), (6, V.i zs.length), (7, V.i (k : Nat))])
    (fun k => [⟨20, .vec 3 1, (zs.take k).map C.i⟩, ⟨3, .obj oo, []⟩, ⟨2, .own 25, [.sl 20 k]⟩, ⟨0, .ro 0, [.sl 1 zs.length]⟩, ⟨1, .ro 0, zs.map C.i⟩]) 21 (fun k => zs.length - k) 0 (R0 := [(20, none)]) ?_ ?_ ?_
  · omega
  · skip
    refine ⟨?_, ?_, rfl, rfl, by exact Nat.le_of_ble_eq_true rfl⟩
    · repeat (first | exact trivial | (refine And.intro (covS_syn (by rfl) rfl (by first | exact trivial | exact Nat.le_of_ble_eq_true rfl | exact hy)) ?_))
    · repeat (first | exact trivial | refine And.intro (covE_some rfl (Nat.le_of_ble_eq_true rfl) (by simp [C.wf]) rfl rfl) ?_ | refine And.intro (covE_nil rfl (Nat.le_of_ble_eq_true rfl) rfl rfl) ?_ | refine And.intro (covE_some rfl (Nat.le_of_ble_eq_true rfl) (by exact wf_ints _ _) rfl (by exact ren_ints _ _)) ?_)
  · intro k hk
    refine vc_ok tok ?_
    by_cases hkl : k < zs.length
    · have e : zs[k]?.toList = [zs.getD k 0] := by rw [List.getD_eq_getElem?_getD, List.getElem?_eq_getElem hkl]; rfl
      have htk : zs.take (k + 1) = zs.take k ++ [zs.getD k 0] := by rw [List.take_add_one, e]
      have htl : (zs.take k).length = k := by rw [List.length_take]; omega
      have hlk : (zs.map C.i)[mulS ((k : Nat) : Int).toNat 1]? = some (C.i (zs.getD k 0)) := intLz rfl hkl
      obtain ⟨c, hc⟩ : ∃ c, c = zs.getD k 0 := ⟨_, rfl⟩
      rw [← hc] at htk hlk
      obtain ⟨w1, hw1⟩ : ∃ w1, w1 = zs.take k := ⟨_, rfl⟩
      rw [← hw1] at htk htl ⊢
      have happ : w1.map C.i ++ [C.i c] = (w1 ++ [c]).map C.i := by simp
      have hnl1 : (w1.map C.i).length = k := by rw [List.length_map, htl]
      repeat ((conv => whnf); first | (refine And.intro (by first | omega | (dsimp only [inK]; omega)) ?_) | with_reducible refine ld (hlk) ?_ | refine br_t (by omega) ?_ | refine fun (K' : K3) hK' => ?_ | (refine hK' _ _ _ ?_; clear hK' K'))
      refine hY _ _ _ _ (Nat.le_of_ble_eq_true rfl) rfl ⟨rfl, trivial⟩ ?_
      intro cxb hcx
      refine vc_ok tok ?_
      repeat ((conv => whnf); first | refine fun (K' : K3) hK' => ?_ | (refine hK' _ _ _ ?_; clear hK' K') | refine And.intro (Eq.refl oo) ?_)
      refine vc_ok tok ?_
      repeat ((conv => whnf); first | (refine And.intro (by first | omega | exact Nat.le_of_ble_eq_true rfl | (dsimp only [inK]; omega) | (exact ⟨rfl, rfl, rfl, Nat.le_of_ble_eq_true rfl, by dsimp only; omega, by exact Nat.le_of_ble_eq_true rfl, by omega, Nat.le_of_ble_eq_true rfl⟩)) ?_) | refine Exists.intro _ (And.intro rfl ?_) | refine fun (K' : K3) hK' => ?_ | (refine hK' _ _ _ ?_; clear hK' K') | refine And.intro (Eq.refl ob) ?_)
      refine ⟨k + 1, [(20, some 22)], by omega, by omega, ?_⟩
      rw [htk]
      refine ⟨?_, ?_, rfl, rfl, by exact Nat.le_of_ble_eq_true rfl⟩
      · repeat (first | exact trivial | (refine And.intro (covS_syn (by rfl) rfl (by first | exact trivial | exact Nat.le_of_ble_eq_true rfl | exact hy)) ?_))
      · repeat (first | exact trivial | refine And.intro (covE_i rfl (Nat.le_of_ble_eq_true rfl) rfl happ) ?_ | refine And.intro (covE_some rfl (Nat.le_of_ble_eq_true rfl) (by simp [C.wf]) rfl rfl) ?_ | refine And.intro (covE_some rfl (Nat.le_of_ble_eq_true rfl) (by exact wf_ints _ _) rfl (by exact ren_ints _ _)) ?_)
    · obtain rfl : k = zs.length := by omega
      rw [List.take_length]
      repeat ((conv => whnf); first | refine br_f (by omega) ?_ | refine fun (K' : K3) hK' => ?_ | (refine hK' _ _ _ ?_; clear hK' K') | refine Or.inl ?_ | refine And.intro (Eq.refl oo) ?_)
      refine hK' _ _ _ _ ?_
      repeat ((conv => whnf); first | refine Exists.intro _ (And.intro rfl ?_) | refine fun (K' : K3) hK' => ?_ | (refine hK' _ _ _ ?_; clear hK' K'))
      exact rfl
theorem collectV_spec (zs : List Int) (hz : zs.length ≤ 1000) : Spec Tryd.prog 102 [V.c (.fn 107 [(0, 0)])] [⟨0, .ro 0, [.sl 1 zs.length]⟩, ⟨1, .ro 0, zs.map C.i⟩] 2
    (fun v L' _ => ∃ lab, v = V.c (.sl lab zs.length) ∧ find L' lab = some ⟨lab, .vec 3 1, zs.map C.i⟩) := by
  have h := appendSeqV_spec zs hz
  refine Spec.of tok Tryd.func102 rfl rfl rfl fun n0 cx => vc_ok tok ?_
  repeat ((conv => whnf); first | refine Exists.intro _ (And.intro rfl ?_) | refine fun (K' : K3) hK' => ?_ | (refine hK' _ _ _ ?_; clear hK' K') | refine CallK.rowF (R := []) (flat_i _) h (by kernel_rfl) rfl (by simp [V.wf, A.wf, C.wf]) ⟨roE_x (l := 0) rfl (by omega) (by simp [C.wf]) rfl (.inl rfl) rfl, roE_f (flat_i _) (l := 1) rfl (by omega) rfl (.inl rfl), trivial⟩ rfl ?_ | refine CallK.m ?_)
  exact rfl
def srtL (zs : List Int) : List Int := zs.mergeSort fun x y => decide (x ≤ y)
theorem srtL_len (zs : List Int) : (srtL zs).length = zs.length := List.length_mergeSort ..
theorem sorted_spec (zs : List Int) (hz : zs.length ≤ 1000) : Spec Tryd.prog 83 [V.c (.fn 107 [(0, 0)])] [⟨0, .ro 0, [.sl 1 zs.length]⟩, ⟨1, .ro 0, zs.map C.i⟩] 2
    (fun v L' _ => ∃ lab, v = V.c (.sl lab zs.length) ∧ find L' lab = some ⟨lab, .vec 3 1, (srtL zs).map C.i⟩) := by
  have h := collectV_spec zs hz
  refine Spec.of tok Tryd.func83 rfl rfl rfl fun n0 cx => vc_ok tok ?_
  repeat ((conv => whnf); first | refine Exists.intro _ (And.intro rfl ?_) | refine fun (K' : K3) hK' => ?_ | (refine hK' _ _ _ ?_; clear hK' K') | refine CallM.sort (l := 2) (q := zs) rfl hz (by omega) ?_ | refine CallK.rowF (R := []) (flat_i _) h (by kernel_rfl) rfl (by simp [V.wf, A.wf, C.wf]) ⟨roE_x (l := 0) rfl (by omega) (by simp [C.wf]) rfl (.inl rfl) rfl, roE_f (flat_i _) (l := 1) rfl (by omega) rfl (.inl rfl), trivial⟩ rfl ?_ | refine CallK.m ?_)
  exact rfl
end Go.Proofs.YtijnimgmpocmaaaDoor

/- Waste: the longest list of kinds apart. -/
namespace Go.Proofs.YtijnimgmpocmaaaDoor
open Go.RowKit
set_option linter.unusedVariables false
set_option linter.unusedSimpArgs false
/-- The best set so far. -/
def stB (ok : Nat → Bool) (b s : Nat) : Nat := if ok s = true ∧ ((bitsL b).length < (bitsL s).length ∨ ((bitsL b).length = (bitsL s).length ∧ lexB (bitsL s) (bitsL b) = true)) then s else b
def bestK (ok : Nat → Bool) : Nat → Nat
  | 0 => 0
  | s + 1 => stB ok (bestK ok s) s
/-- The best sets of a table and of the other one. -/
def apaQ (n : Nat) (qs : List (Nat × Nat)) : Nat := bestK (aptS (tabS n qs)) (2 ^ n)
def allQ (n : Nat) (qs : List (Nat × Nat)) : Nat := bestK (aptS (otK (tabS n qs) n n)) (2 ^ n)
def rowI (l : List Nat) (v : V) (L' : List E) : Prop := ∃ lab, v = V.tup [A.c (.sl lab l.length), A.c (C.i 0)] ∧ find L' lab = some ⟨lab, .vec 3 1, (natI l).map C.i⟩
end Go.Proofs.YtijnimgmpocmaaaDoor

/- Waste: the document's longest list. -/
namespace Go.Proofs.YtijnimgmpocmaaaDoor
open Go.RowKit
set_option linter.unusedVariables false
set_option linter.unusedSimpArgs false
theorem CallK.den {P : Program} {n0 : Nat} {f : FuncId} {vs vs' : List V} {L : List E} {nx : Nat} {K : V → List E → Nat → Prop} (hd : ∀ ρ, vs.map (V.den ρ) = vs'.map (V.den ρ)) (hw : ∀ v ∈ vs, v.wf nx) (h : CallK P n0 f vs L nx K) : CallK P n0 f vs' L nx K :=
  ⟨h.ok, fun ρ w hp _ => by rw [← hd]; exact h.run ρ w hp hw⟩
def okX (cl : Nat → Nat → Bool) (c : Bool) (l : List Nat) (i j : Nat) : Bool := (List.range j).all fun j => cl (l.getD i 0) (l.getD j 0) == c
def okA (cl : Nat → Nat → Bool) (c : Bool) (l : List Nat) (i : Nat) : Bool := (List.range i).all fun i => okX cl c l i i
def okS (cl : Nat → Nat → Bool) (c : Bool) (s : Nat) : Bool := okA cl c (bitsL s) (bitsL s).length
section
variable {n : Nat} {qs : List (Nat × Nat)}
theorem symC_comm (qs : List (Nat × Nat)) (a b : Nat) : symC (clP qs) a b = symC (clP qs) b a := by
  unfold symC
  rcases Nat.lt_trichotomy a b with h | h | h
  · rw [if_pos h, if_neg (by omega), if_pos h]
  · subst h; rfl
  · rw [if_neg (by omega), if_pos h, if_pos h]
end
def btK (s a : Nat) : List Nat := (List.range a).filter fun b => s.testBit b
end Go.Proofs.YtijnimgmpocmaaaDoor

/- Waste, plain: orders of kinds, and the filling that comes about in one. -/
namespace Go.Proofs.YtijnimgmpocmaaaDoor
open Go.RowKit
set_option linter.unusedVariables false
set_option linter.unusedSimpArgs false
/-- A list of numbers has each kind once. -/
def ordB (n : Nat) (zs : List Int) : Bool := decide (zs.length = n) && zs.all (fun z => decide (0 ≤ z ∧ z < n)) && decide zs.Nodup
def Ord (n : Nat) (os : List Nat) : Prop := os.length = n ∧ (∀ a ∈ os, a < n) ∧ os.Nodup
theorem ordB_iff {n : Nat} {zs : List Int} : ordB n zs = true ↔ zs.length = n ∧ (∀ z ∈ zs, 0 ≤ z ∧ z < n) ∧ zs.Nodup := by
  simp only [ordB, Bool.and_eq_true, decide_eq_true_iff, List.all_eq_true, and_assoc]
theorem ordB_nat {n : Nat} {zs : List Int} (h : ordB n zs = true) : ∃ os, zs = natI os ∧ Ord n os := by
  obtain ⟨h1, h2, h3⟩ := ordB_iff.1 h
  have he : zs = natI (zs.map Int.toNat) := by
    unfold natI
    rw [List.map_map]
    have : ∀ z ∈ zs, ((fun x : Nat => (x : Int)) ∘ Int.toNat) z = z := fun z hz => by
      have := h2 z hz
      show ((z.toNat : Nat) : Int) = z
      omega
    exact ((List.map_congr_left this).trans (List.map_id' zs)).symm
  refine ⟨zs.map Int.toNat, he, by rw [List.length_map, h1], fun a ha => ?_, ?_⟩
  · obtain ⟨z, hz, rfl⟩ := List.mem_map.1 ha
    have := h2 z hz; omega
  · rw [List.nodup_iff_pairwise_ne, List.pairwise_map]
    exact (List.nodup_iff_pairwise_ne.1 h3).imp_of_mem fun {a b} ha hb hne he => hne (by have := h2 a ha; have := h2 b hb; omega)
theorem ordB_of {n : Nat} {os : List Nat} (h : Ord n os) : ordB n (natI os) = true := by
  rw [ordB_iff]
  obtain ⟨h1, h2, h3⟩ := h
  refine ⟨by rw [natI_len, h1], fun z hz => ?_, ?_⟩
  · obtain ⟨a, ha, rfl⟩ := List.mem_map.1 hz
    have := h2 a ha; omega
  · unfold natI
    rw [List.nodup_iff_pairwise_ne, List.pairwise_map]
    exact (List.nodup_iff_pairwise_ne.1 h3).imp fun hne he => hne (by omega)
/-- What the program asks of the list once it is sorted. -/
def srtB (n : Nat) (s : List Int) : Bool := decide (s.getD 0 0 = 0) && decide (s.getD (n - 1) 0 = (n : Int) - 1) && decide ((Lib.compact s).length = n)
theorem srtL_le (zs : List Int) {i j : Nat} (hij : i < j) (hj : j < zs.length) : (srtL zs).getD i 0 ≤ (srtL zs).getD j 0 := by
  have hp : (srtL zs).Pairwise fun a b => decide (a ≤ b) = true := List.pairwise_mergeSort (fun a b c h1 h2 => by simp only [decide_eq_true_iff] at *; omega) (fun a b => by simp only [Bool.or_eq_true, decide_eq_true_iff]; omega) zs
  have hl := srtL_len zs
  have := List.pairwise_iff_getElem.1 hp i j (by omega) (by omega) hij
  simp only [decide_eq_true_iff] at this
  simpa [List.getD_eq_getElem?_getD, show i < (srtL zs).length by omega, show j < (srtL zs).length by omega] using this
theorem srtL_mem (zs : List Int) (z : Int) : z ∈ srtL zs ↔ z ∈ zs := List.mem_mergeSort
theorem srtL_nodup (zs : List Int) : (srtL zs).Nodup ↔ zs.Nodup := (List.mergeSort_perm zs _).nodup_iff
theorem cpt_len (s : List Int) : (Lib.compact s).length = s.length ↔ ∀ j, 0 < j → j < s.length → s.getD j 0 ≠ s.getD (j - 1) 0 := by
  have e : (Lib.compact s).length = ((List.range s.length).filter (Lib.keeps s.toArray)).length := by
    unfold Lib.compact Lib.compactUpTo; rw [List.length_map]
  have hg : ∀ j, j < s.length → s.toArray[j]! = s.getD j 0 := fun j hj => by simp [List.getD_eq_getElem?_getD, hj, getElem!_pos]
  rw [e]
  constructor
  · intro h j h0 hj
    have h1 : ((List.range s.length).filter (Lib.keeps s.toArray)).length = (List.range s.length).length := by rw [h, List.length_range]
    have h2 := List.length_filter_eq_length_iff.1 h1 j (List.mem_range.2 hj)
    simp only [Lib.keeps, decide_eq_true_iff] at h2
    rcases h2 with h2 | h2
    · omega
    · rw [hg j hj, hg (j - 1) (by omega)] at h2; exact h2
  · intro h
    have h1 : ((List.range s.length).filter (Lib.keeps s.toArray)).length = (List.range s.length).length := by
      refine List.length_filter_eq_length_iff.2 fun j hj => ?_
      have hj := List.mem_range.1 hj
      simp only [Lib.keeps, decide_eq_true_iff]
      by_cases h0 : j = 0
      · exact .inl h0
      · right; rw [hg j hj, hg (j - 1) (by omega)]; exact h j (by omega) hj
    rw [h1, List.length_range]
theorem srtB_ord {n : Nat} (hn : 1 ≤ n) {zs : List Int} (hl : zs.length = n) : srtB n (srtL zs) = ordB n zs := by
  have hsl := srtL_len zs
  have hle := fun {i j : Nat} => srtL_le zs (i := i) (j := j)
  have hmem : ∀ z, z ∈ zs ↔ ∃ i, i < n ∧ (srtL zs).getD i 0 = z := fun z => by
    rw [← srtL_mem zs z, List.mem_iff_getElem]
    constructor
    · rintro ⟨i, hi, h⟩
      exact ⟨i, by omega, by simpa [List.getD_eq_getElem?_getD, hi] using h⟩
    · rintro ⟨i, hi, h⟩
      exact ⟨i, by omega, by simpa [List.getD_eq_getElem?_getD, show i < (srtL zs).length by omega] using h⟩
  have hcp := cpt_len (srtL zs)
  rw [hsl, hl] at hcp
  rw [Bool.eq_iff_iff, ordB_iff]
  simp only [srtB, Bool.and_eq_true, decide_eq_true_iff, hcp]
  obtain ⟨s, hs⟩ : ∃ s : Nat → Int, s = fun i => (srtL zs).getD i 0 := ⟨_, rfl⟩
  have hsd : ∀ i, (srtL zs).getD i 0 = s i := fun i => by rw [hs]
  have hnd : (∀ j, 0 < j → j < n → s j ≠ s (j - 1)) ↔ zs.Nodup := by
    rw [← srtL_nodup, List.nodup_iff_pairwise_ne, List.pairwise_iff_getElem]
    have hge : ∀ i (hi : i < (srtL zs).length), (srtL zs)[i] = s i := fun i hi => by rw [← hsd i]; simp [List.getD_eq_getElem?_getD, hi]
    constructor
    · intro h i j hi hj hij
      rw [hge, hge]
      have h1 := h j (by omega) (by omega)
      have h2 : s i ≤ s (j - 1) := by
        by_cases hij' : i = j - 1
        · rw [hij']; exact Int.le_refl _
        · have := hle (i := i) (j := j - 1) (by omega) (by omega); rwa [hsd, hsd] at this
      have h3 := hle (i := j - 1) (j := j) (by omega) (by omega)
      rw [hsd, hsd] at h3
      omega
    · intro h j h0 hj
      have := h (j - 1) j (by omega) (by omega) (by omega)
      rw [hge, hge] at this
      exact fun e => this e.symm
  have hst : (∀ j, 0 < j → j < n → s j ≠ s (j - 1)) → ∀ d i, i + d < n → s i + d ≤ s (i + d) := by
    intro h d
    induction d with
    | zero => intro i _; simp
    | succ d ih =>
      intro i hi
      have h1 := ih i (by omega)
      have h2 := h (i + (d + 1)) (by omega) hi
      have h3 := hle (i := i + d) (j := i + (d + 1)) (by omega) (by omega)
      rw [hsd, hsd] at h3
      rw [show i + (d + 1) - 1 = i + d by omega] at h2
      have : ((d + 1 : Nat) : Int) = (d : Int) + 1 := by omega
      omega
  simp only [hsd] at hmem ⊢
  rw [← hnd]
  constructor
  · rintro ⟨⟨h0, h1⟩, h2⟩
    refine ⟨hl, fun z hz => ?_, h2⟩
    obtain ⟨i, hi, rfl⟩ := (hmem z).1 hz
    have h3 := hst h2 i 0 (by omega)
    have h4 := hst h2 (n - 1 - i) i (by omega)
    rw [show i + (n - 1 - i) = n - 1 by omega] at h4
    rw [Nat.zero_add] at h3
    omega
  · rintro ⟨_, h1, h2⟩
    have h3 := hst h2 (n - 1) 0 (by omega)
    rw [Nat.zero_add] at h3
    have h4 := h1 (s 0) ((hmem _).2 ⟨0, by omega, rfl⟩)
    have h5 := h1 (s (n - 1)) ((hmem _).2 ⟨n - 1, by omega, rfl⟩)
    exact ⟨⟨by omega, by omega⟩, h2⟩
/-! The least skip that is free. -/
def mexU (p : Nat → Bool) : Nat → Nat → Nat
  | 0, s => s
  | k + 1, s => if p s = true then mexU p k (s + 1) else s
theorem mexU_spec {p : Nat → Bool} : ∀ {k s t : Nat}, s ≤ t → t ≤ s + k → p t = false → p (mexU p k s) = false ∧ s ≤ mexU p k s ∧ mexU p k s ≤ t ∧ ∀ r, s ≤ r → r < mexU p k s → p r = true
  | 0, s, t, h1, h2, h => by
    obtain rfl : s = t := by omega
    exact ⟨h, Nat.le_refl _, Nat.le_refl _, fun r _ hr => by simp only [mexU] at hr; omega⟩
  | k + 1, s, t, h1, h2, h => by
    unfold mexU
    by_cases hs : p s = true
    · rw [if_pos hs]
      have hne : s ≠ t := fun e => by rw [e, h] at hs; cases hs
      obtain ⟨g1, g2, g3, g4⟩ := mexU_spec (k := k) (s := s + 1) (t := t) (by omega) (by omega) h
      refine ⟨g1, by omega, g3, fun r hr1 hr2 => ?_⟩
      by_cases hr : r = s
      · rw [hr]; exact hs
      · exact g4 r (by omega) hr2
    · rw [if_neg hs]
      exact ⟨by simpa using hs, Nat.le_refl _, h1, fun r _ _ => by omega⟩
def blkS (cl : Nat → Nat → Bool) (f : Nat → Nat) (pre : List Nat) (a s : Nat) : Bool := pre.any fun b => cl a b && decide (f b = s)
def mexS (cl : Nat → Nat → Bool) (f : Nat → Nat) (pre : List Nat) (a : Nat) : Nat := mexU (blkS cl f pre a) pre.length 0
theorem free_ex (cl : Nat → Nat → Bool) (f : Nat → Nat) (pre : List Nat) (a : Nat) : ∃ t, t ≤ pre.length ∧ blkS cl f pre a t = false := by
  apply Classical.byContradiction
  intro h
  have h2 : ∀ s ∈ List.range (pre.length + 1), s ∈ pre.map f := fun s hs => by
    have hs := List.mem_range.1 hs
    cases hb : blkS cl f pre a s with
    | false => exact absurd ⟨s, by omega, hb⟩ h
    | true =>
      obtain ⟨b, hb1, hb2⟩ := List.any_eq_true.1 hb
      simp only [Bool.and_eq_true, decide_eq_true_iff] at hb2
      exact List.mem_map.2 ⟨b, hb1, hb2.2⟩
  have := nodup_len (List.nodup_range (n := pre.length + 1)) h2
  rw [List.length_range, List.length_map] at this; omega
theorem mexS_spec (cl : Nat → Nat → Bool) (f : Nat → Nat) (pre : List Nat) (a : Nat) : blkS cl f pre a (mexS cl f pre a) = false ∧ mexS cl f pre a ≤ pre.length ∧ ∀ r, r < mexS cl f pre a → blkS cl f pre a r = true := by
  obtain ⟨t, ht, h⟩ := free_ex cl f pre a
  obtain ⟨g1, _, g3, g4⟩ := mexU_spec (k := pre.length) (s := 0) (t := t) (by omega) (by omega) h
  exact ⟨g1, Nat.le_trans g3 ht, fun r hr => g4 r (by omega) hr⟩
/-- The filling that comes about, when so many kinds of an order have come. -/
def lnF (cl : Nat → Nat → Bool) (os : List Nat) : Nat → Nat → Nat
  | 0 => fun _ => 0
  | k + 1 => fun x => if x = os.getD k 0 then mexS cl (lnF cl os k) (os.take k) (os.getD k 0) else lnF cl os k x
/-- The groups that have come about. -/
structure Gps (cl : Nat → Nat → Bool) (os : List Nat) (k : Nat) (gs : List Nat) : Prop where
  mem : ∀ i, i < gs.length → ∀ b, (gs.getD i 0).testBit b = true ↔ b ∈ os.take k ∧ lnF cl os k b = i
  lt : ∀ b ∈ os.take k, lnF cl os k b < gs.length
  len : gs.length ≤ k
section
variable {cl : Nat → Nat → Bool} {n : Nat} {os : List Nat}
theorem take_get {k : Nat} (hk : k < os.length) : os.take (k + 1) = os.take k ++ [os.getD k 0] := by
  have e : os[k]?.toList = [os.getD k 0] := by rw [List.getD_eq_getElem?_getD, List.getElem?_eq_getElem hk]; rfl
  rw [List.take_add_one, e]
theorem Ord.new (h : Ord n os) {k : Nat} (hk : k < n) : os.getD k 0 ∉ os.take k := by
  have h1 := take_get (os := os) (k := k) (by rw [h.1]; exact hk)
  have h2 : (os.take (k + 1)).Nodup := h.2.2.sublist (List.take_sublist ..)
  rw [h1, List.nodup_append] at h2
  exact fun hm => h2.2.2 _ hm _ (by simp) rfl
theorem Ord.at (h : Ord n os) {k : Nat} (hk : k < n) : os.getD k 0 < n := h.2.1 _ (by rw [List.getD_eq_getElem?_getD, List.getElem?_eq_getElem (by rw [h.1]; exact hk)]; exact List.getElem_mem _)
theorem lnF_old (h : Ord n os) {k : Nat} (hk : k < n) {b : Nat} (hb : b ∈ os.take k) : lnF cl os (k + 1) b = lnF cl os k b := by
  show (if b = os.getD k 0 then _ else _) = _
  rw [if_neg (fun e => h.new hk (by rw [← e]; exact hb))]
theorem lnF_new {k : Nat} : lnF cl os (k + 1) (os.getD k 0) = mexS cl (lnF cl os k) (os.take k) (os.getD k 0) := if_pos rfl
theorem Gps.zero : Gps cl os 0 [] := ⟨fun i hi => absurd hi (by simp), fun b hb => by simp at hb, Nat.le_refl _⟩
theorem Gps.blk {k : Nat} {gs : List Nat} (hg : Gps cl os k gs) {t a : Nat} (ht : ∀ b, t.testBit b = cl a b) {i : Nat} (hi : i < gs.length) : (t &&& gs.getD i 0 = 0) ↔ blkS cl (lnF cl os k) (os.take k) a i = false := by
  rw [← Bool.not_eq_true, blkS, List.any_eq_true]
  constructor
  · rintro h ⟨b, hb, h2⟩
    simp only [Bool.and_eq_true, decide_eq_true_iff] at h2
    have h3 : (t &&& gs.getD i 0).testBit b = true := by
      rw [Nat.testBit_and, ht, h2.1, (hg.mem i hi b).2 ⟨hb, h2.2⟩]; rfl
    rw [h] at h3; simp at h3
  · intro h
    apply Nat.eq_of_testBit_eq
    intro b
    rw [Nat.zero_testBit, Nat.testBit_and, ht]
    cases h1 : cl a b with
    | false => rfl
    | true =>
      cases h2 : (gs.getD i 0).testBit b with
      | false => rfl
      | true =>
        obtain ⟨h3, h4⟩ := (hg.mem i hi b).1 h2
        exact absurd ⟨b, h3, by simp [h1, h4]⟩ h
theorem Gps.over {k : Nat} {gs : List Nat} (hg : Gps cl os k gs) {a i : Nat} (hi : gs.length ≤ i) : blkS cl (lnF cl os k) (os.take k) a i = false := by
  rw [← Bool.not_eq_true, blkS, List.any_eq_true]
  rintro ⟨b, hb, h2⟩
  simp only [Bool.and_eq_true, decide_eq_true_iff] at h2
  have := hg.lt b hb; omega
theorem getD_setG {l : List Nat} {i j v : Nat} (hi : i < l.length) : (l.set i v).getD j 0 = if j = i then v else l.getD j 0 := by
  simp only [List.getD_eq_getElem?_getD, List.getElem?_set]
  by_cases h : i = j
  · subst h; simp [hi]
  · rw [if_neg h, if_neg (fun e => h e.symm)]
theorem Gps.put (h : Ord n os) {k : Nat} (hk : k < n) {gs : List Nat} (hg : Gps cl os k gs) {i : Nat} (hi : i < gs.length) (him : i = mexS cl (lnF cl os k) (os.take k) (os.getD k 0)) : Gps cl os (k + 1) (gs.set i (gs.getD i 0 ||| 2 ^ os.getD k 0)) := by
  have htk := take_get (os := os) (k := k) (by rw [h.1]; exact hk)
  have hm := h.new hk
  have hnew : lnF cl os (k + 1) (os.getD k 0) = i := by rw [lnF_new, him]
  have hlen := hg.len
  refine ⟨fun j hj b => ?_, fun b hb => ?_, by rw [List.length_set]; omega⟩
  · rw [List.length_set] at hj
    rw [getD_setG hi, htk, List.mem_append, List.mem_singleton]
    have hbo : b ∈ os.take k → lnF cl os (k + 1) b = lnF cl os k b := fun hb => lnF_old h hk hb
    by_cases hji : j = i
    · rw [if_pos hji, Nat.testBit_or, Bool.or_eq_true, hg.mem i hi b, Nat.testBit_two_pow, decide_eq_true_iff, hji]
      constructor
      · rintro (⟨h1, h2⟩ | h1)
        · exact ⟨.inl h1, by rw [hbo h1, h2]⟩
        · exact ⟨.inr h1.symm, by rw [← h1, hnew]⟩
      · rintro ⟨h1 | h1, h2⟩
        · left; rw [hbo h1] at h2; exact ⟨h1, h2⟩
        · exact .inr h1.symm
    · rw [if_neg hji, hg.mem j hj b]
      constructor
      · rintro ⟨h1, h2⟩; exact ⟨.inl h1, by rw [hbo h1, h2]⟩
      · rintro ⟨h1 | h1, h2⟩
        · rw [hbo h1] at h2; exact ⟨h1, h2⟩
        · rw [h1, hnew] at h2; exact absurd h2.symm hji
  · rw [List.length_set]
    rw [htk, List.mem_append, List.mem_singleton] at hb
    rcases hb with hb | hb
    · rw [lnF_old h hk hb]; exact hg.lt b hb
    · rw [hb, hnew]; exact hi
theorem Gps.more {k : Nat} {gs : List Nat} (hg : Gps cl os k gs) : (∀ i, i < (gs ++ [0]).length → ∀ b, ((gs ++ [0]).getD i 0).testBit b = true ↔ b ∈ os.take k ∧ lnF cl os k b = i) := by
  intro i hi b
  rw [List.length_append, List.length_singleton] at hi
  by_cases h : i < gs.length
  · have e : (gs ++ [0]).getD i 0 = gs.getD i 0 := by simp [List.getD_eq_getElem?_getD, List.getElem?_append_left h]
    rw [e]
    exact hg.mem i h b
  · obtain rfl : i = gs.length := by omega
    have e : (gs ++ [0]).getD gs.length 0 = 0 := by simp [List.getD_eq_getElem?_getD]
    rw [e]
    simp only [Nat.zero_testBit]
    constructor
    · intro h; cases h
    · rintro ⟨h1, h2⟩
      have := hg.lt b h1; omega
theorem Gps.app (h : Ord n os) {k : Nat} (hk : k < n) {gs : List Nat} (hg : Gps cl os k gs) (him : gs.length = mexS cl (lnF cl os k) (os.take k) (os.getD k 0)) : Gps cl os (k + 1) ((gs ++ [0]).set gs.length (0 ||| 2 ^ os.getD k 0)) := by
  -- as 'put', with one group more, that is empty
  have htk := take_get (os := os) (k := k) (by rw [h.1]; exact hk)
  have hm := h.new hk
  have hnew : lnF cl os (k + 1) (os.getD k 0) = gs.length := by rw [lnF_new, him]
  have hlen := hg.len
  have hmo := hg.more
  have hl1 : (gs ++ [0]).length = gs.length + 1 := by simp
  refine ⟨fun j hj b => ?_, fun b hb => ?_, by rw [List.length_set, hl1]; omega⟩
  · rw [List.length_set] at hj
    rw [getD_setG (by omega), htk, List.mem_append, List.mem_singleton]
    have hbo : b ∈ os.take k → lnF cl os (k + 1) b = lnF cl os k b := fun hb => lnF_old h hk hb
    by_cases hji : j = gs.length
    · rw [if_pos hji, Nat.testBit_or, Bool.or_eq_true, Nat.zero_testBit, Nat.testBit_two_pow, decide_eq_true_iff, hji]
      constructor
      · rintro (h1 | h1)
        · cases h1
        · exact ⟨.inr h1.symm, by rw [← h1, hnew]⟩
      · rintro ⟨h1 | h1, h2⟩
        · rw [hbo h1] at h2; have := hg.lt b h1; omega
        · exact .inr h1.symm
    · rw [if_neg hji, hmo j hj b]
      constructor
      · rintro ⟨h1, h2⟩; exact ⟨.inl h1, by rw [hbo h1, h2]⟩
      · rintro ⟨h1 | h1, h2⟩
        · rw [hbo h1] at h2; exact ⟨h1, h2⟩
        · rw [h1, hnew] at h2; exact absurd h2.symm hji
  · rw [List.length_set, hl1]
    rw [htk, List.mem_append, List.mem_singleton] at hb
    rcases hb with hb | hb
    · rw [lnF_old h hk hb]; have := hg.lt b hb; omega
    · rw [hb, hnew]; omega
end
end Go.Proofs.YtijnimgmpocmaaaDoor

/- Waste: Line's callees, walked. -/
namespace Go.Proofs.YtijnimgmpocmaaaDoor
open Go.RowKit
set_option linter.unusedVariables false
set_option linter.unusedSimpArgs false
theorem find_numU {l : List Nat} {p : Nat → Bool} {k : Nat} (hlt : k < l.length) (hbad : p (l.getD k 0) = true) (hb : ∀ i, i < k → p (l.getD i 0) = false) : l.findIdx? p = some k := by
  rw [List.findIdx?_eq_some_iff_getElem]
  refine ⟨hlt, by simpa [List.getD_eq_getElem?_getD, hlt] using hbad, fun i hi => ?_⟩
  have := hb i hi
  simpa [List.getD_eq_getElem?_getD, show i < l.length by omega] using this
theorem find_notU {l : List Nat} {p : Nat → Bool} (hb : ∀ i, i < l.length → p (l.getD i 0) = false) : l.findIdx? p = none := by
  rw [List.findIdx?_eq_none_iff]
  intro x hx
  obtain ⟨i, hi, rfl⟩ := List.mem_iff_getElem.1 hx
  have := hb i (by omega)
  simpa [List.getD_eq_getElem?_getD, hi] using this
def idxU (l : List Nat) (p : Nat → Bool) : Int := match l.findIdx? p with | some k => (k : Int) | none => -1
theorem index_anyU {f : FuncId} {caps : List (Nat × Nat)} {Lc : List E} {na : Nat} {p : Nat → Bool} {l : List Nat} (hl : l.length ≤ 300) (hcb : callB Tryd.prog f = true)
    (hsp : ∀ i, i < l.length → Spec Tryd.prog f ([V.u (l.getD i 0)] ++ caps.map ptrV) Lc na (Is (V.c (.bool (p (l.getD i 0)))))) (hcaps : ∀ q ∈ caps, q.1 < na) (h0 : 0 < na)
    (hw : ∀ e ∈ Lc, e.lab < na ∧ ∀ c ∈ e.cs, c.wf na) (hro : ∀ L, (∀ e ∈ Lc, find L e.lab = some e) → roL [] na L Lc) (hin : injB [] (⟨0, .ro 0, l.map C.u⟩ :: Lc) = true) :
    Spec Tryd.prog 86 [V.c (.sl 0 l.length), V.c (.fn f caps)] (⟨0, .ro 0, l.map C.u⟩ :: Lc) na (Is (V.i (idxU l p))) := by
  have hlm : (l.map C.u).length = l.length := by simp
  have hlt0 : ∀ k, k < l.length → (l.map C.u)[mulS ((k : Nat) : Int).toNat 1]? = some (C.u (l.getD k 0)) := fun k hk => uLz rfl hk
  have hwL : ∀ e ∈ ((⟨0, .ro 0, l.map C.u⟩ : E) :: Lc), e.lab < na ∧ ∀ c ∈ e.cs, c.wf na := fun e he => by
    rcases List.mem_cons.1 he with rfl | he
    · exact ⟨h0, wf_us _ _⟩
    · exact hw e he
  have hro' : roL [] na (⟨0, .ro 0, l.map C.u⟩ :: Lc) Lc := hro _ fun e he => find_self hin e (by simp [he])
  have hin' : injB [] Lc = true := by simp only [injB, Bool.and_eq_true] at hin; exact hin.2
  have hfn : (V.c (.fn f caps)).wf na := hcaps
  have hvw : ∀ i, ∀ v ∈ ([V.u (l.getD i 0)] ++ caps.map ptrV), v.wf na := fun i v hv => by
    rcases List.mem_append.1 hv with hv | hv
    · rw [List.mem_singleton.1 hv]; trivial
    · obtain ⟨q, hq, rfl⟩ := List.mem_map.1 hv; exact hcaps q hq
  have hren : ∀ i, renVs [] ([V.u (l.getD i 0)] ++ caps.map ptrV) = some ([V.u (l.getD i 0)] ++ caps.map ptrV) := fun i => by
    have : ∀ m : List (Nat × Nat), seqO ((m.map ptrV).map (V.ren [])) = some (m.map ptrV) := by
      intro m
      induction m with
      | nil => rfl
      | cons q r ih => simp only [List.map_cons, V.ren, A.ren, C.ren, renL, ptrV, V.c] at *; simp only [seqO, ih]
    simp only [renVs, List.singleton_append, List.map_cons, V.ren, A.ren, C.ren, V.u, C.u, V.c]
    simp only [seqO, this]
  refine Spec.of tok Tryd.func86 rfl rfl rfl fun n0 cx => vc_ok tok ?_
  repeat ((conv => whnf); first | (refine And.intro (by first | omega | exact Nat.le_of_ble_eq_true rfl | (dsimp only [inK]; omega) | (simp only [mulS_eq]; omega) | (simp only [mulS_eq, setL_length]; omega) | (simp only [setL_length]; omega) | (simp only [setL_length, List.length_map]; omega) | (exact ⟨by omega, by omega, by first | exact Nat.le_of_ble_eq_true rfl | (dsimp only; omega) | (simp only [setL_length]; omega) | (simp only [setL_length, List.length_map]; omega)⟩) | (exact ⟨by omega, by first | rfl | omega, by omega, Nat.le_of_ble_eq_true rfl, Nat.le_of_ble_eq_true rfl⟩) | (exact ⟨rfl, rfl, rfl, Nat.le_of_ble_eq_true rfl, by first | rfl | omega | exact Nat.le_of_ble_eq_true rfl | (dsimp only; omega) | (simp; done) | (simp; omega), by first | rfl | omega | exact Nat.le_of_ble_eq_true rfl | (dsimp only; omega) | (simp; done) | (simp; omega), by omega, Nat.le_of_ble_eq_true rfl⟩) | exact Eq.refl true) ?_) | refine Exists.intro _ (And.intro rfl ?_) | refine And.intro (And.intro rfl (chk_rowI _ _ _ _)) ?_ | refine br_t (by omega) ?_ | refine br_f (by omega) ?_ | refine bs_t (by omega) ?_ | refine bs_f (by omega) ?_ | refine fun (K' : K3) hK' => ?_ | (refine hK' _ _ _ ?_; clear hK' K') | refine draw_auto tok mixed (by kernel_rfl) ?_ | refine bs_bt (Eq.refl true) ?_ | refine bs_bf (Eq.refl false) ?_ | refine br_bt (Eq.refl true) ?_ | refine br_bf (Eq.refl false) ?_ | refine CallK.m ?_ | refine Two.l ?_ | refine And.intro (And.intro rfl rfl) ?_)
  refine Tri.loop (γ := Nat) (fun k => k ≤ l.length ∧ ∀ i, i < k → p (l.getD i 0) = false) (fun k => [(0, V.c (.sl 0 l.length)), (1, V.c (.fn f caps)), (7, V.i l.length), (8, V.i (k : Nat))]) (fun k => ⟨0, .ro 0, l.map C.u⟩ :: Lc) na (fun k => l.length - k) 0 (R0 := []) ?_ ?_ ?_
  · exact ⟨by omega, by omega⟩
  · refine ⟨?_, cov_refl hwL hin, hin, rfl, Nat.le_refl _⟩
    repeat (first | exact trivial | refine And.intro (covS_syn (by first | rfl) rfl (by first | exact trivial | exact h0 | exact hcaps)) ?_)
  · rintro k ⟨hk, hb⟩
    refine vc_ok tok ?_
    by_cases hlt : k < l.length
    · have hlk := hlt0 k hlt
      cases hbad : p (l.getD k 0) with
      | true =>
        repeat ((conv => whnf); first | (refine And.intro (by first | omega | exact Nat.le_of_ble_eq_true rfl | (dsimp only [inK]; omega) | (simp only [mulS_eq]; omega) | (simp only [mulS_eq, setL_length]; omega) | (simp only [setL_length]; omega) | (simp only [setL_length, List.length_map]; omega) | (exact ⟨by omega, by omega, by first | exact Nat.le_of_ble_eq_true rfl | (dsimp only; omega) | (simp only [setL_length]; omega) | (simp only [setL_length, List.length_map]; omega)⟩) | (exact ⟨by omega, by first | rfl | omega, by omega, Nat.le_of_ble_eq_true rfl, Nat.le_of_ble_eq_true rfl⟩) | (exact ⟨rfl, rfl, rfl, Nat.le_of_ble_eq_true rfl, by first | rfl | omega | exact Nat.le_of_ble_eq_true rfl | (dsimp only; omega) | (simp; done) | (simp; omega), by first | rfl | omega | exact Nat.le_of_ble_eq_true rfl | (dsimp only; omega) | (simp; done) | (simp; omega), by omega, Nat.le_of_ble_eq_true rfl⟩) | exact Eq.refl true) ?_) | with_reducible refine ld (hlk) ?_ | refine Exists.intro _ (And.intro rfl ?_) | refine And.intro (And.intro rfl (chk_rowI _ _ _ _)) ?_ | refine br_t (by omega) ?_ | refine br_f (by omega) ?_ | refine bs_t (by omega) ?_ | refine bs_f (by omega) ?_ | refine fun (K' : K3) hK' => ?_ | (refine hK' _ _ _ ?_; clear hK' K') | refine draw_auto tok mixed (by kernel_rfl) ?_ | refine CallK.val (R := []) (hsp k hlt) hcb (hren k) (hvw k) hro' hin' rfl trivial ?_ | refine br_bt hbad ?_ | refine bs_bt (Eq.refl true) ?_ | refine bs_bf (Eq.refl false) ?_ | refine br_bt (Eq.refl true) ?_ | refine br_bf (Eq.refl false) ?_ | refine CallK.m ?_ | refine Two.l ?_ | refine And.intro (And.intro rfl rfl) ?_)
        intro ρ
        rw [idxU, find_numU hlt hbad hb]; rfl
      | false =>
        repeat ((conv => whnf); first | (refine And.intro (by first | omega | exact Nat.le_of_ble_eq_true rfl | (dsimp only [inK]; omega) | (simp only [mulS_eq]; omega) | (simp only [mulS_eq, setL_length]; omega) | (simp only [setL_length]; omega) | (simp only [setL_length, List.length_map]; omega) | (exact ⟨by omega, by omega, by first | exact Nat.le_of_ble_eq_true rfl | (dsimp only; omega) | (simp only [setL_length]; omega) | (simp only [setL_length, List.length_map]; omega)⟩) | (exact ⟨by omega, by first | rfl | omega, by omega, Nat.le_of_ble_eq_true rfl, Nat.le_of_ble_eq_true rfl⟩) | (exact ⟨rfl, rfl, rfl, Nat.le_of_ble_eq_true rfl, by first | rfl | omega | exact Nat.le_of_ble_eq_true rfl | (dsimp only; omega) | (simp; done) | (simp; omega), by first | rfl | omega | exact Nat.le_of_ble_eq_true rfl | (dsimp only; omega) | (simp; done) | (simp; omega), by omega, Nat.le_of_ble_eq_true rfl⟩) | exact Eq.refl true) ?_) | with_reducible refine ld (hlk) ?_ | refine Exists.intro _ (And.intro rfl ?_) | refine And.intro (And.intro rfl (chk_rowI _ _ _ _)) ?_ | refine br_t (by omega) ?_ | refine br_f (by omega) ?_ | refine bs_t (by omega) ?_ | refine bs_f (by omega) ?_ | refine fun (K' : K3) hK' => ?_ | (refine hK' _ _ _ ?_; clear hK' K') | refine draw_auto tok mixed (by kernel_rfl) ?_ | refine CallK.val (R := []) (hsp k hlt) hcb (hren k) (hvw k) hro' hin' rfl trivial ?_ | refine br_bf hbad ?_ | refine bs_bt (Eq.refl true) ?_ | refine bs_bf (Eq.refl false) ?_ | refine br_bt (Eq.refl true) ?_ | refine br_bf (Eq.refl false) ?_ | refine CallK.m ?_ | refine Two.l ?_ | refine And.intro (And.intro rfl rfl) ?_)
        refine ⟨k + 1, [], ⟨by omega, fun i hi => ?_⟩, by omega, ?_⟩
        · by_cases h : i = k
          · rw [h]; exact hbad
          · exact hb i (by omega)
        refine ⟨?_, cov_refl hwL hin, hin, rfl, Nat.le_refl _⟩
        repeat (first | exact trivial | refine And.intro (covS_syn (by first | rfl | (refine congrArg some (congrArg V.i ?_); omega)) rfl (by first | exact trivial | exact h0 | exact hcaps)) ?_)
    · have hkl : k = l.length := by omega
      repeat ((conv => whnf); first | (refine And.intro (by first | omega | exact Nat.le_of_ble_eq_true rfl | (dsimp only [inK]; omega) | (simp only [mulS_eq]; omega) | (simp only [mulS_eq, setL_length]; omega) | (simp only [setL_length]; omega) | (simp only [setL_length, List.length_map]; omega) | (exact ⟨by omega, by omega, by first | exact Nat.le_of_ble_eq_true rfl | (dsimp only; omega) | (simp only [setL_length]; omega) | (simp only [setL_length, List.length_map]; omega)⟩) | (exact ⟨by omega, by first | rfl | omega, by omega, Nat.le_of_ble_eq_true rfl, Nat.le_of_ble_eq_true rfl⟩) | (exact ⟨rfl, rfl, rfl, Nat.le_of_ble_eq_true rfl, by first | rfl | omega | exact Nat.le_of_ble_eq_true rfl | (dsimp only; omega) | (simp; done) | (simp; omega), by first | rfl | omega | exact Nat.le_of_ble_eq_true rfl | (dsimp only; omega) | (simp; done) | (simp; omega), by omega, Nat.le_of_ble_eq_true rfl⟩) | exact Eq.refl true) ?_) | refine Exists.intro _ (And.intro rfl ?_) | refine And.intro (And.intro rfl (chk_rowI _ _ _ _)) ?_ | refine br_t (by omega) ?_ | refine br_f (by omega) ?_ | refine bs_t (by omega) ?_ | refine bs_f (by omega) ?_ | refine fun (K' : K3) hK' => ?_ | (refine hK' _ _ _ ?_; clear hK' K') | refine draw_auto tok mixed (by kernel_rfl) ?_ | refine bs_bt (Eq.refl true) ?_ | refine bs_bf (Eq.refl false) ?_ | refine br_bt (Eq.refl true) ?_ | refine br_bf (Eq.refl false) ?_ | refine CallK.m ?_ | refine Two.l ?_ | refine And.intro (And.intro rfl rfl) ?_)
      intro ρ
      rw [idxU, find_notU (fun i hi => hb i (by omega))]; rfl
theorem lineC_spec (t : List Nat) (n a s : Nat) (htl : t.length = n) (ha : a < n) (ht : ∀ x ∈ t, x < 256) (hs : s < 256) : Spec Tryd.prog 87 ([V.u s] ++ [(1, 0), (2, 0)].map ptrV) [⟨1, .ro 0, [.sl 3 n]⟩, ⟨2, .ro 0, [C.i a]⟩, ⟨3, .ro 0, t.map C.u⟩] 4 (Is (V.c (.bool (decide (t.getD a 0 &&& s = 0))))) := by
  have hlt : (t.map C.u)[mulS ((a : Nat) : Int).toNat 1]? = some (C.u (t.getD a 0)) := uLz rfl (by omega)
  have ht8 : t.getD a 0 < 256 := getD_lt (by omega) ht _
  have hbt := bit_and (x := t.getD a 0) (y := s) (by omega) (by omega)
  show Spec Tryd.prog 87 [V.u s, V.c (.ptr 1 0), V.c (.ptr 2 0)] _ _ _
  refine Spec.of tok Tryd.func87 rfl rfl rfl fun n0 cx => vc_ok tok ?_
  repeat ((conv => whnf); first | (refine And.intro (by first | omega | exact Nat.le_of_ble_eq_true rfl | (dsimp only [inK]; omega) | (simp only [mulS_eq]; omega) | (simp only [mulS_eq, setL_length]; omega) | (simp only [setL_length]; omega) | (simp only [setL_length, List.length_map]; omega) | (exact ⟨by omega, by omega, by first | exact Nat.le_of_ble_eq_true rfl | (dsimp only; omega) | (simp only [setL_length]; omega) | (simp only [setL_length, List.length_map]; omega)⟩) | (exact ⟨by omega, by first | rfl | omega, by omega, Nat.le_of_ble_eq_true rfl, Nat.le_of_ble_eq_true rfl⟩) | (exact ⟨rfl, rfl, rfl, Nat.le_of_ble_eq_true rfl, by first | rfl | omega | exact Nat.le_of_ble_eq_true rfl | (dsimp only; omega) | (simp; done) | (simp; omega), by first | rfl | omega | exact Nat.le_of_ble_eq_true rfl | (dsimp only; omega) | (simp; done) | (simp; omega), by omega, Nat.le_of_ble_eq_true rfl⟩) | exact Eq.refl true) ?_) | with_reducible refine ld (hlt) ?_ | refine Exists.intro _ (And.intro rfl ?_) | refine And.intro (And.intro rfl (chk_rowI _ _ _ _)) ?_ | refine br_t (by omega) ?_ | refine br_f (by omega) ?_ | refine bs_t (by omega) ?_ | refine bs_f (by omega) ?_ | refine fun (K' : K3) hK' => ?_ | (refine hK' _ _ _ ?_; clear hK' K') | refine draw_auto tok mixed (by kernel_rfl) ?_ | refine bs_bt (Eq.refl true) ?_ | refine bs_bf (Eq.refl false) ?_ | refine br_bt (Eq.refl true) ?_ | refine br_bf (Eq.refl false) ?_ | refine CallK.m ?_ | refine Two.l ?_ | refine And.intro (And.intro rfl rfl) ?_)
  intro ρ
  refine congrArg Value.bool (decide_eq_decide.2 ?_)
  show bitI .and .u64 _ _ = 0 ↔ _
  rw [hbt]; omega
theorem indexS_spec (t : List Nat) (n a : Nat) (gs : List Nat) (htl : t.length = n) (ha : a < n) (ht : ∀ x ∈ t, x < 256) (hgl : gs.length ≤ 300) (hg : ∀ x ∈ gs, x < 256) : Spec Tryd.prog 86 [V.c (.sl 0 gs.length), V.c (.fn 87 [(1, 0), (2, 0)])] [⟨0, .ro 0, gs.map C.u⟩, ⟨1, .ro 0, [.sl 3 n]⟩, ⟨2, .ro 0, [C.i a]⟩, ⟨3, .ro 0, t.map C.u⟩] 4 (Is (V.i (idxU gs fun g => decide (t.getD a 0 &&& g = 0)))) := by
  refine index_anyU hgl (by kernel_rfl) (fun i hi => lineC_spec t n a (gs.getD i 0) htl ha ht (getD_lt (by omega) hg _)) (by simp) (by omega) ?_ ?_ ?_
  · intro e he
    simp only [List.mem_cons, List.not_mem_nil, or_false] at he
    rcases he with rfl | rfl | rfl
    · exact ⟨Nat.le_of_ble_eq_true rfl, by simp [C.wf]⟩
    · exact ⟨Nat.le_of_ble_eq_true rfl, by simp [C.wf, C.i]⟩
    · exact ⟨Nat.le_of_ble_eq_true rfl, wf_us _ _⟩
  · intro L h
    exact ⟨roE_id (Nat.le_of_ble_eq_true rfl) (by simp [C.wf]) (h ⟨1, .ro 0, [.sl 3 n]⟩ (by simp)) (.inl rfl) rfl, roE_id (Nat.le_of_ble_eq_true rfl) (by simp [C.wf, C.i]) (h ⟨2, .ro 0, [C.i a]⟩ (by simp)) (.inl rfl) rfl, roE_id (Nat.le_of_ble_eq_true rfl) (wf_us _ _) (h ⟨3, .ro 0, t.map C.u⟩ (by simp)) (.inl rfl) rfl, trivial⟩
  · rfl
theorem idxU_mex {cl : Nat → Nat → Bool} {os : List Nat} {k : Nat} {gs : List Nat} (hg : Gps cl os k gs) {t a : Nat} (ht : ∀ b, t.testBit b = cl a b) :
    (mexS cl (lnF cl os k) (os.take k) a < gs.length ∧ idxU gs (fun g => decide (t &&& g = 0)) = (mexS cl (lnF cl os k) (os.take k) a : Nat)) ∨ (mexS cl (lnF cl os k) (os.take k) a = gs.length ∧ idxU gs (fun g => decide (t &&& g = 0)) = -1) := by
  obtain ⟨m1, _, m3⟩ := mexS_spec cl (lnF cl os k) (os.take k) a
  have hov := hg.over (a := a) (i := gs.length) (Nat.le_refl _)
  have hle : mexS cl (lnF cl os k) (os.take k) a ≤ gs.length := by
    rcases Nat.lt_or_ge gs.length (mexS cl (lnF cl os k) (os.take k) a) with h | h
    · rw [m3 _ h] at hov; cases hov
    · exact h
  have hno : ∀ i, i < mexS cl (lnF cl os k) (os.take k) a → i < gs.length → (fun g => decide (t &&& g = 0)) (gs.getD i 0) = false := fun i h1 h2 => by
    have h3 := m3 i h1
    simp only [decide_eq_false_iff_not]
    rw [hg.blk ht h2, h3]; simp
  rcases Nat.lt_or_ge (mexS cl (lnF cl os k) (os.take k) a) gs.length with h | h
  · left
    refine ⟨h, ?_⟩
    unfold idxU
    rw [find_numU h (by simp only [decide_eq_true_iff]; exact (hg.blk ht h).2 m1) (fun i hi => hno i hi (by omega))]
  · right
    refine ⟨by omega, ?_⟩
    unfold idxU
    rw [find_notU (fun i hi => hno i (by omega) hi)]
end Go.Proofs.YtijnimgmpocmaaaDoor

/- Waste, plain: the first right filling. -/
namespace Go.Proofs.YtijnimgmpocmaaaDoor
open Go.RowKit
set_option linter.unusedVariables false
set_option linter.unusedSimpArgs false
/-- The first right filling that goes on from some kinds. -/
def frst (cl : Nat → Nat → Bool) (skips : Nat) : Nat → List Nat → Option (List Nat)
  | 0, fill => some fill
  | m + 1, fill => (List.range skips).findSome? fun s => if okF cl fill s = true then frst cl skips m (fill ++ [s]) else none
def frI (cl : Nat → Nat → Bool) (skips m : Nat) (fill : List Nat) (s : Nat) : Option (List Nat) := if okF cl fill s = true then frst cl skips m (fill ++ [s]) else none
theorem frst_succ (cl : Nat → Nat → Bool) (skips m : Nat) (fill : List Nat) : frst cl skips (m + 1) fill = (List.range skips).findSome? (frI cl skips m fill) := rfl
theorem find_none {f : Nat → Option (List Nat)} {n : Nat} (h : ∀ s, s < n → f s = none) : (List.range n).findSome? f = none := by
  rw [List.findSome?_eq_none_iff]
  exact fun s hs => h s (List.mem_range.1 hs)
theorem find_some {f : Nat → Option (List Nat)} {l : List Nat} {k : Nat} : ∀ {n}, k < n → (∀ s, s < k → f s = none) → f k = some l → (List.range n).findSome? f = some l
  | n + 1, hk, h, hf => by
    rw [List.range_succ, List.findSome?_append]
    rcases Nat.lt_or_ge k n with h1 | h1
    · rw [find_some h1 h hf]; rfl
    · obtain rfl : k = n := by omega
      rw [find_none h]
      show Option.or none _ = _
      simp [hf]
theorem find_inv {f : Nat → Option (List Nat)} {l : List Nat} : ∀ {n}, (List.range n).findSome? f = some l → ∃ k, k < n ∧ f k = some l ∧ ∀ s, s < k → f s = none
  | 0, h => by simp at h
  | n + 1, h => by
    rw [List.range_succ, List.findSome?_append] at h
    cases hr : (List.range n).findSome? f with
    | some y =>
      rw [hr] at h
      obtain ⟨k, hk, h1, h2⟩ := find_inv hr
      simp at h
      exact ⟨k, by omega, by rw [h1, h], h2⟩
    | none =>
      rw [hr] at h
      simp at h
      refine ⟨n, by omega, h, fun s hs => ?_⟩
      rw [List.findSome?_eq_none_iff] at hr
      exact hr s (List.mem_range.2 hs)
section
variable {cl : Nat → Nat → Bool} {skips : Nat}
theorem rgt_ok {p : List Nat} {s : Nat} (h : rgt cl p) : rgt cl (p ++ [s]) ↔ okF cl p s = true := by
  have hl : ∀ i, i < p.length → (p ++ [s]).getD i 0 = p.getD i 0 := fun i hi => by
    simp [List.getD_eq_getElem?_getD, List.getElem?_append_left hi]
  have hs : (p ++ [s]).getD p.length 0 = s := by simp [List.getD_eq_getElem?_getD]
  unfold okF
  simp only [List.all_eq_true, List.mem_range, Bool.or_eq_true, Bool.not_eq_true', decide_eq_false_iff_not]
  constructor
  · intro hr i hi
    cases hc : cl i p.length with
    | false => exact .inr rfl
    | true =>
      left
      have := hr i p.length hi (by simp) hc
      rw [hl i hi, hs] at this; exact this
  · intro ho i j hij hj hc
    rw [List.length_append, List.length_singleton] at hj
    rcases Nat.lt_or_ge j p.length with h1 | h1
    · rw [hl i (by omega), hl j h1]; exact h i j hij h1 hc
    · obtain rfl : j = p.length := by omega
      rw [hl i hij, hs]
      rcases ho i hij with h2 | h2
      · exact h2
      · rw [hc] at h2; cases h2
theorem rgt_nil (cl : Nat → Nat → Bool) : rgt cl [] := fun i j _ hj => by simp at hj
theorem frst_sound : ∀ {m : Nat} {fill l : List Nat}, frst cl skips m fill = some l → rgt cl fill → (∀ s ∈ fill, s < skips) → l.length = fill.length + m ∧ rgt cl l ∧ ∀ s ∈ l, s < skips
  | 0, fill, l, h, hr, hb => by
    simp only [frst, Option.some.injEq] at h
    subst h; exact ⟨rfl, hr, hb⟩
  | m + 1, fill, l, h, hr, hb => by
    obtain ⟨s, hs, h1, _⟩ := find_inv h
    split at h1
    · rename_i hok
      have := frst_sound h1 ((rgt_ok hr).2 hok) (fun t ht => by
        rcases List.mem_append.1 ht with ht | ht
        · exact hb t ht
        · rw [List.mem_singleton.1 ht]; exact hs)
      rw [List.length_append, List.length_singleton] at this
      exact ⟨by omega, this.2⟩
    · cases h1
theorem rgt_prefix {p q : List Nat} (h : rgt cl (p ++ q)) : rgt cl p := fun i j hij hj hc => by
  have h1 : ∀ i, i < p.length → (p ++ q).getD i 0 = p.getD i 0 := fun i hi => by simp [List.getD_eq_getElem?_getD, List.getElem?_append_left hi]
  have := h i j hij (by rw [List.length_append]; omega) hc
  rwa [h1 i (by omega), h1 j hj] at this
theorem frst_full : ∀ {m : Nat} {fill q : List Nat}, q.length = m → rgt cl (fill ++ q) → (∀ s ∈ q, s < skips) → ∃ l, frst cl skips m fill = some l
  | 0, fill, q, _, _, _ => ⟨fill, rfl⟩
  | m + 1, fill, [], h, _, _ => by simp at h
  | m + 1, fill, s :: q, h, hr, hb => by
    have hr' : rgt cl (fill ++ [s] ++ q) := by rw [List.append_assoc]; exact hr
    have hok := (rgt_ok (rgt_prefix (rgt_prefix hr'))).1 (rgt_prefix hr')
    obtain ⟨l, hl⟩ := frst_full (m := m) (fill := fill ++ [s]) (q := q) (by simpa using h) hr' (fun t ht => hb t (by simp [ht]))
    cases hf : frst cl skips (m + 1) fill with
    | some l => exact ⟨l, rfl⟩
    | none =>
      exfalso
      rw [frst_succ, List.findSome?_eq_none_iff] at hf
      have := hf s (List.mem_range.2 (hb s (by simp)))
      unfold frI at this
      rw [if_pos hok, hl] at this; cases this
theorem frst_iff {n : Nat} : (∃ l, frst cl skips n [] = some l) ↔ ∃ f : List Nat, f.length = n ∧ (∀ s ∈ f, s < skips) ∧ rgt cl f := by
  constructor
  · rintro ⟨l, hl⟩
    have := frst_sound hl (rgt_nil cl) (by simp)
    exact ⟨l, by simpa using this.1, this.2.2, this.2.1⟩
  · rintro ⟨f, h1, h2, h3⟩
    exact frst_full (q := f) h1 (by simpa using h3) h2
end
theorem rgt_sym {cl : Nat → Nat → Bool} {f : List Nat} : rgt (symC cl) f ↔ rgt cl f := by
  constructor
  · intro h i j hij hj hc; exact h i j hij hj (by unfold symC; rw [if_pos hij]; exact hc)
  · intro h i j hij hj hc
    unfold symC at hc; rw [if_pos hij] at hc
    exact h i j hij hj hc
end Go.Proofs.YtijnimgmpocmaaaDoor

/- Waste: slices.Clone of numbers. -/
namespace Go.Proofs.YtijnimgmpocmaaaDoor
open Go.RowKit
set_option linter.unusedVariables false
set_option linter.unusedSimpArgs false
theorem own_baseI {w : World} {b b' e sz n : Nat} {v : Value} {xs : List Value} (h : w.ownsRow b e sz v n xs) (hb : b' ≤ b) : w.ownsRow b' e sz v n xs := by
  obtain ⟨h1, h2 | ⟨g, cap, cur, hv, hg, hh, hn, hm, hs, ht⟩⟩ := h
  · exact ⟨h1, .inl h2⟩
  · exact ⟨h1, .inr ⟨g, cap, cur, hv, by omega, hh, hn, hm, hs, ht⟩⟩
theorem own_sliceI {w : World} {base n : Nat} {v : Value} {xs : List Value} (h : w.ownsRow base 3 1 v n xs) : ∃ ao c, v = .slice ao n c ∧ ∀ a, ao = some a → base ≤ a.block := by
  obtain ⟨h1, ⟨rfl, h2⟩ | ⟨g, cap, cur, rfl, hb, hh, hn, hm, hs, ht⟩⟩ := h
  · exact ⟨none, 0, by rw [h2], fun a ha => by cases ha⟩
  · exact ⟨_, _, rfl, fun a ha => by cases ha; exact hb⟩
theorem ro_getI {w : World} {ao : Option Addr} {l : List Value} {k : Nat} (h : RoAt w ao l) (hk : k < l.length) : ∃ b off, ao = some ⟨b, off, none⟩ ∧ b < w.heap.size ∧ w.cell? ⟨b, off + k, none⟩ = some (l.getD k undef) := by
  obtain ⟨b, off, h1, h2, h3⟩ := h (by intro e; rw [e] at hk; simp at hk)
  exact ⟨b, off, h1, h2, h3 k hk⟩
set_option maxRecDepth 100000 in
set_option maxHeartbeats 400000 in
theorem cloneI_any (ao : Option Addr) (c n : Nat) (xs : List Value) (w : World) (hl : RoAt w ao xs) (h2 : xs.length = n * 1) (h1 : ∀ u ∈ xs, u.oneCell' = true) (hn : n ≤ 1000000) :
    Calls Tryd.prog 105 #[.slice ao n c] w fun e w' => ∃ rv, e = .returned rv ∧ w'.ownsRow w.heap.size 3 1 rv n xs ∧ Below w.heap.size w w' := by
  cases ao with
  | none =>
    have h0 : n = 0 := by
      cases n with
      | zero => rfl
      | succ n => obtain ⟨b, off, h, _⟩ := ro_getI hl (k := 0) (by omega); cases h
    subst h0
    have hx : xs = [] := List.eq_nil_of_length_eq_zero (by simpa using h2)
    subst hx
    have he := fun W => Lib.run_eql_slice_nil (P := Tryd.prog) W 25 3 none 0 c 0 0 Tryd.underlying25
    go_enter Tryd.func105, Tryd.ntmps105
    go_wp2
    go_ret
    exact ⟨_, rfl, World.ownsRow_nil _ _ _ _, Below.refl _ _⟩
  | some a =>
    have he := fun W => Lib.run_eql_slice_nil (P := Tryd.prog) W 25 3 (some a) n c 0 0 Tryd.underlying25
    obtain ⟨i0, hi, hz0, hz1, hz2⟩ : ∃ i, Tryd.prog.info? 3 = some i ∧ i.size = 1 ∧ i.bytes = 8 ∧ i.zero = some (.int .i64 0) := ⟨(Tryd.prog.info? 3).getD default, by kernel_rfl, by kernel_rfl, by kernel_rfl, by kernel_rfl⟩
    have hown : (w.alloc (.cells #[] 3)).ownsRow w.heap.size 3 1 (.slice (some ⟨w.heap.size, 0, none⟩) 0 0) 0 [] :=
      ⟨rfl, .inr ⟨w.heap.size, 0, #[], rfl, Nat.le_refl _, World.alloc_heap_new _ _, Nat.le_refl _, by simp [maxLen], rfl, rfl⟩⟩
    have hnews : ∀ j u, xs[j]? = some u → (w.alloc (.cells #[] 3)).cell? (a.add j) = some u := by
      intro j u hj
      obtain ⟨hj1, hj2⟩ := List.getElem?_eq_some_iff.1 hj
      obtain ⟨b, off, ha, hb, hc⟩ := ro_getI hl hj1
      obtain rfl : a = ⟨b, off, none⟩ := by simpa using ha
      have : (⟨b, off, none⟩ : Addr).add j = ⟨b, off + j, none⟩ := by
        unfold Addr.add; split
        · rename_i h; subst h; rfl
        · rfl
      rw [this, World.cell?_alloc_lt _ _ _ hb, hc, ← hj2]
      simp [List.getD_eq_getElem?_getD, List.getElem?_eq_getElem hj1]
    have hxl : xs.length = n * 1 := h2
    go_enter Tryd.func105, Tryd.ntmps105
    go_wp2_with (first | (at_builtin; go_loud (refine wpList_append_own _ rfl _ _ 25 rfl w.heap.size 3 i0 (.int .i64 0) 1 8 Tryd.underlying25 hi hz2 hz0 hz1 rfl (by decide) _ _ _ rfl hown a n c xs rfl hxl hnews h1 (by simp [maxLen]; omega) (by omega) (by simp) ?_; intro v' w1 hown1 hgrow1 _)))
    go_ret
    exact ⟨_, rfl, by simpa using hown1, ((Below.refl _ _).alloc (Nat.le_refl _) _).grown hgrow1 (by simp) (fun k e => by cases e; exact Nat.le_refl _)⟩
theorem cloneI_k {n0 nx a : Nat} {k : Kd} {l : List Int} {L : List E} {K : V → List E → Nat → Prop} (hn : l.length ≤ 1000000) (ha : find L a = some ⟨a, k, l.map C.i⟩) (hK : K (V.c (.sl nx l.length)) [⟨nx, .vec 3 1, l.map C.i⟩] (nx + 1)) : CallK Tryd.prog n0 105 [V.c (.sl a l.length)] L nx K := by
  refine ⟨by kernel_rfl, fun ρ w hp _ => ?_⟩
  have hag : ∀ ρ' : Env, ((l.map C.i)).map (C.den ρ') = ((l.map C.i)).map (C.den ρ) := fun ρ' => List.map_congr_left fun c hc => by obtain ⟨z, _, rfl⟩ := List.mem_map.1 hc; rfl
  have hc := cloneI_any (ρ a).1 (ρ a).2 l.length (((l.map C.i)).map (C.den ρ)) w (hp.row ha).1 (by rw [List.length_map, List.length_map]; omega) (fun u hu => by
    obtain ⟨c, hc, rfl⟩ := List.mem_map.1 hu
    obtain ⟨z, _, rfl⟩ := List.mem_map.1 hc; rfl) hn
  refine Calls.mono (show Calls Tryd.prog 105 ([V.c (.sl a l.length)].map (V.den ρ)).toArray w _ from hc) ?_
  rintro e w' ⟨rv, rfl, hown, hbw⟩
  obtain ⟨ao, c, rfl, hblk⟩ := own_sliceI hown
  refine ⟨V.c (.sl nx l.length), [⟨nx, .vec 3 1, l.map C.i⟩], nx + 1, ρ.put nx ao c, ?_, Nat.le_succ _, Nat.lt_succ_self nx, Env.put_agr _ _ _ _, hbw, News.one ?_ rfl (wf_ints _ _) ?_, hK⟩
  · simp [V.den, A.den, C.den, Env.put_same]
  · refine ⟨l.length, ?_⟩
    simp only [Env.put_same]
    rw [hag]
    exact rowO.of (own_baseI hown hp.base)
  · intro b hb
    simp only [blk, Env.put_same, Option.map_eq_some_iff] at hb
    obtain ⟨a, ha, rfl⟩ := hb
    exact hblk a ha
end Go.Proofs.YtijnimgmpocmaaaDoor

/- Waste: the first right filling, walked. -/
namespace Go.Proofs.YtijnimgmpocmaaaDoor
open Go.RowKit
set_option linter.unusedVariables false
set_option linter.unusedSimpArgs false
theorem covE_bo {R : Rn} {nx l l' : Nat} {L : List E} {c : C} {b : Bool} (hr : renL R l = some l') (h1 : l < nx) (h3 : find L l' = some ⟨l', .own 4, [c]⟩) (h : c.toB = some b) : covE R nx L ⟨l, .own 4, [.bool b]⟩ :=
  covE_sem hr h1 (wf_bools nx [b]) h3 (.inl rfl) (fun ρ => den_toB (l := [b]) (by simp [h]))
theorem cloneN_k {n0 nx a : Nat} {k : Kd} {l : List Nat} {L : List E} {K : V → List E → Nat → Prop} (hn : l.length ≤ 1000000) (ha : find L a = some ⟨a, k, (natI l).map C.i⟩) (hK : K (V.c (.sl nx l.length)) [⟨nx, .vec 3 1, (natI l).map C.i⟩] (nx + 1)) : CallK Tryd.prog n0 105 [V.c (.sl a l.length)] L nx K := by
  have h := natI_len l
  have := cloneI_k (n0 := n0) (nx := nx) (a := a) (k := k) (l := natI l) (L := L) (K := K) (by omega) ha
  rw [h] at this
  exact this hK
/-- A callee that gives back what came in. -/
theorem CallK.inRow {P : Program} {n0 nx nac x c m : Nat} {f : FuncId} {vs vs' : List V} {Lc L : List E} {R : Rn} {K : V → List E → Nat → Prop} (spec : Spec P f vs Lc nac (fun v L' _ => v = V.c (.sl c m))) (hok : callB P f = true)
    (hv : renVs R vs = some vs') (hvw : ∀ v ∈ vs, v.wf nac) (hL : roL R nac L Lc) (hLc : injB [] Lc = true) (hc : c < nac) (hR : renL R c = some x) (hx : x < nx) (hK : K (V.c (.sl x m)) [] nx) : CallK P n0 f vs' L nx K := by
  refine CallK.mkIn hok spec hv hvw hL hLc [(x, c)] (fun q hq => ?_) ?_
  · rw [List.mem_singleton.1 hq]; exact ⟨hc, hR, hx⟩
  · rintro v L' nx' hw rfl
    have h0 : renL [(x, some c)] x = some c := by simp [renL]
    refine ⟨V.c (.sl x m), [], nx, [(x, some c)], ⟨Nat.le_refl _, ?_, ?_, trivial, rfl, rfl, fun q hq => ?_⟩, hK⟩
    · simp only [V.ren, A.ren, C.ren, h0]
    · simp [V.chk, A.chk, C.chk, inOr]
    · rw [List.mem_singleton.1 hq]; exact h0
/-- A filling that is whole is the answer. -/
theorem first_0 (t : List Nat) (n skips : Nat) (fill : List Nat) (hfl : fill.length = n) (htl : t.length = n) : Spec Tryd.prog 81 [V.c (.sl 0 n), V.c (.sl 1 n), V.i skips] [⟨0, .ro 0, t.map C.u⟩, ⟨1, .ro 0, (natI fill).map C.i⟩] 2 (fun v L' _ => v = V.c (.sl 1 n)) := by
  refine Spec.of tok Tryd.func81 rfl rfl rfl fun n0 cx => vc_ok tok ?_
  repeat ((conv => whnf); first | (refine And.intro (by first | omega | exact Nat.le_of_ble_eq_true rfl) ?_) | refine Exists.intro _ (And.intro rfl ?_) | refine br_t (by omega) ?_ | refine fun (K' : K3) hK' => ?_ | (refine hK' _ _ _ ?_; clear hK' K'))
  rfl
/-- Some of the kinds that clash have the skip. -/
def clQ (ta a : Nat) (fill : List Nat) (s k : Nat) : Bool := ((bitsL ta).take k).any fun b => decide (b < a) && decide (fill.getD b 0 = s)
theorem clQ_succ {ta a s k : Nat} {fill : List Nat} (h : k < (bitsL ta).length) : clQ ta a fill s (k + 1) = (clQ ta a fill s k || (decide ((bitsL ta).getD k 0 < a) && decide (fill.getD ((bitsL ta).getD k 0) 0 = s))) := by
  have e : (bitsL ta)[k]?.toList = [(bitsL ta).getD k 0] := by rw [List.getD_eq_getElem?_getD, List.getElem?_eq_getElem h]; rfl
  unfold clQ
  rw [List.take_add_one, e, List.any_append]; simp
theorem clQ_ok {n : Nat} {qs : List (Nat × Nat)} (hk : Knd n qs) {fill : List Nat} {s : Nat} : clQ ((tabS n qs).getD fill.length 0) fill.length fill s (bitsL ((tabS n qs).getD fill.length 0)).length = !okF (symC (clP qs)) fill s := by
  have h256 : (tabS n qs).getD fill.length 0 < 256 := getD_lt (by omega) (tabS_256 hk) _
  rw [Bool.eq_iff_iff]
  unfold clQ okF
  rw [List.take_length]
  simp only [List.any_eq_true, Bool.and_eq_true, decide_eq_true_iff, Bool.not_eq_true', List.all_eq_false, List.mem_range, Bool.or_eq_true, Bool.not_eq_true', decide_eq_false_iff_not, mem_bitsL, tabS_cl hk]
  constructor
  · rintro ⟨b, ⟨_, hb⟩, h1, h2⟩
    refine ⟨b, h1, fun h => ?_⟩
    rcases h with h | h
    · exact h h2
    · rw [symC_comm, hb] at h; cases h
  · rintro ⟨i, hi, h⟩
    have hc : symC (clP qs) i fill.length = true := by
      cases hc : symC (clP qs) i fill.length with
      | true => rfl
      | false => exact absurd (Or.inr hc) h
    have hf : fill.getD i 0 = s := Classical.byContradiction fun h2 => h (.inl h2)
    refine ⟨i, ⟨?_, by rw [symC_comm]; exact hc⟩, hi, hf⟩
    have : ((tabS n qs).getD fill.length 0).testBit i = true := by rw [tabS_cl hk, symC_comm]; exact hc
    exact bit_lt (n := 8) h256 this
theorem frst_sound' {cl : Nat → Nat → Bool} {skips : Nat} : ∀ {m : Nat} {fill l : List Nat}, frst cl skips m fill = some l → l.length = fill.length + m
  | 0, fill, l, h => by simp only [frst, Option.some.injEq] at h; subst h; rfl
  | m + 1, fill, l, h => by
    obtain ⟨s, hs, h1, _⟩ := find_inv h
    split at h1
    · have := frst_sound' h1
      rw [List.length_append, List.length_singleton] at this; omega
    · cases h1
/-- What comes of it. -/
def frQ (n : Nat) (o : Option (List Nat)) (v : V) (L' : List E) : Prop := match o with
  | none => ∀ ρ, v.den ρ = (V.c .nil).den ρ
  | some l => ∃ lab, v = V.c (.sl lab n) ∧ find L' lab = some ⟨lab, .vec 3 1, (natI l).map C.i⟩
set_option maxRecDepth 10000 in
set_option maxHeartbeats 16000000 in
theorem first_step (n : Nat) (qs : List (Nat × Nat)) (hk : Knd n qs) (skips : Nat) (hs20 : skips ≤ 20) (m : Nat) (ih : ∀ m', m = m' + 1 → ∀ fill : List Nat, fill.length + (m' + 1) = n →
      Spec Tryd.prog 81 [V.c (.sl 0 n), V.c (.sl 1 fill.length), V.i skips] [⟨0, .ro 0, (tabS n qs).map C.u⟩, ⟨1, .ro 0, (natI fill).map C.i⟩] 2 (fun v L' _ => frQ n (frst (symC (clP qs)) skips (m' + 1) fill) v L')) (fill : List Nat) (hfl : fill.length + (m + 1) = n) :
    Spec Tryd.prog 81 [V.c (.sl 0 n), V.c (.sl 1 fill.length), V.i skips] [⟨0, .ro 0, (tabS n qs).map C.u⟩, ⟨1, .ro 0, (natI fill).map C.i⟩] 2 (fun v L' _ => frQ n (frst (symC (clP qs)) skips (m + 1) fill) v L') := by
  have hn := hk.rng
  have htl := tabS_len n qs
  have ht := tabS_256 hk
  have htm : ((tabS n qs).map C.u).length = n := by rw [List.length_map, htl]
  have hfm : ((natI fill).map C.i).length = fill.length := by rw [List.length_map, natI_len]
  have hlt : ((tabS n qs).map C.u)[mulS ((fill.length : Nat) : Int).toNat 1]? = some (C.u ((tabS n qs).getD fill.length 0)) := uLz rfl (by omega)
  have hs8 : (tabS n qs).getD fill.length 0 < 256 := getD_lt (by omega) ht _
  have hcq := fun s => clQ_ok hk (fill := fill) (s := s)
  have hlf : ∀ b, b < fill.length → ((natI fill).map C.i)[mulS ((b : Nat) : Int).toNat 1]? = some (C.i ((fill.getD b 0 : Nat) : Int)) := fun b hb => by rw [intLz rfl (by rw [natI_len]; exact hb), natI_get hb]
  have hfr : frst (symC (clP qs)) skips (m + 1) fill = (List.range skips).findSome? (frI (symC (clP qs)) skips m fill) := rfl
  obtain ⟨ta, hta⟩ : ∃ ta, ta = (tabS n qs).getD fill.length 0 := ⟨_, rfl⟩
  rw [← hta] at hlt hs8 hcq
  have hbl := bitsL_len ta
  have hne0 : ¬ ((fill.length : Nat) : Int) = (n : Nat) := by omega
  refine Spec.of tok Tryd.func81 rfl rfl rfl fun n0 cx => vc_ok tok ?_
  repeat ((conv => whnf); first | (refine And.intro (by first | omega | exact Nat.le_of_ble_eq_true rfl) ?_) | refine Exists.intro _ (And.intro rfl ?_) | refine br_f (by omega) ?_ | refine fun (K' : K3) hK' => ?_ | (refine hK' _ _ _ ?_; clear hK' K'))
  refine Tri.loop (γ := Nat) (fun s => s ≤ skips ∧ ∀ r, r < s → frI (symC (clP qs)) skips m fill r = none) (fun s => [(0, V.c (.sl 0 n)), (2, V.i skips), (4, V.c (.ptr 2 0)), (7, V.c (.ptr 3 0)), (19, V.i skips), (20, V.i (s : Nat))])
    (fun s => [⟨3, .own 3, [C.i fill.length]⟩, ⟨2, .own 25, [.sl 1 fill.length]⟩, ⟨0, .ro 0, (tabS n qs).map C.u⟩, ⟨1, .ro 0, (natI fill).map C.i⟩]) 4 (fun s => skips - s) 0 (R0 := []) ?_ ?_ ?_
  · exact ⟨Nat.zero_le _, fun r hr => by omega⟩
  · skip
    refine ⟨?_, ?_, rfl, rfl, by exact Nat.le_of_ble_eq_true rfl⟩
    · repeat (first | exact trivial | (refine And.intro (covS_syn (by rfl) rfl (by first | exact trivial | exact Nat.le_of_ble_eq_true rfl)) ?_))
    · repeat (first | exact trivial | (refine And.intro (covE_id (Nat.le_of_ble_eq_true rfl) (by first | exact wf_ints _ _ | first | exact wf_us _ _ | exact wf_cells _ _ | (simp [C.wf]; done)) rfl (by rfl)) ?_))
  · rintro s ⟨hs, hno⟩
    refine vc_ok tok ?_
    by_cases hsl : s < skips
    · have hcqs := hcq s
      repeat ((conv => whnf); first | (refine And.intro (by first | omega | exact Nat.le_of_ble_eq_true rfl | (dsimp only [inK]; omega)) ?_) | with_reducible refine ld (hlt) ?_ | refine Exists.intro _ (And.intro rfl ?_) | refine br_t (by omega) ?_ | refine fun (K' : K3) hK' => ?_ | (refine hK' _ _ _ ?_; clear hK' K') | refine CallK.fresh (by kernel_rfl) (all_spec _ _ _) rfl ?_ | refine CallK.m ?_)
      refine Tri.opq fun K' hK' => ?_
      refine Tri.rangeFunc tok (by exact rfl) (by kernel_rfl) (by exact rfl) (by exact rfl) (by exact rfl) (by exact rfl) (by exact rfl) (by exact rfl) ?_
      intro y cxi oo ob od hy hY
      refine vc_ok tok ?_
      repeat ((conv => whnf); first | refine Exists.intro _ (And.intro rfl ?_) | refine fun (K' : K3) hK' => ?_ | (refine hK' _ _ _ ?_; clear hK' K'))
      refine Tri.loop (γ := Nat) (fun k => k ≤ (bitsL ta).length) (fun k => [(0, V.c (.v y)), (1, V.c (.ptr 6 0)), (3, V.u (rs ta k))])
        (fun k => [⟨7, .obj oo, []⟩, ⟨6, .own 75, [C.u ta]⟩, ⟨5, .own 4, [.bool (clQ ta fill.length fill s k)]⟩, ⟨4, .own 3, [C.i (s : Nat)]⟩, ⟨3, .own 3, [C.i fill.length]⟩, ⟨2, .own 25, [.sl 1 fill.length]⟩, ⟨0, .ro 0, (tabS n qs).map C.u⟩, ⟨1, .ro 0, (natI fill).map C.i⟩]) 8 (fun k => (bitsL ta).length - k) 0 (R0 := []) ?_ ?_ ?_
      · omega
      · have h0 : clQ ta fill.length fill s 0 = false := rfl
        rw [h0]
        refine ⟨?_, ?_, rfl, rfl, by exact Nat.le_of_ble_eq_true rfl⟩
        · repeat (first | exact trivial | (refine And.intro (covS_syn (by rfl) rfl (by first | exact trivial | exact Nat.le_of_ble_eq_true rfl | exact hy)) ?_))
        · repeat (first | exact trivial | refine And.intro (covE_bo rfl (Nat.le_of_ble_eq_true rfl) rfl rfl) ?_ | (refine And.intro (covE_id (Nat.le_of_ble_eq_true rfl) (by first | exact wf_ints _ _ | first | exact wf_us _ _ | exact wf_cells _ _ | (simp [C.wf]; done)) rfl (by rfl)) ?_))
      · intro k hkk
        refine vc_ok tok ?_
        obtain ⟨f1, f2, f3⟩ := all_fact ta hs8 k (by omega)
        by_cases hkl : k < (bitsL ta).length
        · obtain ⟨f4, f5⟩ := f2 hkl
          have hrs : rs ta (k + 1) = rs ta k &&& (rs ta k - 1) := rfl
          have hsu := clQ_succ (a := fill.length) (s := s) (fill := fill) hkl
          have hmem := (mem_bitsL.1 (bitsL_get hkl)).1
          obtain ⟨b, hb⟩ : ∃ b, b = (bitsL ta).getD k 0 := ⟨_, rfl⟩
          obtain ⟨r, hr⟩ : ∃ r, r = rs ta k := ⟨_, rfl⟩
          rw [← hb] at f5 hsu hmem
          rw [← hr] at f1 f4 f5 hrs ⊢
          have hne : (r : Int) ≠ 0 := by omega
          have hde := and_dec f1 f4
          rw [← hrs] at hde
          have htz := fun {n0 nx : Nat} {L : List E} {K : V → List E → Nat → Prop} => tz_k (n0 := n0) (nx := nx) (L := L) (K := K) f4 f1
          rw [f5] at htz
          obtain ⟨x, hx⟩ : ∃ x, x = clQ ta fill.length fill s k := ⟨_, rfl⟩
          rw [← hx] at hsu ⊢
          cases x with
          | true =>
            have hst : clQ ta fill.length fill s (k + 1) = true := by rw [hsu]; rfl
            repeat ((conv => whnf); first | refine br_t (by omega) ?_ | refine fun (K' : K3) hK' => ?_ | (refine hK' _ _ _ ?_; clear hK' K') | refine htz ?_ | refine CallK.m ?_)
            refine hY _ _ _ _ (Nat.le_of_ble_eq_true rfl) rfl ⟨rfl, trivial⟩ ?_
            intro cxb hcx
            refine vc_ok tok ?_
            repeat ((conv => whnf); first | refine fun (K' : K3) hK' => ?_ | (refine hK' _ _ _ ?_; clear hK' K') | refine And.intro (Eq.refl oo) ?_)
            refine vc_ok tok ?_
            repeat ((conv => whnf); first | (refine And.intro (by first | omega | exact Nat.le_of_ble_eq_true rfl | (dsimp only [inK]; omega)) ?_) | refine Exists.intro _ (And.intro rfl ?_) | refine fun (K' : K3) hK' => ?_ | (refine hK' _ _ _ ?_; clear hK' K') | refine draw_auto tok mixed (by kernel_rfl) ?_ | refine And.intro (Eq.refl ob) ?_ | refine bs_bt (Eq.refl true) ?_)
            refine ⟨k + 1, [], by omega, by omega, ?_⟩
            rw [hst]
            refine ⟨?_, ?_, rfl, rfl, by exact Nat.le_of_ble_eq_true rfl⟩
            · repeat (first | exact trivial | (refine And.intro (covS_syn (by first | rfl | exact congrArg (fun z => some (V.c (C.int .u64 z))) hde) rfl (by first | exact trivial | exact Nat.le_of_ble_eq_true rfl | exact hy)) ?_))
            · repeat (first | exact trivial | refine And.intro (covE_bo rfl (Nat.le_of_ble_eq_true rfl) rfl rfl) ?_ | (refine And.intro (covE_id (Nat.le_of_ble_eq_true rfl) (by first | exact wf_ints _ _ | first | exact wf_us _ _ | exact wf_cells _ _ | (simp [C.wf]; done)) rfl (by rfl)) ?_))
          | false =>
            by_cases hba : ((b : Nat) : Int) < (fill.length : Nat)
            · have hlb := hlf b (by omega)
              have hst : clQ ta fill.length fill s (k + 1) = decide (((fill.getD b 0 : Nat) : Int) = (s : Nat)) := by
                rw [hsu, decide_eq_true (show b < fill.length by omega)]
                simp only [Bool.false_or, Bool.true_and]
                rw [decide_eq_decide]; omega
              repeat ((conv => whnf); first | refine br_t (by omega) ?_ | refine fun (K' : K3) hK' => ?_ | (refine hK' _ _ _ ?_; clear hK' K') | refine htz ?_ | refine CallK.m ?_)
              refine hY _ _ _ _ (Nat.le_of_ble_eq_true rfl) rfl ⟨rfl, trivial⟩ ?_
              intro cxb hcx
              refine vc_ok tok ?_
              repeat ((conv => whnf); first | refine fun (K' : K3) hK' => ?_ | (refine hK' _ _ _ ?_; clear hK' K') | refine And.intro (Eq.refl oo) ?_)
              refine vc_ok tok ?_
              repeat ((conv => whnf); first | (refine And.intro (by first | omega | exact Nat.le_of_ble_eq_true rfl | (dsimp only [inK]; omega)) ?_) | with_reducible refine ld (hlb) ?_ | refine Exists.intro _ (And.intro rfl ?_) | refine br_t (by omega) ?_ | refine fun (K' : K3) hK' => ?_ | (refine hK' _ _ _ ?_; clear hK' K') | refine draw_auto tok mixed (by kernel_rfl) ?_ | refine And.intro (Eq.refl ob) ?_ | refine bs_bf (Eq.refl false) ?_)
              refine ⟨k + 1, [], by omega, by omega, ?_⟩
              rw [hst]
              refine ⟨?_, ?_, rfl, rfl, by exact Nat.le_of_ble_eq_true rfl⟩
              · repeat (first | exact trivial | (refine And.intro (covS_syn (by first | rfl | exact congrArg (fun z => some (V.c (C.int .u64 z))) hde) rfl (by first | exact trivial | exact Nat.le_of_ble_eq_true rfl | exact hy)) ?_))
              · repeat (first | exact trivial | refine And.intro (covE_bo rfl (Nat.le_of_ble_eq_true rfl) rfl rfl) ?_ | (refine And.intro (covE_id (Nat.le_of_ble_eq_true rfl) (by first | exact wf_ints _ _ | first | exact wf_us _ _ | exact wf_cells _ _ | (simp [C.wf]; done)) rfl (by rfl)) ?_))
            · have hst : clQ ta fill.length fill s (k + 1) = false := by
                rw [hsu, decide_eq_false (show ¬ b < fill.length by omega)]; rfl
              repeat ((conv => whnf); first | refine br_t (by omega) ?_ | refine fun (K' : K3) hK' => ?_ | (refine hK' _ _ _ ?_; clear hK' K') | refine htz ?_ | refine CallK.m ?_)
              refine hY _ _ _ _ (Nat.le_of_ble_eq_true rfl) rfl ⟨rfl, trivial⟩ ?_
              intro cxb hcx
              refine vc_ok tok ?_
              repeat ((conv => whnf); first | refine fun (K' : K3) hK' => ?_ | (refine hK' _ _ _ ?_; clear hK' K') | refine And.intro (Eq.refl oo) ?_)
              refine vc_ok tok ?_
              repeat ((conv => whnf); first | (refine And.intro (by first | omega | exact Nat.le_of_ble_eq_true rfl | (dsimp only [inK]; omega)) ?_) | refine Exists.intro _ (And.intro rfl ?_) | refine br_f (by omega) ?_ | refine fun (K' : K3) hK' => ?_ | (refine hK' _ _ _ ?_; clear hK' K') | refine draw_auto tok mixed (by kernel_rfl) ?_ | refine And.intro (Eq.refl ob) ?_ | refine bs_bf (Eq.refl false) ?_)
              refine ⟨k + 1, [], by omega, by omega, ?_⟩
              rw [hst]
              refine ⟨?_, ?_, rfl, rfl, by exact Nat.le_of_ble_eq_true rfl⟩
              · repeat (first | exact trivial | (refine And.intro (covS_syn (by first | rfl | exact congrArg (fun z => some (V.c (C.int .u64 z))) hde) rfl (by first | exact trivial | exact Nat.le_of_ble_eq_true rfl | exact hy)) ?_))
              · repeat (first | exact trivial | refine And.intro (covE_bo rfl (Nat.le_of_ble_eq_true rfl) rfl rfl) ?_ | (refine And.intro (covE_id (Nat.le_of_ble_eq_true rfl) (by first | exact wf_ints _ _ | first | exact wf_us _ _ | exact wf_cells _ _ | (simp [C.wf]; done)) rfl (by rfl)) ?_))
        · have f6 := f3 (by omega)
          obtain rfl : k = (bitsL ta).length := by omega
          rw [f6, hcqs]
          repeat ((conv => whnf); first | refine br_f (by omega) ?_ | refine fun (K' : K3) hK' => ?_ | (refine hK' _ _ _ ?_; clear hK' K') | refine Or.inl ?_ | refine And.intro (Eq.refl oo) ?_)
          refine hK' _ _ _ _ ?_
          cases hok : okF (symC (clP qs)) fill s with
          | false =>
            repeat ((conv => whnf); first | (refine And.intro (by first | omega | (dsimp only [inK]; omega)) ?_) | refine Exists.intro _ (And.intro rfl ?_) | refine fun (K' : K3) hK' => ?_ | (refine hK' _ _ _ ?_; clear hK' K') | refine br_bt (Eq.refl true) ?_)
            refine ⟨s + 1, [], ⟨by omega, fun r hr => ?_⟩, by omega, ?_⟩
            · by_cases h : r = s
              · subst h; unfold frI; rw [hok]; rfl
              · exact hno r (by omega)
            refine ⟨?_, ?_, rfl, rfl, by exact Nat.le_of_ble_eq_true rfl⟩
            · repeat (first | exact trivial | (refine And.intro (covS_syn (by rfl) rfl (by first | exact trivial | exact Nat.le_of_ble_eq_true rfl)) ?_))
            · repeat (first | exact trivial | (refine And.intro (covE_id (Nat.le_of_ble_eq_true rfl) (by first | exact wf_ints _ _ | first | exact wf_us _ _ | exact wf_cells _ _ | (simp [C.wf]; done)) rfl (by rfl)) ?_))
          | true =>
            have hfi : frI (symC (clP qs)) skips m fill s = frst (symC (clP qs)) skips m (fill ++ [s]) := by unfold frI; rw [if_pos hok]
            have happ := natI_app fill s
            have hll : (fill ++ [s]).length = fill.length + 1 := by simp
            have hpos : 0 < ((natI fill).map C.i ++ [C.i (s : Nat)]).length := by simp
            match m, ih, hfl, hno, hfr, hfi with
            | 0, _, hfl, hno, hfr, hfi =>
              have hres : frst (symC (clP qs)) skips 1 fill = some (fill ++ [s]) := by rw [hfr]; exact find_some hsl hno hfi
              rw [hres]
              have h0 := first_0 (tabS n qs) n skips (fill ++ [s]) (by omega) htl
              have hn1 : V.c (.sl 1 n) = V.c (.sl 1 (fill.length + 1)) := congrArg (fun z => V.c (.sl 1 z)) (by omega)
              have h0' : Spec Tryd.prog 81 [V.c (.sl 0 n), V.c (.sl 1 (fill.length + 1)), V.i skips] [⟨0, .ro 0, (tabS n qs).map C.u⟩, ⟨1, .ro 0, (natI (fill ++ [s])).map C.i⟩] 2 (fun v L' _ => v = V.c (.sl 1 n)) := by rw [← hn1]; exact h0
              repeat ((conv => whnf); first | (refine And.intro (by first | omega | (dsimp only [inK]; omega) | (exact ⟨rfl, rfl, rfl, Nat.le_of_ble_eq_true rfl, by dsimp only; omega, by exact Nat.le_of_ble_eq_true rfl, by omega, Nat.le_of_ble_eq_true rfl⟩) | exact Eq.refl true) ?_) | refine Exists.intro _ (And.intro rfl ?_) | refine fun (K' : K3) hK' => ?_ | (refine hK' _ _ _ ?_; clear hK' K') | refine draw_late 7 [8] tok mixed (by decide +kernel) ?_ | refine HD_mk (fun _ h => cloneN_k (by omega) rfl h) ?_ | refine And.intro (And.intro rfl ((congrArg (fun cs => ([⟨_, _, cs⟩] : List E).all _) happ).trans (chk_rowI _ _ _ _))) ?_ | refine CallK.inRow (R := [(0, some 0), (1, some 10)]) (c := 1) (x := 10) h0' (by kernel_rfl) rfl (by simp [V.wf, A.wf, C.wf, V.i]) ⟨roE_f (flat_u _) (l := 0) rfl (by omega) rfl (.inl rfl), roE_fe (flat_i _) (l := 10) rfl (by omega) rfl (.inl rfl) happ, trivial⟩ rfl (by omega) rfl (by omega) ?_ | refine And.intro hpos ?_ | refine br_bf (Eq.refl false) ?_ | refine CallK.m ?_ | refine And.intro (And.intro rfl rfl) ?_)
              exact congrArg (fun cs => some (⟨10, .vec 3 1, cs⟩ : E)) happ
            | m + 1, ih, hfl, hno, hfr, hfi =>
              have h1 := ih m rfl (fill ++ [s]) (by omega)
              rw [hll] at h1
              cases ho : frst (symC (clP qs)) skips (m + 1) (fill ++ [s]) with
              | none =>
                rw [ho] at h1 hfi
                have h1' : Spec Tryd.prog 81 [V.c (.sl 0 n), V.c (.sl 1 (fill.length + 1)), V.i skips] [⟨0, .ro 0, (tabS n qs).map C.u⟩, ⟨1, .ro 0, (natI (fill ++ [s])).map C.i⟩] 2 (Is (V.c .nil)) := h1
                repeat ((conv => whnf); first | (refine And.intro (by first | omega | (dsimp only [inK]; omega) | (exact ⟨rfl, rfl, rfl, Nat.le_of_ble_eq_true rfl, by dsimp only; omega, by exact Nat.le_of_ble_eq_true rfl, by omega, Nat.le_of_ble_eq_true rfl⟩) | exact Eq.refl true) ?_) | refine Exists.intro _ (And.intro rfl ?_) | refine fun (K' : K3) hK' => ?_ | (refine hK' _ _ _ ?_; clear hK' K') | refine draw_late 7 [8] tok mixed (by decide +kernel) ?_ | refine HD_mk (fun _ h => cloneN_k (by omega) rfl h) ?_ | refine And.intro (And.intro rfl ((congrArg (fun cs => ([⟨_, _, cs⟩] : List E).all _) happ).trans (chk_rowI _ _ _ _))) ?_ | refine CallK.val (R := [(0, some 0), (1, some 10)]) h1' (by kernel_rfl) rfl (by simp [V.wf, A.wf, C.wf, V.i]) ⟨roE_f (flat_u _) (l := 0) rfl (by omega) rfl (.inl rfl), roE_fe (flat_i _) (l := 10) rfl (by omega) rfl (.inl rfl) happ, trivial⟩ rfl rfl trivial ?_ | refine br_bf (Eq.refl false) ?_ | refine CallK.m ?_ | refine And.intro (And.intro rfl rfl) ?_)
                refine ⟨s + 1, [], ⟨by omega, fun r hr => ?_⟩, by omega, ?_⟩
                · by_cases h : r = s
                  · subst h; exact hfi
                  · exact hno r (by omega)
                refine ⟨?_, ?_, rfl, rfl, by exact Nat.le_of_ble_eq_true rfl⟩
                · repeat (first | exact trivial | (refine And.intro (covS_syn (by rfl) rfl (by first | exact trivial | exact Nat.le_of_ble_eq_true rfl)) ?_))
                · repeat (first | exact trivial | (refine And.intro (covE_id (Nat.le_of_ble_eq_true rfl) (by first | exact wf_ints _ _ | first | exact wf_us _ _ | exact wf_cells _ _ | (simp [C.wf]; done)) rfl (by rfl)) ?_))
              | some l =>
                rw [ho] at h1 hfi
                have hres : frst (symC (clP qs)) skips (m + 1 + 1) fill = some l := by rw [hfr]; exact find_some hsl hno hfi
                rw [hres]
                have hll2 := (frst_sound' ho).symm
                have hpos2 : 0 < ((natI l).map C.i).length := by rw [List.length_map, natI_len]; omega
                have h1' : Spec Tryd.prog 81 [V.c (.sl 0 n), V.c (.sl 1 (fill.length + 1)), V.i skips] [⟨0, .ro 0, (tabS n qs).map C.u⟩, ⟨1, .ro 0, (natI (fill ++ [s])).map C.i⟩] 2 (fun v L' _ => ∃ lab, v = V.c (.sl lab n) ∧ find L' lab = some ⟨lab, .vec 3 1, (natI l).map C.i⟩) := h1
                repeat ((conv => whnf); first | (refine And.intro (by first | omega | (dsimp only [inK]; omega) | (exact ⟨rfl, rfl, rfl, Nat.le_of_ble_eq_true rfl, by dsimp only; omega, by exact Nat.le_of_ble_eq_true rfl, by omega, Nat.le_of_ble_eq_true rfl⟩) | exact Eq.refl true) ?_) | refine Exists.intro _ (And.intro rfl ?_) | refine fun (K' : K3) hK' => ?_ | (refine hK' _ _ _ ?_; clear hK' K') | refine draw_late 7 [8] tok mixed (by decide +kernel) ?_ | refine HD_mk (fun _ h => cloneN_k (by omega) rfl h) ?_ | refine And.intro (And.intro rfl ((congrArg (fun cs => ([⟨_, _, cs⟩] : List E).all _) happ).trans (chk_rowI _ _ _ _))) ?_ | refine CallK.rowF (R := [(0, some 0), (1, some 10)]) (flat_i _) h1' (by kernel_rfl) rfl (by simp [V.wf, A.wf, C.wf, V.i]) ⟨roE_f (flat_u _) (l := 0) rfl (by omega) rfl (.inl rfl), roE_fe (flat_i _) (l := 10) rfl (by omega) rfl (.inl rfl) happ, trivial⟩ rfl ?_ | refine br_bf (Eq.refl false) ?_ | refine CallK.m ?_ | refine And.intro (And.intro rfl rfl) ?_)
                exact rfl
    · have hres : frst (symC (clP qs)) skips (m + 1) fill = none := by rw [hfr]; exact find_none fun r hr => hno r (by omega)
      rw [hres]
      repeat ((conv => whnf); first | refine br_f (by omega) ?_ | refine fun (K' : K3) hK' => ?_ | (refine hK' _ _ _ ?_; clear hK' K'))
      intro ρ; rfl
theorem first_spec (n : Nat) (qs : List (Nat × Nat)) (hk : Knd n qs) (skips : Nat) (hs20 : skips ≤ 20) : ∀ (m : Nat) (fill : List Nat), fill.length + (m + 1) = n →
    Spec Tryd.prog 81 [V.c (.sl 0 n), V.c (.sl 1 fill.length), V.i skips] [⟨0, .ro 0, (tabS n qs).map C.u⟩, ⟨1, .ro 0, (natI fill).map C.i⟩] 2 (fun v L' _ => frQ n (frst (symC (clP qs)) skips (m + 1) fill) v L')
  | 0 => first_step n qs hk skips hs20 0 (fun m' h => by omega)
  | m + 1 => first_step n qs hk skips hs20 (m + 1) (fun m' h => by
    obtain rfl : m' = m := by omega
    exact first_spec n qs hk skips hs20 m')
end Go.Proofs.YtijnimgmpocmaaaDoor

/- Waste: First, walked. -/
namespace Go.Proofs.YtijnimgmpocmaaaDoor
open Go.RowKit
set_option linter.unusedVariables false
set_option linter.unusedSimpArgs false
theorem first_top (n : Nat) (qs : List (Nat × Nat)) (hk : Knd n qs) (skips : Nat) (hs20 : skips ≤ 20) : Spec Tryd.prog 81 [V.c (.sl 0 n), V.c (.sl 1 0), V.i skips] [⟨0, .ro 0, (tabS n qs).map C.u⟩, ⟨1, .ro 0, []⟩] 2 (fun v L' _ => frQ n (frst (symC (clP qs)) skips n []) v L') := by
  have hn := hk.rng
  obtain ⟨m, rfl⟩ : ∃ m, n = m + 1 := ⟨n - 1, by omega⟩
  exact first_spec (m + 1) qs hk skips hs20 m [] (by simp)
/-- What First gives. -/
def fsQ (o : Option (List Nat)) (v : V) (L' : List E) : Prop := match o with
  | none => ∀ ρ, v.den ρ = (V.tup [A.c .nil, A.c (C.i 5)]).den ρ
  | some l => rowI l v L'
set_option maxRecDepth 10000 in
theorem First_some (n skips : Nat) (qs : List (Nat × Nat)) (hk : Knd n qs) (hs20 : skips ≤ 20) (l : List Nat) (ho : frst (symC (clP qs)) skips n [] = some l) : Spec Tryd.prog 48 [V.agg [C.i n, C.sl 0 (castP qs).length], V.i skips] [⟨0, .ro 2, cellC (castP qs)⟩] 1 (fun v L' _ => rowI l v L') := by
  have hn := hk.rng
  have hnt := newTable_spec n qs hk
  have hbt := between_spec 0 skips 20
  have hz : 0 ≤ (skips : Int) ∧ (skips : Int) ≤ 20 := by omega
  have hft := first_top n qs hk skips hs20
  rw [ho] at hft
  have hll := frst_sound' ho
  have hll : l.length = n := by simpa using hll
  have hpos : 0 < ((natI l).map C.i).length := by rw [List.length_map, natI_len]; omega
  have hft' : Spec Tryd.prog 81 [V.c (.sl 0 n), V.c (.sl 1 0), V.i skips] [⟨0, .ro 0, (tabS n qs).map C.u⟩, ⟨1, .ro 0, []⟩] 2 (fun v L' _ => ∃ lab, v = V.c (.sl lab n) ∧ find L' lab = some ⟨lab, .vec 3 1, (natI l).map C.i⟩) := hft
  subst hll
  refine Spec.of tok Tryd.func48 rfl rfl rfl fun n0 cx => vc_ok tok ?_
  repeat ((conv => whnf); first | refine And.intro (by omega) ?_ | refine Exists.intro _ (And.intro rfl ?_) | refine br_f (by omega) ?_ | refine fun (K' : K3) hK' => ?_ | (refine hK' _ _ _ ?_; clear hK' K') | refine CallK.rowE (R := []) (flat_u _) hnt (by kernel_rfl) rfl (by simp [V.wf, A.wf, C.wf, V.i]) ⟨roE_f (flat_c _) (l := 0) rfl (by omega) rfl (.inr rfl), trivial⟩ rfl ?_ | (refine CallK.val (R := []) hbt (by kernel_rfl) rfl (by simp [V.wf, A.wf, C.wf, V.i]) trivial rfl rfl (by first | trivial | simp [V.wf, A.wf, C.wf]) ?_) | refine br_bf (nd_f hz) ?_ | refine CallK.rowF (R := [(0, some 2), (1, none)]) (flat_i _) hft' (by kernel_rfl) rfl (by simp [V.wf, A.wf, C.wf, V.i]) ⟨roE_f (flat_u _) (l := 2) rfl (by omega) rfl (.inl rfl), roE_none rfl (by omega), trivial⟩ rfl ?_ | refine CallK.m ?_)
  exact rfl
end Go.Proofs.YtijnimgmpocmaaaDoor

/- Waste: Line, walked: what is refused. -/
namespace Go.Proofs.YtijnimgmpocmaaaDoor
open Go.RowKit
set_option linter.unusedVariables false
set_option linter.unusedSimpArgs false
theorem CallX.compactN {n0 nx l n : Nat} {q : List Int} (he : q.length = n) (hq : 1 ≤ q.length) (hn : q.length ≤ 1000) (hlx : l < nx) : CallX Tryd.prog n0 85 l n ⟨l, .vec 3 1, q.map C.i⟩ nx (V.c (.sl nx (Lib.compact q).length)) [⟨nx, .vec 3 1, (Lib.compact q).map C.i⟩] := by
  subst he; exact CallX.compact hq hn hlx
set_option maxRecDepth 10000 in
set_option maxHeartbeats 4000000 in
theorem Line_len (n : Nat) (qs : List (Nat × Nat)) (hk : Knd n qs) (zs : List Int) (hz : zs.length ≤ 1000) (hl : zs.length ≠ n) : Spec Tryd.prog 52 [V.agg [C.i n, C.sl 0 (castP qs).length], V.c (.sl 1 zs.length)] [⟨0, .ro 2, cellC (castP qs)⟩, ⟨1, .ro 0, zs.map C.i⟩] 2 (Is (V.tup [A.c .nil, A.c (C.i 2)])) := by
  have hnt := newTable_spec n qs hk
  have hso := sorted_spec zs hz
  have hl2 : ((zs.length : Nat) : Int) ≠ (n : Nat) := by omega
  refine Spec.of tok Tryd.func52 rfl rfl rfl fun n0 cx => vc_ok tok ?_
  repeat ((conv => whnf); first | (refine And.intro (by first | omega | exact Nat.le_of_ble_eq_true rfl) ?_) | refine Exists.intro _ (And.intro rfl ?_) | refine br_f (by omega) ?_ | refine bs_t (by omega) ?_ | refine fun (K' : K3) hK' => ?_ | (refine hK' _ _ _ ?_; clear hK' K') | refine CallM.eq (by kernel_rfl) (values_spec _ _ _ _) ?_ | refine draw_auto tok mixed (by kernel_rfl) ?_ | refine CallK.rowE (R := []) (flat_u _) hnt (by kernel_rfl) rfl (by simp [V.wf, A.wf, C.wf, V.i]) ⟨roE_f (flat_c _) (l := 0) rfl (by omega) rfl (.inr rfl), trivial⟩ rfl ?_ | refine CallK.rowF (R := [(0, some 5), (1, some 1)]) (flat_i _) hso (by kernel_rfl) rfl (by simp [V.wf, A.wf, C.wf]) ⟨roE_x (l := 5) rfl (by omega) (by simp [C.wf]) rfl (.inl rfl) rfl, roE_f (flat_i _) (l := 1) rfl (by omega) rfl (.inl rfl), trivial⟩ rfl ?_ | refine CallK.m ?_)
  intro ρ; rfl
set_option maxRecDepth 10000 in
set_option maxHeartbeats 8000000 in
theorem Line_srt (n : Nat) (qs : List (Nat × Nat)) (hk : Knd n qs) (zs : List Int) (hl : zs.length = n) (hb : srtB n (srtL zs) = false) : Spec Tryd.prog 52 [V.agg [C.i n, C.sl 0 (castP qs).length], V.c (.sl 1 zs.length)] [⟨0, .ro 2, cellC (castP qs)⟩, ⟨1, .ro 0, zs.map C.i⟩] 2 (Is (V.tup [A.c .nil, A.c (C.i 2)])) := by
  have hn := hk.rng
  have hnt := newTable_spec n qs hk
  have hso := sorted_spec zs (by omega)
  have hl2 : ¬ ((zs.length : Nat) : Int) ≠ (n : Nat) := by omega
  have hsl := srtL_len zs
  have hcl := cpt_le (srtL zs)
  obtain ⟨s, hs⟩ : ∃ s, s = srtL zs := ⟨_, rfl⟩
  rw [← hs] at hso hsl hcl hb
  have hl0 : (s.map C.i)[mulS ((0 : Int)).toNat 1]? = some (C.i (s.getD 0 0)) := intLz (k := 0) rfl (by omega)
  have hl1 : (s.map C.i)[mulS (((n : Nat) : Int) - 1).toNat 1]? = some (C.i (s.getD (n - 1) 0)) := intLz (k := n - 1) (by omega) (by omega)
  have hsm : (s.map C.i).length = n := by rw [List.length_map]; omega
  refine Spec.of tok Tryd.func52 rfl rfl rfl fun n0 cx => vc_ok tok ?_
  by_cases h0 : s.getD 0 0 ≠ 0
  · repeat ((conv => whnf); first | (refine And.intro (by first | omega | exact Nat.le_of_ble_eq_true rfl | (dsimp only [inK]; omega)) ?_) | with_reducible refine ld (hl0) ?_ | refine Exists.intro _ (And.intro rfl ?_) | refine br_f (by omega) ?_ | refine bs_t (by omega) ?_ | refine bs_f (by omega) ?_ | refine fun (K' : K3) hK' => ?_ | (refine hK' _ _ _ ?_; clear hK' K') | refine CallM.eq (by kernel_rfl) (values_spec _ _ _ _) ?_ | refine draw_auto tok mixed (by kernel_rfl) ?_ | refine CallK.rowE (R := []) (flat_u _) hnt (by kernel_rfl) rfl (by simp [V.wf, A.wf, C.wf, V.i]) ⟨roE_f (flat_c _) (l := 0) rfl (by omega) rfl (.inr rfl), trivial⟩ rfl ?_ | refine CallK.rowF (R := [(0, some 5), (1, some 1)]) (flat_i _) hso (by kernel_rfl) rfl (by simp [V.wf, A.wf, C.wf]) ⟨roE_x (l := 5) rfl (by omega) (by simp [C.wf]) rfl (.inl rfl) rfl, roE_f (flat_i _) (l := 1) rfl (by omega) rfl (.inl rfl), trivial⟩ rfl ?_ | refine CallK.m ?_)
    intro ρ; rfl
  · by_cases h1 : s.getD (n - 1) 0 ≠ ((n : Nat) : Int) - 1
    · repeat ((conv => whnf); first | (refine And.intro (by first | omega | exact Nat.le_of_ble_eq_true rfl | (dsimp only [inK]; omega)) ?_) | with_reducible refine ld (hl0) ?_ | with_reducible refine ld (hl1) ?_ | refine Exists.intro _ (And.intro rfl ?_) | refine br_f (by omega) ?_ | refine bs_t (by omega) ?_ | refine bs_f (by omega) ?_ | refine fun (K' : K3) hK' => ?_ | (refine hK' _ _ _ ?_; clear hK' K') | refine CallM.eq (by kernel_rfl) (values_spec _ _ _ _) ?_ | refine draw_auto tok mixed (by kernel_rfl) ?_ | refine CallK.rowE (R := []) (flat_u _) hnt (by kernel_rfl) rfl (by simp [V.wf, A.wf, C.wf, V.i]) ⟨roE_f (flat_c _) (l := 0) rfl (by omega) rfl (.inr rfl), trivial⟩ rfl ?_ | refine CallK.rowF (R := [(0, some 5), (1, some 1)]) (flat_i _) hso (by kernel_rfl) rfl (by simp [V.wf, A.wf, C.wf]) ⟨roE_x (l := 5) rfl (by omega) (by simp [C.wf]) rfl (.inl rfl) rfl, roE_f (flat_i _) (l := 1) rfl (by omega) rfl (.inl rfl), trivial⟩ rfl ?_ | refine CallK.m ?_)
      intro ρ; rfl
    · have h2 : (((Lib.compact s).length : Nat) : Int) ≠ (n : Nat) := by
        intro h2
        have : srtB n s = true := by
          simp only [srtB, Bool.and_eq_true, decide_eq_true_iff]
          exact ⟨⟨by omega, by omega⟩, by omega⟩
        rw [this] at hb; cases hb
      repeat ((conv => whnf); first | (refine And.intro (by first | omega | exact Nat.le_of_ble_eq_true rfl | (dsimp only [inK]; omega)) ?_) | with_reducible refine ld (hl0) ?_ | with_reducible refine ld (hl1) ?_ | refine Exists.intro _ (And.intro rfl ?_) | refine br_t (by omega) ?_ | refine br_f (by omega) ?_ | refine bs_f (by omega) ?_ | refine fun (K' : K3) hK' => ?_ | (refine hK' _ _ _ ?_; clear hK' K') | refine CallM.eq (by kernel_rfl) (values_spec _ _ _ _) ?_ | refine draw_kill [6] tok mixed (by decide +kernel) ?_ | refine CallK.rowE (R := []) (flat_u _) hnt (by kernel_rfl) rfl (by simp [V.wf, A.wf, C.wf, V.i]) ⟨roE_f (flat_c _) (l := 0) rfl (by omega) rfl (.inr rfl), trivial⟩ rfl ?_ | refine CallK.rowF (R := [(0, some 5), (1, some 1)]) (flat_i _) hso (by kernel_rfl) rfl (by simp [V.wf, A.wf, C.wf]) ⟨roE_x (l := 5) rfl (by omega) (by simp [C.wf]) rfl (.inl rfl) rfl, roE_f (flat_i _) (l := 1) rfl (by omega) rfl (.inl rfl), trivial⟩ rfl ?_ | refine X_mk (CallX.compactN (q := s) hsl (by omega) (by omega) (by omega)) (Eq.refl true) ?_ | refine CallK.m ?_ | refine And.intro (And.intro rfl rfl) ?_)
      intro ρ; rfl
end Go.Proofs.YtijnimgmpocmaaaDoor

/- Waste: Line, walked. -/
namespace Go.Proofs.YtijnimgmpocmaaaDoor
open Go.RowKit
set_option linter.unusedVariables false
set_option linter.unusedSimpArgs false
theorem flat_i1 (x : Int) : FlatC [C.i x] := fun c hc => ⟨_, _, List.mem_singleton.1 hc⟩
theorem Gps.u8 {cl : Nat → Nat → Bool} {n : Nat} {os : List Nat} {k : Nat} {gs : List Nat} (hg : Gps cl os k gs) (ho : Ord n os) (hn : n ≤ 8) : ∀ g ∈ gs, g < 256 := fun g hm => by
  obtain ⟨i, hi, rfl⟩ := List.mem_iff_getElem.1 hm
  refine Nat.lt_pow_two_of_testBit (n := 8) _ fun b hb => ?_
  rw [Bool.eq_false_iff]
  intro h
  have h1 := (hg.mem i hi b).1 (by simpa [List.getD_eq_getElem?_getD, hi] using h)
  have h2 := ho.2.1 b (List.mem_of_mem_take h1.1)
  omega
/-- The groups, as the program has them. -/
def gsF (cl : Nat → Nat → Bool) (os : List Nat) : Nat → List Nat
  | 0 => []
  | k + 1 => if mexS cl (lnF cl os k) (os.take k) (os.getD k 0) < (gsF cl os k).length then (gsF cl os k).set (mexS cl (lnF cl os k) (os.take k) (os.getD k 0)) ((gsF cl os k).getD (mexS cl (lnF cl os k) (os.take k) (os.getD k 0)) 0 ||| 2 ^ os.getD k 0)
    else (gsF cl os k ++ [0]).set (gsF cl os k).length (0 ||| 2 ^ os.getD k 0)
theorem gsF_gps {cl : Nat → Nat → Bool} {n : Nat} {os : List Nat} (ho : Ord n os) : ∀ k, k ≤ n → Gps cl os k (gsF cl os k)
  | 0, _ => Gps.zero
  | k + 1, hk => by
    have ih := gsF_gps (cl := cl) ho k (by omega)
    unfold gsF
    split
    · rename_i h; exact ih.put ho (by omega) h rfl
    · rename_i h
      refine ih.app ho (by omega) ?_
      obtain ⟨m1, _, m3⟩ := mexS_spec cl (lnF cl os k) (os.take k) (os.getD k 0)
      have hov := ih.over (a := os.getD k 0) (i := (gsF cl os k).length) (Nat.le_refl _)
      rcases Nat.lt_trichotomy (gsF cl os k).length (mexS cl (lnF cl os k) (os.take k) (os.getD k 0)) with h1 | h1 | h1
      · rw [m3 _ h1] at hov; cases hov
      · exact h1
      · exact absurd h1 h
theorem indexS_k {n0 nx a n : Nat} {L : List E} {K : V → List E → Nat → Prop} {t gs : List Nat} {k1 k2 k3 : Kd} {lg lt la lr : Nat} (htl : t.length = n) (ha : a < n) (ht : ∀ x ∈ t, x < 256) (hgl : gs.length ≤ 300) (hg : ∀ x ∈ gs, x < 256)
    (h1 : find L lg = some ⟨lg, k1, gs.map C.u⟩) (h2 : find L lt = some ⟨lt, k2, [.sl lr n]⟩) (h3 : find L la = some ⟨la, k3, [C.i a]⟩) (h4 : find L lr = some ⟨lr, .vec 75 1, t.map C.u⟩) (hL : injB [(0, some lg), (1, some lt), (2, some la), (3, some lr)] [] = true)
    (hK : K (V.i (idxU gs fun g => decide (t.getD a 0 &&& g = 0))) [] nx) : CallK Tryd.prog n0 86 [V.c (.sl lg gs.length), V.c (.fn 87 [(lt, 0), (la, 0)])] L nx K := by
  refine CallK.val (R := [(0, some lg), (1, some lt), (2, some la), (3, some lr)]) (indexS_spec t n a gs htl ha ht hgl hg) (by kernel_rfl) rfl (by simp [V.wf, A.wf, C.wf]; omega) ⟨roE_f (flat_u _) (l := lg) rfl (by omega) h1 (.inl rfl), roE_x (l := lt) rfl (by omega) (by simp [C.wf]) h2 (.inl rfl) rfl, roE_f (flat_i1 _) (l := la) rfl (by omega) h3 (.inl rfl), roE_f (flat_u _) (l := lr) rfl (by omega) h4 (.inl rfl), trivial⟩ rfl rfl trivial hK
set_option maxRecDepth 10000 in
set_option maxHeartbeats 16000000 in
theorem Line_spec (n : Nat) (qs : List (Nat × Nat)) (hk : Knd n qs) (os : List Nat) (ho : Ord n os) : Spec Tryd.prog 52 [V.agg [C.i n, C.sl 0 (castP qs).length], V.c (.sl 1 n)] [⟨0, .ro 2, cellC (castP qs)⟩, ⟨1, .ro 0, (natI os).map C.i⟩] 2 (fun v L' _ => ∃ lab, v = V.tup [A.c (.sl lab n), A.c (C.i 0)] ∧ find L' lab = some ⟨lab, .vec 3 1, (fnL (fun x => ((lnF (symC (clP qs)) os n x : Nat) : Int)) n).map C.i⟩) := by
  have hn := hk.rng
  have hol := ho.1
  have hzl : (natI os).length = n := by rw [natI_len, hol]
  have hnt := newTable_spec n qs hk
  have hso := sorted_spec (natI os) (by omega)
  have hsb : srtB n (srtL (natI os)) = true := by rw [srtB_ord hn.1 hzl]; exact ordB_of ho
  have hsl := srtL_len (natI os)
  have hl2 : ¬ ((n : Nat) : Int) ≠ (n : Nat) := by omega
  obtain ⟨s, hs⟩ : ∃ s, s = srtL (natI os) := ⟨_, rfl⟩
  rw [← hs] at hso hsl hsb
  rw [hzl] at hso hsl
  simp only [srtB, Bool.and_eq_true, decide_eq_true_iff] at hsb
  obtain ⟨⟨hs0, hs1⟩, hs2⟩ := hsb
  have hl0 : (s.map C.i)[mulS ((0 : Int)).toNat 1]? = some (C.i (s.getD 0 0)) := intLz (k := 0) rfl (by omega)
  have hl1 : (s.map C.i)[mulS (((n : Nat) : Int) - 1).toNat 1]? = some (C.i (s.getD (n - 1) 0)) := intLz (k := n - 1) (by omega) (by omega)
  have hsm : (s.map C.i).length = n := by rw [List.length_map]; omega
  have h0 : ¬ s.getD 0 0 ≠ 0 := fun h => h hs0
  have h1 : ¬ s.getD (n - 1) 0 ≠ ((n : Nat) : Int) - 1 := fun h => h hs1
  have h2 : ¬ (((Lib.compact s).length : Nat) : Int) ≠ (n : Nat) := by omega
  have hts := tabS_256 hk
  have htl := tabS_len n qs
  refine Spec.of tok Tryd.func52 rfl rfl rfl fun n0 cx => vc_ok tok ?_
  repeat ((conv => whnf); first | (refine And.intro (by first | omega | exact Nat.le_of_ble_eq_true rfl | (dsimp only [inK]; omega)) ?_) | with_reducible refine ld (hl0) ?_ | with_reducible refine ld (hl1) ?_ | refine Exists.intro _ (And.intro rfl ?_) | refine br_f (by omega) ?_ | refine bs_f (by omega) ?_ | refine fun (K' : K3) hK' => ?_ | (refine hK' _ _ _ ?_; clear hK' K') | refine CallM.eq (by kernel_rfl) (values_spec _ _ _ _) ?_ | refine draw_kill [6] tok mixed (by decide +kernel) ?_ | refine CallK.rowE (R := []) (flat_u _) hnt (by kernel_rfl) rfl (by simp [V.wf, A.wf, C.wf, V.i]) ⟨roE_f (flat_c _) (l := 0) rfl (by omega) rfl (.inr rfl), trivial⟩ rfl ?_ | refine CallK.rowF (R := [(0, some 5), (1, some 1)]) (flat_i _) hso (by kernel_rfl) rfl (by simp [V.wf, A.wf, C.wf]) ⟨roE_x (l := 5) rfl (by omega) (by simp [C.wf]) rfl (.inl rfl) rfl, roE_f (flat_i _) (l := 1) rfl (by omega) rfl (.inl rfl), trivial⟩ rfl ?_ | refine X_mk (CallX.compactN (q := s) hsl (by omega) (by omega) (by omega)) (Eq.refl true) ?_ | refine CallK.m ?_ | refine And.intro (And.intro rfl rfl) ?_)
  have hzr : repC ((n : Nat) : Int).toNat [C.int .i64 0] = (fnL (fun x => ((lnF (symC (clP qs)) os 0 x : Nat) : Int)) n).map C.i := by rw [Int.toNat_natCast, repI, fnL_zero]; rfl
  refine Tri.loop (γ := Nat) (fun k => k ≤ n) (fun k => [(6, V.c (.ptr 4 0)), (9, V.c (.sl 9 (gsF (symC (clP qs)) os k).length)), (10, V.c (.sl 8 n)), (59, V.c (.sl 1 n)), (60, V.i n), (61, V.i (k : Nat))])
    (fun k => [⟨9, .vec 75 1, (gsF (symC (clP qs)) os k).map C.u⟩, ⟨8, .vec 3 1, (fnL (fun x => ((lnF (symC (clP qs)) os k x : Nat) : Int)) n).map C.i⟩, ⟨4, .own 61, [.sl 3 n]⟩, ⟨3, .vec 75 1, (tabS n qs).map C.u⟩, ⟨1, .ro 0, (natI os).map C.i⟩]) 10 (fun k => n - k) 0 (R0 := [(9, none)]) ?_ ?_ ?_
  · exact Nat.zero_le _
  · skip
    refine ⟨?_, ?_, rfl, rfl, by exact Nat.le_of_ble_eq_true rfl⟩
    · repeat (first | exact trivial | (refine And.intro (covS_syn (by rfl) rfl (by first | exact trivial | exact Nat.le_of_ble_eq_true rfl)) ?_))
    · repeat (first | exact trivial | refine And.intro ⟨Nat.le_of_ble_eq_true rfl, by simp [C.wf], _, _, rfl, .inl rfl, fun ρ => rfl⟩ ?_ | refine And.intro (covE_i rfl (Nat.le_of_ble_eq_true rfl) rfl hzr) ?_ | refine And.intro (covE_u rfl (Nat.le_of_ble_eq_true rfl) rfl rfl) ?_ | refine And.intro (covE_i rfl (Nat.le_of_ble_eq_true rfl) rfl rfl) ?_ | refine And.intro (covE_nil rfl (Nat.le_of_ble_eq_true rfl) rfl rfl) ?_)
  · intro k hkn
    have hg := gsF_gps (cl := symC (clP qs)) ho k hkn
    refine vc_ok tok ?_
    by_cases hkl : k < n
    · have hgu : gsF (symC (clP qs)) os (k + 1) = if mexS (symC (clP qs)) (lnF (symC (clP qs)) os k) (os.take k) (os.getD k 0) < (gsF (symC (clP qs)) os k).length then (gsF (symC (clP qs)) os k).set (mexS (symC (clP qs)) (lnF (symC (clP qs)) os k) (os.take k) (os.getD k 0)) ((gsF (symC (clP qs)) os k).getD (mexS (symC (clP qs)) (lnF (symC (clP qs)) os k) (os.take k) (os.getD k 0)) 0 ||| 2 ^ os.getD k 0)
          else (gsF (symC (clP qs)) os k ++ [0]).set (gsF (symC (clP qs)) os k).length (0 ||| 2 ^ os.getD k 0) := rfl
      obtain ⟨gs, hgs⟩ : ∃ gs, gs = gsF (symC (clP qs)) os k := ⟨_, rfl⟩
      rw [← hgs] at hg hgu ⊢
      have hg8 := hg.u8 ho hn.2
      have hgl := hg.len
      have ha := ho.at hkl
      have hla : ((natI os).map C.i)[mulS ((k : Nat) : Int).toNat 1]? = some (C.i ((os.getD k 0 : Nat) : Int)) := by rw [intLz rfl (by omega), natI_get (by omega)]
      have hmx := idxU_mex hg (t := (tabS n qs).getD (os.getD k 0) 0) (a := os.getD k 0) (fun b => tabS_cl hk _ b)
      have hfs : fnL (fun x => ((lnF (symC (clP qs)) os (k + 1) x : Nat) : Int)) n = (fnL (fun x => ((lnF (symC (clP qs)) os k x : Nat) : Int)) n).set (os.getD k 0) ((mexS (symC (clP qs)) (lnF (symC (clP qs)) os k) (os.take k) (os.getD k 0) : Nat) : Int) := by
        rw [fnL_set]
        refine fnL_congr fun x _ => ?_
        show (((if x = os.getD k 0 then _ else _) : Nat) : Int) = _
        split <;> rfl
      have hol1 : ((fnL (fun x => ((lnF (symC (clP qs)) os k x : Nat) : Int)) n).map C.i).length = n := by rw [List.length_map, fnL_len]
      obtain ⟨m, hm⟩ : ∃ m, m = mexS (symC (clP qs)) (lnF (symC (clP qs)) os k) (os.take k) (os.getD k 0) := ⟨_, rfl⟩
      rw [← hm] at hmx hfs hgu
      obtain ⟨a, hae⟩ : ∃ a, a = os.getD k 0 := ⟨_, rfl⟩
      rw [← hae] at ha hla hmx hgu hfs
      have hset : setL ((fnL (fun x => ((lnF (symC (clP qs)) os k x : Nat) : Int)) n).map C.i) (mulS ((a : Nat) : Int).toNat 1) [C.i (m : Nat)] = (fnL (fun x => ((lnF (symC (clP qs)) os (k + 1) x : Nat) : Int)) n).map C.i := by rw [setI rfl, hfs]
      rcases hmx with ⟨hm1, hm2⟩ | ⟨hm1, hm2⟩
      · have hi0 : ¬ ((m : Nat) : Int) < 0 := by omega
        have hgm8 : gs.getD m 0 < 256 := getD_lt (by omega) hg8 _
        have hlg : (gs.map C.u)[mulS ((m : Nat) : Int).toNat 1]? = some (C.u (gs.getD m 0)) := uLz rfl hm1
        have hw := with_spec (gs.getD m 0) a hgm8 (by omega)
        rw [if_pos hm1] at hgu
        have hgn2 : (gs.set m (gs.getD m 0 ||| 2 ^ a)).length = gs.length := List.length_set ..
        have hsg : setL (gs.map C.u) (mulS ((m : Nat) : Int).toNat 1) [C.u (gs.getD m 0 ||| 2 ^ a)] = (gs.set m (gs.getD m 0 ||| 2 ^ a)).map C.u := setU rfl rfl
        have hgml : (gs.map C.u).length = gs.length := List.length_map ..
        repeat ((conv => whnf); first | (refine And.intro (by first | omega | exact Nat.le_of_ble_eq_true rfl | (dsimp only [inK]; omega) | (simp only [mulS_eq]; omega) | (simp only [setL_length, List.length_map]; omega)) ?_) | with_reducible refine ld (hla) ?_ | with_reducible refine ld (hlg) ?_ | refine Exists.intro _ (And.intro rfl ?_) | refine br_t (by omega) ?_ | refine br_f (by omega) ?_ | refine fun (K' : K3) hK' => ?_ | (refine hK' _ _ _ ?_; clear hK' K') | refine draw_auto tok mixed (by kernel_rfl) ?_ | refine indexS_k (lg := 9) (lt := 4) (la := 10) (lr := 3) (gs := gs) (t := tabS n qs) htl ha hts (by omega) hg8 rfl rfl rfl rfl rfl ?_ | rw [hm2] | (refine HD_mk (fun _ h => CallK.val (R := []) hw (by kernel_rfl) rfl (by simp [V.wf, A.wf, C.wf, V.i]) trivial rfl rfl (by first | trivial | simp [V.wf, A.wf, C.wf]) h) ?_) | refine CallK.m ?_)
        refine ⟨k + 1, [], by omega, by omega, ?_⟩
        rw [hgu, hgn2]
        refine ⟨?_, ?_, rfl, rfl, by exact Nat.le_of_ble_eq_true rfl⟩
        · repeat (first | exact trivial | (refine And.intro (covS_syn (by rfl) rfl (by first | exact trivial | exact Nat.le_of_ble_eq_true rfl)) ?_))
        · repeat (first | exact trivial | refine And.intro (covE_u rfl (Nat.le_of_ble_eq_true rfl) rfl hsg) ?_ | refine And.intro (covE_i rfl (Nat.le_of_ble_eq_true rfl) rfl hset) ?_ | (refine And.intro (covE_id (Nat.le_of_ble_eq_true rfl) (by first | exact wf_ints _ _ | first | exact wf_us _ _ | exact wf_cells _ _ | exact wf_ints _ _ | (simp [C.wf]; done)) rfl (by rfl)) ?_))
      · have hi0 : (-1 : Int) < 0 := by omega
        rw [if_neg (by omega)] at hgu
        have hgl2 : (gs ++ [0]).length = gs.length + 1 := by simp
        have hlg : ((gs ++ [0]).map C.u)[mulS ((gs.length : Nat) : Int).toNat 1]? = some (C.u 0) := by
          rw [uLz rfl (by omega)]; simp [List.getD_eq_getElem?_getD]
        have hw := with_spec 0 a (by omega) (by omega)
        have hgap : gs.map C.u ++ [C.int .u64 0] = (gs ++ [0]).map C.u := by simp
        have hlg' : (gs.map C.u ++ [C.int .u64 0])[mulS ((gs.length : Nat) : Int).toNat 1]? = some (C.u 0) := by rw [hgap]; exact hlg
        have hgn2 : ((gs ++ [0]).set gs.length (0 ||| 2 ^ a)).length = gs.length + 1 := by rw [List.length_set, hgl2]
        have hsg : setL (gs.map C.u ++ [C.int .u64 0]) (mulS ((gs.length : Nat) : Int).toNat 1) [C.u (0 ||| 2 ^ a)] = ((gs ++ [0]).set gs.length (0 ||| 2 ^ a)).map C.u := by rw [hgap]; exact setU rfl rfl
        have hgml : (gs.map C.u).length = gs.length := List.length_map ..
        have hgl3 : (gs.map C.u).length = gs.length * 1 := by omega
        have hpos : 0 < (gs.map C.u ++ [C.int .u64 0]).length := by simp
        have hpos2 : mulS ((gs.length : Nat) : Int).toNat 1 + 1 ≤ (gs.map C.u ++ [C.int .u64 0]).length := by rw [mulS_eq]; simp
        have hgl4 : gs.length + 1 ≤ 1000000 := by omega
        rw [hm1] at hset
        repeat ((conv => whnf); first | (refine And.intro (by first | omega | exact Nat.le_of_ble_eq_true rfl | (dsimp only [inK]; omega) | (simp only [mulS_eq]; omega) | (simp only [setL_length, List.length_map]; omega) | exact ⟨rfl, rfl, rfl, Nat.le_of_ble_eq_true rfl, by omega, by exact Nat.le_of_ble_eq_true rfl, by omega, Nat.le_of_ble_eq_true rfl⟩) ?_) | with_reducible refine ld (hla) ?_ | refine Exists.intro _ (And.intro rfl ?_) | refine br_t (by omega) ?_ | refine fun (K' : K3) hK' => ?_ | (refine hK' _ _ _ ?_; clear hK' K') | refine draw_auto tok mixed (by kernel_rfl) ?_ | refine indexS_k (lg := 9) (lt := 4) (la := 10) (lr := 3) (gs := gs) (t := tabS n qs) htl ha hts (by omega) hg8 rfl rfl rfl rfl rfl ?_ | rw [hm2] | refine And.intro (And.intro (by omega) (And.intro (by omega) hpos)) ?_ | refine Exists.intro _ (And.intro hlg' ?_) | refine And.intro hpos2 ?_ | (refine HD_mk (fun _ h => CallK.val (R := []) hw (by kernel_rfl) rfl (by simp [V.wf, A.wf, C.wf, V.i]) trivial rfl rfl (by first | trivial | simp [V.wf, A.wf, C.wf]) h) ?_) | refine CallK.m ?_)
        refine ⟨k + 1, [(9, some 12)], by omega, by omega, ?_⟩
        rw [hgu, hgn2]
        refine ⟨?_, ?_, rfl, rfl, by exact Nat.le_of_ble_eq_true rfl⟩
        · repeat (first | exact trivial | (refine And.intro (covS_syn (by rfl) rfl (by first | exact trivial | exact Nat.le_of_ble_eq_true rfl)) ?_))
        · repeat (first | exact trivial | refine And.intro (covE_u rfl (Nat.le_of_ble_eq_true rfl) rfl hsg) ?_ | refine And.intro (covE_i rfl (Nat.le_of_ble_eq_true rfl) rfl hset) ?_ | refine And.intro (covE_some rfl (Nat.le_of_ble_eq_true rfl) (by simp [C.wf]) rfl rfl) ?_ | refine And.intro (covE_u rfl (Nat.le_of_ble_eq_true rfl) rfl rfl) ?_ | refine And.intro (covE_i rfl (Nat.le_of_ble_eq_true rfl) rfl rfl) ?_)
    · obtain rfl : k = n := by omega
      repeat ((conv => whnf); first | refine Exists.intro _ (And.intro rfl ?_) | refine br_f (by omega) ?_ | refine fun (K' : K3) hK' => ?_ | (refine hK' _ _ _ ?_; clear hK' K'))
      exact rfl
end Go.Proofs.YtijnimgmpocmaaaDoor

/- Waste: the document's first right filling, walked. -/
namespace Go.Proofs.YtijnimgmpocmaaaDoor
open Go.RowKit
set_option linter.unusedVariables false
set_option linter.unusedSimpArgs false
section
variable {P : Program} {n0 : Nat} {f : FuncId} {vs vs' : List V} {Lc L : List E} {nac nx : Nat} {R : Rn} {K : V → List E → Nat → Prop}
end
def okFp (cl : Nat → Nat → Bool) (fill : List Nat) (s k : Nat) : Bool := (List.range k).all fun i => !(decide (fill.getD i 0 = s)) || !cl i fill.length
def frR (n : Nat) (o : Option (List Nat)) (v : V) (L' : List E) : Prop := match o with
  | none => ∀ ρ, v.den ρ = (V.tup [A.c .nil, A.c C.ff]).den ρ
  | some l => ∃ lab, v = V.tup [A.c (.sl lab n), A.c C.tt] ∧ find L' lab = some ⟨lab, .vec 3 1, (natI l).map C.i⟩
end Go.Proofs.YtijnimgmpocmaaaDoor

/- Waste: the document's First and Fewest, walked. -/
namespace Go.Proofs.YtijnimgmpocmaaaDoor
open Go.RowKit
set_option linter.unusedVariables false
set_option linter.unusedSimpArgs false
end Go.Proofs.YtijnimgmpocmaaaDoor

/- Waste: the document's IsOrder, walked. -/
namespace Go.Proofs.YtijnimgmpocmaaaDoor
open Go.RowKit
set_option linter.unusedVariables false
set_option linter.unusedSimpArgs false
theorem ordB_no1 {n : Nat} {zs : List Int} {i : Nat} (hi : i < zs.length) (h : ¬ (0 ≤ zs.getD i 0 ∧ zs.getD i 0 < n)) : ordB n zs = false := by
  rw [Bool.eq_false_iff]
  intro hb
  exact h ((ordB_iff.1 hb).2.1 _ (by rw [List.getD_eq_getElem?_getD, List.getElem?_eq_getElem hi]; exact List.getElem_mem _))
theorem ordB_no2 {n : Nat} {zs : List Int} (h : n < zs.length) : ordB n zs = false := by
  rw [Bool.eq_false_iff]
  intro hb
  have := (ordB_iff.1 hb).1; omega
theorem ordB_no3 {n : Nat} {zs : List Int} {i j : Nat} (hi : i < zs.length) (hj : j < i) (h : zs.getD i 0 = zs.getD j 0) : ordB n zs = false := by
  rw [Bool.eq_false_iff]
  intro hb
  have h3 := (ordB_iff.1 hb).2.2
  rw [List.nodup_iff_pairwise_ne, List.pairwise_iff_getElem] at h3
  have := h3 j i (by omega) hi hj
  simp only [List.getD_eq_getElem?_getD, List.getElem?_eq_getElem hi, List.getElem?_eq_getElem (show j < zs.length by omega), Option.getD_some] at h
  exact this h.symm
theorem ordB_yes {n : Nat} {zs : List Int} (h1 : ∀ i, i < zs.length → 0 ≤ zs.getD i 0 ∧ zs.getD i 0 < n) (h2 : ∀ i, i < zs.length → ∀ j, j < i → zs.getD i 0 ≠ zs.getD j 0) : ordB n zs = decide (zs.length = n) := by
  rw [Bool.eq_iff_iff, ordB_iff, decide_eq_true_iff]
  have hg : ∀ i (hi : i < zs.length), zs.getD i 0 = zs[i] := fun i hi => by simp [List.getD_eq_getElem?_getD, hi]
  constructor
  · exact fun h => h.1
  · refine fun h => ⟨h, fun z hz => ?_, ?_⟩
    · obtain ⟨i, hi, rfl⟩ := List.mem_iff_getElem.1 hz
      have := h1 i hi; rwa [hg i hi] at this
    · rw [List.nodup_iff_pairwise_ne, List.pairwise_iff_getElem]
      intro i j hi hj hij e
      have := h2 j hj i hij
      rw [hg i hi, hg j hj] at this
      exact this e.symm
set_option maxRecDepth 10000 in
set_option maxHeartbeats 8000000 in
theorem isOrder_spec (n : Nat) (m : Nat) (cs : List Cell) (zs : List Int) (hz : zs.length ≤ 1000) : Spec Tryd.prog 54 [V.agg [C.i n, C.sl 0 m], V.c (.sl 1 zs.length)] [⟨0, .ro 2, cellC cs⟩, ⟨1, .ro 1, zs.map C.i⟩] 2 (Is (V.c (.bool (ordB n zs)))) := by
  have hlz : ∀ i, i < zs.length → (zs.map C.i)[mulS ((i : Nat) : Int).toNat 1]? = some (C.i (zs.getD i 0)) := fun i hi => intLz rfl hi
  have hzm : (zs.map C.i).length = zs.length := List.length_map ..
  refine Spec.of tok Tryd.func54 rfl rfl rfl fun n0 cx => vc_ok tok ?_
  repeat ((conv => whnf); first | refine fun (K' : K3) hK' => ?_ | (refine hK' _ _ _ ?_; clear hK' K'))
  refine Tri.loop (γ := Nat) (fun i => i ≤ zs.length ∧ (∀ r, r < i → 0 ≤ zs.getD r 0 ∧ zs.getD r 0 < n) ∧ ∀ r, r < i → ∀ j, j < r → zs.getD r 0 ≠ zs.getD j 0) (fun i => [(1, V.c (.sl 1 zs.length)), (2, V.c (.ptr 2 0)), (9, V.c (.sl 1 zs.length)), (10, V.i zs.length), (11, V.i (i : Nat))])
    (fun i => [⟨2, .own 24, [C.i n, .sl 0 m]⟩, ⟨0, .ro 2, cellC cs⟩, ⟨1, .ro 1, zs.map C.i⟩]) 3 (fun i => zs.length - i) 0 (R0 := []) ?_ ?_ ?_
  · exact ⟨Nat.zero_le _, fun r hr => by omega, fun r hr => by omega⟩
  · skip
    refine ⟨?_, ?_, rfl, rfl, by exact Nat.le_of_ble_eq_true rfl⟩
    · repeat (first | exact trivial | (refine And.intro (covS_syn (by rfl) rfl (by first | exact trivial | exact Nat.le_of_ble_eq_true rfl)) ?_))
    · repeat (first | exact trivial | (refine And.intro (covE_id (Nat.le_of_ble_eq_true rfl) (by first | exact wf_ints _ _ | first | exact wf_us _ _ | exact wf_cells _ _ | exact wf_ints _ _ | (simp [C.wf]; done)) rfl (by rfl)) ?_))
  · rintro i ⟨hi, hr1, hr2⟩
    refine vc_ok tok ?_
    by_cases hil : i < zs.length
    · have hli := hlz i hil
      have hn1 := ordB_no1 (n := n) hil
      have hn3 := fun j => ordB_no3 (n := n) (j := j) hil
      obtain ⟨x, hx⟩ : ∃ x, x = zs.getD i 0 := ⟨_, rfl⟩
      rw [← hx] at hli hn1 hn3
      by_cases h1 : x < 0
      · rw [hn1 (by omega)]
        repeat ((conv => whnf); first | (refine And.intro (by first | omega | (dsimp only [inK]; omega)) ?_) | with_reducible refine ld (hli) ?_ | refine br_t (by omega) ?_ | refine bs_t (by omega) ?_ | refine fun (K' : K3) hK' => ?_ | (refine hK' _ _ _ ?_; clear hK' K'))
        intro ρ; rfl
      · by_cases h2 : x ≥ (n : Nat)
        · rw [hn1 (by omega)]
          repeat ((conv => whnf); first | (refine And.intro (by first | omega | exact Nat.le_of_ble_eq_true rfl | (dsimp only [inK]; omega)) ?_) | with_reducible refine ld (hli) ?_ | refine Exists.intro _ (And.intro rfl ?_) | refine br_t (by omega) ?_ | refine bs_t (by omega) ?_ | refine bs_f (by omega) ?_ | refine fun (K' : K3) hK' => ?_ | (refine hK' _ _ _ ?_; clear hK' K'))
          intro ρ; rfl
        · by_cases h3 : ((i : Nat) : Int) ≥ (n : Nat)
          · rw [ordB_no2 (by omega)]
            repeat ((conv => whnf); first | (refine And.intro (by first | omega | exact Nat.le_of_ble_eq_true rfl | (dsimp only [inK]; omega)) ?_) | with_reducible refine ld (hli) ?_ | refine Exists.intro _ (And.intro rfl ?_) | refine br_t (by omega) ?_ | refine bs_f (by omega) ?_ | refine fun (K' : K3) hK' => ?_ | (refine hK' _ _ _ ?_; clear hK' K'))
            intro ρ; rfl
          · repeat ((conv => whnf); first | (refine And.intro (by first | omega | exact Nat.le_of_ble_eq_true rfl | (dsimp only [inK]; omega)) ?_) | with_reducible refine ld (hli) ?_ | refine Exists.intro _ (And.intro rfl ?_) | refine br_t (by omega) ?_ | refine br_f (by omega) ?_ | refine bs_f (by omega) ?_ | refine fun (K' : K3) hK' => ?_ | (refine hK' _ _ _ ?_; clear hK' K') | refine Two.l ?_)
            refine Tri.loop (γ := Nat) (fun j => j ≤ i ∧ ∀ r, r < j → x ≠ zs.getD r 0) (fun j => [(1, V.c (.sl 1 zs.length)), (2, V.c (.ptr 2 0)), (6, V.i x), (9, V.c (.sl 1 zs.length)), (10, V.i zs.length), (11, V.i (i : Nat)), (32, V.c (.sl 1 i)), (33, V.i (i : Nat)), (34, V.i (j : Nat))])
              (fun j => [⟨2, .own 24, [C.i n, .sl 0 m]⟩, ⟨0, .ro 2, cellC cs⟩, ⟨1, .ro 1, zs.map C.i⟩]) 3 (fun j => i - j) 0 (R0 := []) ?_ ?_ ?_
            · exact ⟨Nat.zero_le _, fun r hr => by omega⟩
            · skip
              refine ⟨?_, ?_, rfl, rfl, by exact Nat.le_of_ble_eq_true rfl⟩
              · repeat (first | exact trivial | (refine And.intro (covS_syn (by rfl) rfl (by first | exact trivial | exact Nat.le_of_ble_eq_true rfl)) ?_))
              · repeat (first | exact trivial | (refine And.intro (covE_id (Nat.le_of_ble_eq_true rfl) (by first | exact wf_ints _ _ | first | exact wf_us _ _ | exact wf_cells _ _ | exact wf_ints _ _ | (simp [C.wf]; done)) rfl (by rfl)) ?_))
            · rintro j ⟨hj, hjr⟩
              refine vc_ok tok ?_
              by_cases hjl : j < i
              · have hlj := hlz j (by omega)
                have hn3j := hn3 j hjl
                obtain ⟨y, hy⟩ : ∃ y, y = zs.getD j 0 := ⟨_, rfl⟩
                rw [← hy] at hlj hn3j
                by_cases h4 : x = y
                · rw [hn3j h4]
                  repeat ((conv => whnf); first | (refine And.intro (by first | omega | (dsimp only [inK]; omega)) ?_) | with_reducible refine ld (hlj) ?_ | refine br_t (by omega) ?_ | refine fun (K' : K3) hK' => ?_ | (refine hK' _ _ _ ?_; clear hK' K'))
                  intro ρ; rfl
                · repeat ((conv => whnf); first | (refine And.intro (by first | omega | (dsimp only [inK]; omega)) ?_) | with_reducible refine ld (hlj) ?_ | refine br_t (by omega) ?_ | refine br_f (by omega) ?_ | refine fun (K' : K3) hK' => ?_ | (refine hK' _ _ _ ?_; clear hK' K'))
                  refine ⟨j + 1, [], ⟨by omega, fun r hr => ?_⟩, by omega, ?_⟩
                  · by_cases h : r = j
                    · rw [h, ← hy]; exact h4
                    · exact hjr r (by omega)
                  refine ⟨?_, ?_, rfl, rfl, by exact Nat.le_of_ble_eq_true rfl⟩
                  · repeat (first | exact trivial | (refine And.intro (covS_syn (by rfl) rfl (by first | exact trivial | exact Nat.le_of_ble_eq_true rfl)) ?_))
                  · repeat (first | exact trivial | (refine And.intro (covE_id (Nat.le_of_ble_eq_true rfl) (by first | exact wf_ints _ _ | first | exact wf_us _ _ | exact wf_cells _ _ | exact wf_ints _ _ | (simp [C.wf]; done)) rfl (by rfl)) ?_))
              · obtain rfl : j = i := by omega
                repeat ((conv => whnf); first | (refine And.intro (by first | omega | (dsimp only [inK]; omega)) ?_) | refine br_f (by omega) ?_ | refine fun (K' : K3) hK' => ?_ | (refine hK' _ _ _ ?_; clear hK' K'))
                refine ⟨j + 1, [], ⟨by omega, fun r hr => ?_, fun r hr m hm => ?_⟩, by omega, ?_⟩
                · by_cases h : r = j
                  · rw [h, ← hx]; omega
                  · exact hr1 r (by omega)
                · by_cases h : r = j
                  · rw [h, ← hx]; exact hjr m (by omega)
                  · exact hr2 r (by omega) m hm
                refine ⟨?_, ?_, rfl, rfl, by exact Nat.le_of_ble_eq_true rfl⟩
                · repeat (first | exact trivial | (refine And.intro (covS_syn (by rfl) rfl (by first | exact trivial | exact Nat.le_of_ble_eq_true rfl)) ?_))
                · repeat (first | exact trivial | (refine And.intro (covE_id (Nat.le_of_ble_eq_true rfl) (by first | exact wf_ints _ _ | first | exact wf_us _ _ | exact wf_cells _ _ | exact wf_ints _ _ | (simp [C.wf]; done)) rfl (by rfl)) ?_))
    · obtain rfl : i = zs.length := by omega
      have hyes := ordB_yes hr1 hr2
      repeat ((conv => whnf); first | (refine And.intro (by first | omega | exact Nat.le_of_ble_eq_true rfl) ?_) | refine Exists.intro _ (And.intro rfl ?_) | refine br_f (by omega) ?_ | refine fun (K' : K3) hK' => ?_ | (refine hK' _ _ _ ?_; clear hK' K'))
      intro ρ
      rw [hyes]
      exact congrArg Value.bool (decide_eq_decide.2 (by omega))
end Go.Proofs.YtijnimgmpocmaaaDoor

/- Waste: the document's Line, walked. -/
namespace Go.Proofs.YtijnimgmpocmaaaDoor
open Go.RowKit
set_option linter.unusedVariables false
set_option linter.unusedSimpArgs false
def putF (f : Nat → Nat) (a x : Nat) : Nat → Nat := fun y => if y = a then x else f y
def rowL (f : Nat → Nat) (n : Nat) : List Int := fnL (fun y => ((f y : Nat) : Int)) n
end Go.Proofs.YtijnimgmpocmaaaDoor

/- Waste: what the laws share: Wide, Awake. -/
namespace Go.Proofs.YtijnimgmpocmaaaDoor
open Go.RowKit
set_option linter.unusedVariables false
set_option linter.unusedSimpArgs false
theorem wide_spec (N : Int) (n : Nat) (hn : n < 9223372036854775808) : Spec Tryd.prog 14 [V.agg [C.i N, C.sl 0 n]] [] 1 (Is (V.c (.bool (decide ((n : Int) > 60))))) := by
  refine Spec.of tok Tryd.func14 rfl rfl rfl fun n0 cx => vc_ok tok ?_
  repeat ((conv => whnf); first | (refine And.intro (by first | omega | exact Nat.le_of_ble_eq_true rfl | (dsimp only [inK]; omega) | (simp only [mulS_eq]; omega) | (simp only [mulS_eq, setL_length]; omega) | (simp only [setL_length]; omega) | (simp only [setL_length, List.length_map]; omega) | (exact ⟨by omega, by omega, by first | exact Nat.le_of_ble_eq_true rfl | (dsimp only; omega) | (simp only [setL_length]; omega) | (simp only [setL_length, List.length_map]; omega)⟩) | (exact ⟨by omega, by first | rfl | omega, by omega, Nat.le_of_ble_eq_true rfl, Nat.le_of_ble_eq_true rfl⟩) | (exact ⟨rfl, rfl, rfl, Nat.le_of_ble_eq_true rfl, by first | rfl | omega | exact Nat.le_of_ble_eq_true rfl | (dsimp only; omega) | (simp; done) | (simp; omega), by first | rfl | omega | exact Nat.le_of_ble_eq_true rfl | (dsimp only; omega) | (simp; done) | (simp; omega), by omega, Nat.le_of_ble_eq_true rfl⟩) | exact Eq.refl true) ?_) | refine Exists.intro _ (And.intro rfl ?_) | refine And.intro (And.intro rfl (chk_rowI _ _ _ _)) ?_ | refine br_t (by omega) ?_ | refine br_f (by omega) ?_ | refine bs_t (by omega) ?_ | refine bs_f (by omega) ?_ | refine fun (K' : K3) hK' => ?_ | (refine hK' _ _ _ ?_; clear hK' K') | refine draw_auto tok mixed (by kernel_rfl) ?_ | refine bs_bt (Eq.refl true) ?_ | refine bs_bf (Eq.refl false) ?_ | refine br_bt (Eq.refl true) ?_ | refine br_bf (Eq.refl false) ?_ | refine CallK.m ?_ | refine Two.l ?_ | refine And.intro (And.intro rfl rfl) ?_)
  intro ρ; rfl
theorem three_knd : Knd 3 [(0, 1), (1, 2), (0, 2)] := ⟨by omega, fun p hp => by simp only [List.mem_cons, List.not_mem_nil, or_false] at hp; rcases hp with rfl | rfl | rfl <;> simp, by decide⟩
theorem three_cnt : cntO 3 [(0, 1), (1, 2), (0, 2)] 3 = 6 := by decide +kernel
set_option maxRecDepth 10000 in
theorem awake_spec : Spec Tryd.prog 16 [] [] 0 (Is (V.c (.bool true))) := by
  have hc := count_spec 3 3 [(0, 1), (1, 2), (0, 2)] three_knd
  rw [if_pos (by omega), three_cnt] at hc
  have hc : Spec Tryd.prog 25 [V.agg [C.i 3, C.sl 0 3], V.i 3] [⟨0, .ro 2, [C.i 0, C.i 1, C.i 1, C.i 2, C.i 0, C.i 2]⟩] 1 (Is (V.tup [A.c (C.i 6), A.c (C.i 0)])) := hc
  refine Spec.of tok Tryd.func16 rfl rfl rfl fun n0 cx => vc_ok tok ?_
  repeat ((conv => whnf); first | (refine And.intro (by first | omega | exact Nat.le_of_ble_eq_true rfl | (dsimp only [inK]; omega) | (simp only [mulS_eq]; omega) | (simp only [mulS_eq, setL_length]; omega) | (simp only [setL_length]; omega) | (simp only [setL_length, List.length_map]; omega) | (exact ⟨by omega, by omega, by first | exact Nat.le_of_ble_eq_true rfl | (dsimp only; omega) | (simp only [setL_length]; omega) | (simp only [setL_length, List.length_map]; omega)⟩) | (exact ⟨by omega, by first | rfl | omega, by omega, Nat.le_of_ble_eq_true rfl, Nat.le_of_ble_eq_true rfl⟩) | (exact ⟨rfl, rfl, rfl, Nat.le_of_ble_eq_true rfl, by first | rfl | omega | exact Nat.le_of_ble_eq_true rfl | (dsimp only; omega) | (simp; done) | (simp; omega), by first | rfl | omega | exact Nat.le_of_ble_eq_true rfl | (dsimp only; omega) | (simp; done) | (simp; omega), by omega, Nat.le_of_ble_eq_true rfl⟩) | exact Eq.refl true) ?_) | refine Exists.intro _ (And.intro rfl ?_) | refine And.intro (And.intro rfl (chk_rowI _ _ _ _)) ?_ | refine br_t (by omega) ?_ | refine br_f (by omega) ?_ | refine bs_t (by omega) ?_ | refine bs_f (by omega) ?_ | refine fun (K' : K3) hK' => ?_ | (refine hK' _ _ _ ?_; clear hK' K') | refine draw_auto tok mixed (by kernel_rfl) ?_ | refine CallK.val (R := [(0, some 0)]) hc (by kernel_rfl) rfl (by simp [V.wf, A.wf, C.wf, V.i]) ⟨roE_f (k := .vec 59 2) (flat_c [(0, 1), (1, 2), (0, 2)]) (l := 0) rfl (by omega) rfl (.inr rfl), trivial⟩ rfl rfl (by simp [V.wf, A.wf, C.wf]) ?_ | refine bs_bt (Eq.refl true) ?_ | refine bs_bf (Eq.refl false) ?_ | refine br_bt (Eq.refl true) ?_ | refine br_bf (Eq.refl false) ?_ | refine CallK.m ?_ | refine Two.l ?_ | refine And.intro (And.intro rfl rfl) ?_)
  intro ρ; rfl
section
variable {n0 nx : Nat} {L : List E} {K : V → List E → Nat → Prop}
theorem awake_k (hK : K (V.c (.bool true)) [] nx) : CallK Tryd.prog n0 16 [] L nx K :=
  CallK.val (R := []) awake_spec (by kernel_rfl) rfl (by simp) trivial rfl rfl trivial hK
theorem wide_k {N : Int} {n a : Nat} (hn : n < 9223372036854775808) (hK : K (V.c (.bool (decide ((n : Int) > 60)))) [] nx) : CallK Tryd.prog n0 14 [V.agg [C.i N, C.sl a n]] L nx K :=
  CallK.val (R := [(0, some a)]) (wide_spec N n hn) (by kernel_rfl) rfl (by simp [V.wf, A.wf, C.wf]) trivial rfl rfl trivial hK
end
end Go.Proofs.YtijnimgmpocmaaaDoor

/- Waste: the law of the fillings. -/
namespace Go.Proofs.YtijnimgmpocmaaaDoor
open Go.RowKit
set_option linter.unusedVariables false
set_option linter.unusedSimpArgs false
theorem long_spec (m : Nat) (hm : m < 9223372036854775808) : Spec Tryd.prog 15 [V.c (.sl 0 m)] [] 1 (Is (V.c (.bool (decide ((m : Int) > 60))))) := by
  refine Spec.of tok Tryd.func15 rfl rfl rfl fun n0 cx => vc_ok tok ?_
  repeat ((conv => whnf); first | (refine And.intro (by first | omega | exact Nat.le_of_ble_eq_true rfl | (dsimp only [inK]; omega) | (simp only [mulS_eq]; omega) | (simp only [mulS_eq, setL_length]; omega) | (simp only [setL_length]; omega) | (simp only [setL_length, List.length_map]; omega) | (exact ⟨by omega, by omega, by first | exact Nat.le_of_ble_eq_true rfl | (dsimp only; omega) | (simp only [setL_length]; omega) | (simp only [setL_length, List.length_map]; omega)⟩) | (exact ⟨by omega, by first | rfl | omega, by omega, Nat.le_of_ble_eq_true rfl, Nat.le_of_ble_eq_true rfl⟩) | (exact ⟨rfl, rfl, rfl, Nat.le_of_ble_eq_true rfl, by first | rfl | omega | exact Nat.le_of_ble_eq_true rfl | (dsimp only; omega) | (simp; done) | (simp; omega), by first | rfl | omega | exact Nat.le_of_ble_eq_true rfl | (dsimp only; omega) | (simp; done) | (simp; omega), by omega, Nat.le_of_ble_eq_true rfl⟩) | exact Eq.refl true) ?_) | refine Exists.intro _ (And.intro rfl ?_) | refine And.intro (And.intro rfl (chk_rowI _ _ _ _)) ?_ | refine br_t (by omega) ?_ | refine br_f (by omega) ?_ | refine bs_t (by omega) ?_ | refine bs_f (by omega) ?_ | refine fun (K' : K3) hK' => ?_ | (refine hK' _ _ _ ?_; clear hK' K') | refine draw_auto tok mixed (by kernel_rfl) ?_ | refine bs_bt (Eq.refl true) ?_ | refine bs_bf (Eq.refl false) ?_ | refine br_bt (Eq.refl true) ?_ | refine br_bf (Eq.refl false) ?_ | refine CallK.m ?_ | refine Two.l ?_ | refine And.intro (And.intro rfl rfl) ?_)
  intro ρ; rfl
section
variable {n0 nx : Nat} {L : List E} {K : V → List E → Nat → Prop}
theorem long_k {m a : Nat} (hm : m < 9223372036854775808) (hK : K (V.c (.bool (decide ((m : Int) > 60)))) [] nx) : CallK Tryd.prog n0 15 [V.c (.sl a m)] L nx K :=
  CallK.val (R := [(0, some a)]) (long_spec m hm) (by kernel_rfl) rfl (by simp [V.wf, A.wf, C.wf]) trivial rfl rfl trivial hK
end
section
variable (N : Int) (ps : List Cell) (l : List Int)
end
section
variable (n : Nat) (qs : List (Nat × Nat)) (l : List Int) (hk : Knd n qs) (h2 : ¬ (l.length : Int) > 60)
include hk h2
end
end Go.Proofs.YtijnimgmpocmaaaDoor

/- Waste: the document's longest list, walked. -/
namespace Go.Proofs.YtijnimgmpocmaaaDoor
open Go.RowKit
set_option linter.unusedVariables false
set_option linter.unusedSimpArgs false
end Go.Proofs.YtijnimgmpocmaaaDoor

/- Waste: the law of lists. -/
namespace Go.Proofs.YtijnimgmpocmaaaDoor
open Go.RowKit
set_option linter.unusedVariables false
set_option linter.unusedSimpArgs false
section
variable (N : Int) (ps : List Cell)
end
end Go.Proofs.YtijnimgmpocmaaaDoor

/- Waste: rows of numbers that came in, with the room behind them. -/
namespace Go.Proofs.YtijnimgmpocmaaaDoor
open Go.RowKit
set_option linter.unusedVariables false
set_option linter.unusedSimpArgs false
open Go.ChangeShapes Go.WideShapes Go.ChangeAt Go.RowKit Go.Deep Go.Joins
def IntsC (W : World) (ao : Option Addr) (c : Nat) (l : List Int) : Prop := IntsAt W ao l ∧ l.length ≤ c
section
variable {H : Type} {enc : TypeId × Value → H} {W : World} {sp : Nat → Bool}
theorem open_ints25C {n : Nat} {v : Value} {x : DataW H × List MemPlace} (h : DataW.trod enc Tryd.prog W 0 sp true n 25 [v] = some x) :
    ∃ (ao : Option Addr) (c : Nat) (l : List Int), v = .slice ao l.length c ∧ IntsC W ao c l := by
  rcases open_slice1 Tryd.underlying25 (by kernel_rfl) h with ⟨hcs, _⟩ | ⟨a, len, cap, m, f, V, D, Pl, hcs, _, hl, hmax, hm, _, hx⟩
  · cases hcs
    exact ⟨none, 0, [], rfl, ⟨fun hne => absurd rfl hne, by simp⟩, by simp⟩
  · cases hcs
    have hlm : len ≤ m := by rw [hm]; split <;> omega
    have hlen : len < 9223372036854775808 := by unfold maxLen at hmax; omega
    obtain ⟨b, hb⟩ := choose_lt (α := Int) (n := len) (p := fun i b => V i = .int .i64 b) (fun i hi => by
      obtain ⟨b, hb, _, hw⟩ := DataW.trod_int Tryd.underlying3 (hx i (by omega)).2
      exact ⟨b, by simpa using hb⟩)
    refine ⟨some a, cap, (List.range len).map b, by simp, ⟨ro_at (fun i hi => ?_), by simpa using hlen⟩, by simpa using hl⟩
    have hi' : i < len := by simpa using hi
    rw [(hx i (by omega)).1, hb i hi']
    simp [List.getD_eq_getElem?_getD, hi']
set_option maxRecDepth 100000 in
theorem open_intsvC {v : Value} {d : DataW H} {p : List MemPlace} {r : Reach} {b0 : Nat} (hv : Value.okWide Tryd.prog W r b0 25 v) (h : DataW.Trod enc Tryd.prog W 0 sp true 25 v d p) :
    ∃ (ao : Option Addr) (c : Nat) (l : List Int), v = .slice ao l.length c ∧ IntsC W ao c l := by
  obtain ⟨fuel, hf⟩ := h
  obtain ⟨ao, n, cp, rfl⟩ := okWide_slice Tryd.underlying25 hv
  simp only [Value.cells] at hf
  exact open_ints25C hf
end
theorem ent_ints1 {W : World} {ρ : Env} {l : List Int} {k nx c : Nat} {ao : Option Addr} (h : IntsC W ao c l) (hk : k < nx) (hr : ρ k = (ao, c)) : (∃ z, (Kd.ro 1) = .ro z ∧ (z = 0 ∨ (l.map C.i).length ≤ (ρ k).2 * z)) ∧ k < nx ∧ (∀ c ∈ l.map C.i, c.wf nx) ∧ RoAt W (ρ k).1 ((l.map C.i).map (C.den ρ)) := by
  refine ⟨⟨1, rfl, .inr ?_⟩, hk, wf_ints _ _, ?_⟩
  · rw [hr, List.length_map]; have := h.2; simp only; omega
  · rw [List.map_map, hr]; exact h.1.1
theorem hp_ki1 {W : World} {l : List Int} {ps : List Cell} {ao bo : Option Addr} {c d : Nat} (h : CellsAt W ao c ps) (h2 : IntsC W bo d l) (hF : Fct W.heap.size W) : Hp W.heap.size (envL [(ao, c), (bo, d)]) W [⟨0, .ro 2, cellC ps⟩, ⟨1, .ro 1, l.map C.i⟩] 2 := by
  refine Hp.rosz (fun e he => ?_) rfl hF
  simp only [List.mem_cons, List.not_mem_nil, or_false] at he
  rcases he with rfl | rfl
  · exact ent_cells h (by show 0 < 2; omega) rfl
  · exact ent_ints1 h2 (by show 1 < 2; omega) rfl
end Go.Proofs.YtijnimgmpocmaaaDoor

/- Waste: the law of the skips. -/
namespace Go.Proofs.YtijnimgmpocmaaaDoor
open Go.RowKit
set_option linter.unusedVariables false
set_option linter.unusedSimpArgs false
section
variable (N z : Int) (ps : List Cell) (l : List Int)
end
/-- What First and Line answer. -/
def Fst (n : Nat) (qs : List (Nat × Nat)) (z : Int) : Prop := (∃ e : Int, Spec Tryd.prog 48 [V.agg [C.i n, C.sl 0 (castP qs).length], V.i z] [⟨0, .ro 2, cellC (castP qs)⟩] 1 (Is (V.tup [A.c .nil, A.c (C.i e)])) ∧ Spec Tryd.prog 51 [V.agg [C.i n, C.sl 0 (castP qs).length], V.i z] [⟨0, .ro 2, cellC (castP qs)⟩] 1 (Is (V.tup [A.c .nil, A.c (C.i e)]))) ∨
  ∃ r : List Nat, r.length = n ∧ Spec Tryd.prog 48 [V.agg [C.i n, C.sl 0 (castP qs).length], V.i z] [⟨0, .ro 2, cellC (castP qs)⟩] 1 (fun v L' _ => rowI r v L') ∧ Spec Tryd.prog 51 [V.agg [C.i n, C.sl 0 (castP qs).length], V.i z] [⟨0, .ro 2, cellC (castP qs)⟩] 1 (fun v L' _ => rowI r v L')
theorem line_no (n : Nat) (qs : List (Nat × Nat)) (hk : Knd n qs) (l : List Int) (hl : l.length ≤ 1000) (hb : ordB n l = false) : Spec Tryd.prog 52 [V.agg [C.i n, C.sl 0 (castP qs).length], V.c (.sl 1 l.length)] [⟨0, .ro 2, cellC (castP qs)⟩, ⟨1, .ro 0, l.map C.i⟩] 2 (Is (V.tup [A.c .nil, A.c (C.i 2)])) := by
  by_cases h : l.length = n
  · exact Line_srt n qs hk l h ((srtB_ord hk.rng.1 h).trans hb)
  · exact Line_len n qs hk l hl h
section
variable (n : Nat) (z : Int) (qs : List (Nat × Nat)) (hk : Knd n qs)
include hk
end
end Go.Proofs.YtijnimgmpocmaaaDoor

/- Waste, plain: the fewest skips, kinds that all clash, kinds apart; how many numbers a list has. -/
namespace Go.Proofs.YtijnimgmpocmaaaDoor
open Go.RowKit
set_option linter.unusedVariables false
set_option linter.unusedSimpArgs false
theorem few_nat {n : Nat} {qs : List (Nat × Nat)} (hk : Knd n qs) : ∃ k : Nat, fewI (tabS n qs) n = (k : Int) ∧ 1 ≤ k ∧ k ≤ n ∧ ∀ x, (∃ f : List Nat, f.length = n ∧ (∀ s ∈ f, s < x) ∧ rgt (clP qs) f) ↔ k ≤ x := by
  obtain ⟨k, h1, h2, h3, h4⟩ := fewI_least hk
  have hi := fun x => few_iff (x := x) h3 h4
  refine ⟨k, h2, ?_, h1, hi⟩
  rcases Nat.eq_zero_or_pos k with h | h
  · exfalso
    obtain ⟨f, e1, e2, _⟩ := (hi 0).2 (by omega)
    have := hk.rng
    match f, e1, e2 with
    | [], e1, _ => simp at e1; omega
    | s :: f, _, e2 => have := e2 s (by simp); omega
  · exact h
/-! How many different numbers a list has. -/
def uqK (l : List Int) (i k : Nat) : Bool := (List.range k).all fun j => !decide (l.getD i 0 = l.getD j 0)
def usdK (l : List Int) (k : Nat) : Nat := ((List.range k).filter fun i => uqK l i i).length
def usd (l : List Int) : Nat := usdK l l.length
theorem uqK_succ (l : List Int) (i k : Nat) : uqK l i (k + 1) = (uqK l i k && !decide (l.getD i 0 = l.getD k 0)) := by simp [uqK, List.range_succ, List.all_append]
theorem usdK_succ (l : List Int) (k : Nat) : usdK l (k + 1) = usdK l k + (uqK l k k).toNat := by
  unfold usdK
  rw [List.range_succ, List.filter_append, List.length_append]
  cases h : uqK l k k <;> simp [h]
theorem usdK_le (l : List Int) (k : Nat) : usdK l k ≤ k := by
  unfold usdK
  have := List.length_filter_le (fun i => uqK l i i) (List.range k)
  rwa [List.length_range] at this
theorem fst_ex (l : List Int) : ∀ i, i < l.length → ∃ j, j ≤ i ∧ uqK l j j = true ∧ l.getD j 0 = l.getD i 0 := by
  intro i
  induction i using Nat.strongRecOn with
  | _ i ih =>
    intro hi
    cases h : uqK l i i with
    | true => exact ⟨i, Nat.le_refl _, h, rfl⟩
    | false =>
      rw [← Bool.not_eq_true, uqK, List.all_eq_true] at h
      have : ∃ j, j < i ∧ l.getD i 0 = l.getD j 0 := by
        apply Classical.byContradiction
        intro h2
        refine h fun j hj => ?_
        have : ¬ l.getD i 0 = l.getD j 0 := fun e => h2 ⟨j, List.mem_range.1 hj, e⟩
        rw [decide_eq_false this]; rfl
      obtain ⟨j, hj, he⟩ := this
      obtain ⟨m, h1, h2, h3⟩ := ih j hj (by omega)
      exact ⟨m, by omega, h2, by rw [h3, he]⟩
def fstS (l : List Int) : List Nat := (List.range l.length).filter fun i => uqK l i i
theorem fstS_len (l : List Int) : (fstS l).length = usd l := rfl
def nmI (l : List Int) (i : Nat) : Nat := (fstS l).findIdx fun j => decide (l.getD j 0 = l.getD i 0)
theorem nmI_lt {l : List Int} {i : Nat} (hi : i < l.length) : nmI l i < usd l := by
  rw [← fstS_len]
  obtain ⟨j, h1, h2, h3⟩ := fst_ex l i hi
  exact List.findIdx_lt_length_of_exists ⟨j, List.mem_filter.2 ⟨List.mem_range.2 (by omega), h2⟩, by simpa using h3⟩
theorem nmI_at {l : List Int} {i : Nat} (hi : i < l.length) : l.getD ((fstS l).getD (nmI l i) 0) 0 = l.getD i 0 := by
  have h := nmI_lt hi
  rw [← fstS_len] at h
  have h2 := List.findIdx_getElem (p := fun j => decide (l.getD j 0 = l.getD i 0)) (xs := fstS l) (w := h)
  have e : (fstS l).getD (nmI l i) 0 = (fstS l)[nmI l i]'h := by simp [List.getD_eq_getElem?_getD, h]
  rw [e]
  exact of_decide_eq_true h2
theorem nmI_inj {l : List Int} {i j : Nat} (hi : i < l.length) (hj : j < l.length) (h : nmI l i = nmI l j) : l.getD i 0 = l.getD j 0 := by
  rw [← nmI_at hi, h, nmI_at hj]
theorem rgtP_iff {qs : List (Nat × Nat)} {l : List Int} : rgtP qs l = true ↔ ∀ a b, (a, b) ∈ qs → l.getD a 0 ≠ l.getD b 0 := by
  unfold rgtP
  rw [List.all_eq_true]
  constructor
  · intro h a b hab e
    have := h _ hab
    simp only at this
    rw [decide_eq_true e] at this; cases this
  · rintro h ⟨a, b⟩ hab
    have := h a b hab
    simp only
    rw [decide_eq_false this]; rfl
theorem usd_le {l : List Int} {x : Nat} (h : ∀ z ∈ l, 0 ≤ z ∧ z < x) : usd l ≤ x := by
  have hg : ∀ i, i < l.length → 0 ≤ l.getD i 0 ∧ l.getD i 0 < x := fun i hi => by
    rw [List.getD_eq_getElem?_getD, List.getElem?_eq_getElem hi]
    exact h _ (List.getElem_mem _)
  have h1 : ((fstS l).map fun i => (l.getD i 0).toNat).Nodup := by
    rw [List.nodup_iff_pairwise_ne, List.pairwise_map]
    have h2 : (fstS l).Pairwise (· < ·) := List.Pairwise.filter _ List.pairwise_lt_range
    refine h2.imp_of_mem fun {a b} ha hb hab he => ?_
    obtain ⟨ha1, _⟩ := List.mem_filter.1 ha
    obtain ⟨hb1, hb2⟩ := List.mem_filter.1 hb
    have ha1 := List.mem_range.1 ha1
    have hb1 := List.mem_range.1 hb1
    rw [uqK, List.all_eq_true] at hb2
    have h3 := hb2 a (List.mem_range.2 hab)
    have h4 := hg a ha1
    have h5 := hg b hb1
    rw [decide_eq_true (show l.getD b 0 = l.getD a 0 by omega)] at h3; cases h3
  have := nodup_len h1 (m := List.range x) fun y hy => by
    obtain ⟨i, hi, rfl⟩ := List.mem_map.1 hy
    have := hg i (List.mem_range.1 (List.mem_filter.1 hi).1)
    exact List.mem_range.2 (by omega)
  rw [List.length_map, List.length_range, fstS_len] at this
  exact this
section
variable {n k : Nat} {qs : List (Nat × Nat)} (hk : Knd n qs) (hi : ∀ x, (∃ f : List Nat, f.length = n ∧ (∀ s ∈ f, s < x) ∧ rgt (clP qs) f) ↔ k ≤ x)
include hk hi
theorem usd_ge {l : List Int} (hl : l.length = n) (hr : rgtP qs l = true) : k ≤ usd l := by
  have hk0 := hk
  rw [rgtP_iff] at hr
  refine (hi _).1 ⟨(List.range n).map (nmI l), by simp, fun s hs => ?_, fun i j hij hj hc => ?_⟩
  · obtain ⟨i, h1, rfl⟩ := List.mem_map.1 hs
    exact nmI_lt (by have := List.mem_range.1 h1; omega)
  · rw [List.length_map, List.length_range] at hj
    have g : ∀ i, i < n → ((List.range n).map (nmI l)).getD i 0 = nmI l i := fun i hi => by simp [List.getD_eq_getElem?_getD, hi]
    rw [g i (by omega), g j hj]
    exact fun e => hr i j (clP_iff.1 hc) (nmI_inj (by omega) (by omega) e)
end
theorem frst_k {n k : Nat} {qs : List (Nat × Nat)} (_hk : Knd n qs) {x : Nat} (hkx : k ≤ x) (hi : ∀ x, (∃ f : List Nat, f.length = n ∧ (∀ s ∈ f, s < x) ∧ rgt (clP qs) f) ↔ k ≤ x) : ∃ l, frst (symC (clP qs)) x n [] = some l ∧ l.length = n ∧ (∀ s ∈ l, s < x) ∧ rgt (clP qs) l := by
  obtain ⟨f, e1, e2, e3⟩ := (hi x).2 hkx
  obtain ⟨l, hl⟩ := frst_iff.2 ⟨f, e1, e2, rgt_sym.2 e3⟩
  have := frst_sound hl (rgt_nil _) (by simp)
  exact ⟨l, hl, by simpa using this.1, this.2.2, rgt_sym.1 this.2.1⟩
end Go.Proofs.YtijnimgmpocmaaaDoor

/- Waste: how many different numbers a list has, walked. -/
namespace Go.Proofs.YtijnimgmpocmaaaDoor
open Go.RowKit
set_option linter.unusedVariables false
set_option linter.unusedSimpArgs false
set_option maxRecDepth 10000 in
set_option maxHeartbeats 8000000 in
theorem used_spec (zs : List Int) (hz : zs.length ≤ 1000) : Spec Tryd.prog 49 [V.c (.sl 0 zs.length)] [⟨0, .ro 1, zs.map C.i⟩] 1 (Is (V.i (usd zs))) := by
  have hlz : ∀ i, i < zs.length → (zs.map C.i)[mulS ((i : Nat) : Int).toNat 1]? = some (C.i (zs.getD i 0)) := fun i hi => intLz rfl hi
  have hzm : (zs.map C.i).length = zs.length := List.length_map ..
  refine Spec.of tok Tryd.func49 rfl rfl rfl fun n0 cx => vc_ok tok ?_
  repeat ((conv => whnf); first | refine fun (K' : K3) hK' => ?_ | (refine hK' _ _ _ ?_; clear hK' K'))
  refine Tri.loop (γ := Nat) (fun i => i ≤ zs.length) (fun i => [(0, V.c (.sl 0 zs.length)), (3, V.i (usdK zs i)), (9, V.c (.sl 0 zs.length)), (10, V.i zs.length), (11, V.i (i : Nat))])
    (fun i => [⟨0, .ro 1, zs.map C.i⟩]) 1 (fun i => zs.length - i) 0 (R0 := []) ?_ ?_ ?_
  · exact Nat.zero_le _
  · skip
    refine ⟨?_, ?_, rfl, rfl, by exact Nat.le_of_ble_eq_true rfl⟩
    · repeat (first | exact trivial | (refine And.intro (covS_syn (by rfl) rfl (by first | exact trivial | exact Nat.le_of_ble_eq_true rfl)) ?_))
    · repeat (first | exact trivial | refine And.intro (covE_id (Nat.le_of_ble_eq_true rfl) (by exact wf_ints _ _) rfl (by rfl)) ?_)
  · intro i hi
    refine vc_ok tok ?_
    by_cases hil : i < zs.length
    · have hli := hlz i hil
      have hus := usdK_succ zs i
      have hub := usdK_le zs i
      obtain ⟨u, hu⟩ : ∃ u, u = usdK zs i := ⟨_, rfl⟩
      rw [← hu] at hus hub ⊢
      repeat ((conv => whnf); first | (refine And.intro (by first | omega | (dsimp only [inK]; omega)) ?_) | with_reducible refine ld (hli) ?_ | refine br_t (by omega) ?_ | refine fun (K' : K3) hK' => ?_ | (refine hK' _ _ _ ?_; clear hK' K') | refine Two.l ?_)
      refine Tri.loop (γ := Nat × Bool) (fun g => g.1 ≤ i ∧ g.2 = uqK zs i g.1) (fun (j, b) => [(0, V.c (.sl 0 zs.length)), (3, V.i (u : Nat)), (5, V.i (zs.getD i 0)), (6, V.c (.bool b)), (9, V.c (.sl 0 zs.length)), (10, V.i zs.length), (11, V.i (i : Nat)), (18, V.c (.sl 0 i)), (19, V.i (i : Nat)), (20, V.i (j : Nat))])
        (fun (j, b) => [⟨0, .ro 1, zs.map C.i⟩]) 1 (fun g => i - g.1) (0, true) (R0 := []) ?_ ?_ ?_
      · exact ⟨Nat.zero_le _, rfl⟩
      · skip
        refine ⟨?_, ?_, rfl, rfl, by exact Nat.le_of_ble_eq_true rfl⟩
        · repeat (first | exact trivial | (refine And.intro (covS_syn (by rfl) rfl (by first | exact trivial | exact Nat.le_of_ble_eq_true rfl)) ?_) | refine And.intro (covS_bool rfl rfl (by rfl)) ?_)
        · repeat (first | exact trivial | refine And.intro (covE_id (Nat.le_of_ble_eq_true rfl) (by exact wf_ints _ _) rfl (by rfl)) ?_)
      · rintro ⟨j, b⟩ ⟨hj, hb⟩
        simp only at hj hb
        refine vc_ok tok ?_
        by_cases hjl : j < i
        · have hlj := hlz j (by omega)
          have hfs := uqK_succ zs i j
          rw [← hb] at hfs
          cases b with
          | false =>
            repeat ((conv => whnf); first | (refine And.intro (by first | omega | (dsimp only [inK]; omega)) ?_) | with_reducible refine ld (hlj) ?_ | refine br_t (by omega) ?_ | refine fun (K' : K3) hK' => ?_ | (refine hK' _ _ _ ?_; clear hK' K') | refine br_bf (Eq.refl false) ?_)
            refine ⟨(j + 1, false), [], ⟨by simp only; omega, by simp only; rw [hfs]; rfl⟩, by simp only; omega, ?_⟩
            refine ⟨?_, ?_, rfl, rfl, by exact Nat.le_of_ble_eq_true rfl⟩
            · repeat (first | exact trivial | (refine And.intro (covS_syn (by rfl) rfl (by first | exact trivial | exact Nat.le_of_ble_eq_true rfl)) ?_) | refine And.intro (covS_bool rfl rfl (by rfl)) ?_)
            · repeat (first | exact trivial | refine And.intro (covE_id (Nat.le_of_ble_eq_true rfl) (by exact wf_ints _ _) rfl (by rfl)) ?_)
          | true =>
            by_cases h : zs.getD i 0 = zs.getD j 0
            · rw [decide_eq_true h] at hfs
              have hne : ¬ zs.getD i 0 ≠ zs.getD j 0 := fun h2 => h2 h
              repeat ((conv => whnf); first | (refine And.intro (by first | omega | (dsimp only [inK]; omega)) ?_) | with_reducible refine ld (hlj) ?_ | refine br_t (by omega) ?_ | refine fun (K' : K3) hK' => ?_ | (refine hK' _ _ _ ?_; clear hK' K') | refine br_bt (Eq.refl true) ?_)
              refine ⟨(j + 1, false), [], ⟨by simp only; omega, by simp only; rw [hfs]; rfl⟩, by simp only; omega, ?_⟩
              refine ⟨?_, ?_, rfl, rfl, by exact Nat.le_of_ble_eq_true rfl⟩
              · repeat (first | exact trivial | (refine And.intro (covS_syn (by rfl) rfl (by first | exact trivial | exact Nat.le_of_ble_eq_true rfl)) ?_) | (refine And.intro (covS_bool rfl rfl (by first | exact decide_eq_false hne | rfl)) ?_))
              · repeat (first | exact trivial | refine And.intro (covE_id (Nat.le_of_ble_eq_true rfl) (by exact wf_ints _ _) rfl (by rfl)) ?_)
            · rw [decide_eq_false h] at hfs
              repeat ((conv => whnf); first | (refine And.intro (by first | omega | (dsimp only [inK]; omega)) ?_) | with_reducible refine ld (hlj) ?_ | refine br_t (by omega) ?_ | refine fun (K' : K3) hK' => ?_ | (refine hK' _ _ _ ?_; clear hK' K') | refine br_bt (Eq.refl true) ?_)
              refine ⟨(j + 1, true), [], ⟨by simp only; omega, by simp only; rw [hfs]; rfl⟩, by simp only; omega, ?_⟩
              refine ⟨?_, ?_, rfl, rfl, by exact Nat.le_of_ble_eq_true rfl⟩
              · repeat (first | exact trivial | (refine And.intro (covS_syn (by rfl) rfl (by first | exact trivial | exact Nat.le_of_ble_eq_true rfl)) ?_) | (refine And.intro (covS_bool rfl rfl (by first | exact decide_eq_true h | rfl)) ?_))
              · repeat (first | exact trivial | refine And.intro (covE_id (Nat.le_of_ble_eq_true rfl) (by exact wf_ints _ _) rfl (by rfl)) ?_)
        · obtain rfl : j = i := by omega
          rw [← hb] at hus
          cases b with
          | false =>
            have hus : usdK zs (j + 1) = u := hus
            repeat ((conv => whnf); first | (refine And.intro (by first | omega | (dsimp only [inK]; omega)) ?_) | refine br_f (by omega) ?_ | refine fun (K' : K3) hK' => ?_ | (refine hK' _ _ _ ?_; clear hK' K') | refine br_bf (Eq.refl false) ?_)
            refine ⟨j + 1, [], by omega, by omega, ?_⟩
            rw [hus]
            refine ⟨?_, ?_, rfl, rfl, by exact Nat.le_of_ble_eq_true rfl⟩
            · repeat (first | exact trivial | (refine And.intro (covS_syn (by rfl) rfl (by first | exact trivial | exact Nat.le_of_ble_eq_true rfl)) ?_))
            · repeat (first | exact trivial | refine And.intro (covE_id (Nat.le_of_ble_eq_true rfl) (by exact wf_ints _ _) rfl (by rfl)) ?_)
          | true =>
            have hus : usdK zs (j + 1) = u + 1 := hus
            repeat ((conv => whnf); first | (refine And.intro (by first | omega | (dsimp only [inK]; omega)) ?_) | refine br_f (by omega) ?_ | refine fun (K' : K3) hK' => ?_ | (refine hK' _ _ _ ?_; clear hK' K') | refine br_bt (Eq.refl true) ?_)
            refine ⟨j + 1, [], by omega, by omega, ?_⟩
            rw [hus]
            refine ⟨?_, ?_, rfl, rfl, by exact Nat.le_of_ble_eq_true rfl⟩
            · repeat (first | exact trivial | (refine And.intro (covS_syn (by rfl) rfl (by first | exact trivial | exact Nat.le_of_ble_eq_true rfl)) ?_))
            · repeat (first | exact trivial | refine And.intro (covE_id (Nat.le_of_ble_eq_true rfl) (by exact wf_ints _ _) rfl (by rfl)) ?_)
    · obtain rfl : i = zs.length := by omega
      repeat ((conv => whnf); first | refine br_f (by omega) ?_ | refine fun (K' : K3) hK' => ?_ | (refine hK' _ _ _ ?_; clear hK' K'))
      intro ρ; rfl
end Go.Proofs.YtijnimgmpocmaaaDoor

/- Waste: the law of the fewest skips. -/
namespace Go.Proofs.YtijnimgmpocmaaaDoor
open Go.RowKit
set_option linter.unusedVariables false
set_option linter.unusedSimpArgs false
section
variable (N : Int) (ps : List Cell) (l : List Int)
end
section
variable (n : Nat) (qs : List (Nat × Nat)) (l : List Int) (hk : Knd n qs) (h2 : ¬ (l.length : Int) > 60)
include hk h2
end
end Go.Proofs.YtijnimgmpocmaaaDoor

/- Waste, plain: the filling that an order makes is right, and has the fewest skips where the kinds come by theirs. -/
namespace Go.Proofs.YtijnimgmpocmaaaDoor
open Go.RowKit
set_option linter.unusedVariables false
set_option linter.unusedSimpArgs false
theorem Ord.mem {n : Nat} {os : List Nat} (h : Ord n os) {a : Nat} (ha : a < n) : a ∈ os := by
  apply Classical.byContradiction
  intro hn
  have := nodup_len (l := a :: os) (m := List.range n) (List.nodup_cons.2 ⟨hn, h.2.2⟩) fun x hx => by
    rcases List.mem_cons.1 hx with rfl | hx
    · exact List.mem_range.2 ha
    · exact List.mem_range.2 (h.2.1 x hx)
  rw [List.length_cons, h.1, List.length_range] at this; omega
theorem lnF_bd {cl : Nat → Nat → Bool} {n : Nat} {os : List Nat} : ∀ {k : Nat}, k ≤ n → ∀ b, lnF cl os k b ≤ k - 1
  | 0, _, _ => Nat.le_refl _
  | k + 1, hk, b => by
    show (if b = os.getD k 0 then _ else _) ≤ _
    have h2 := lnF_bd (cl := cl) (n := n) (os := os) (k := k) (by omega) b
    split
    · have h := (mexS_spec cl (lnF cl os k) (os.take k) (os.getD k 0)).2.1
      rw [List.length_take] at h; omega
    · omega
section
variable {cl : Nat → Nat → Bool} {n : Nat} {os : List Nat} (ho : Ord n os)
include ho
theorem lnF_right (hs : ∀ a b, cl a b = cl b a) (hi : ∀ a, cl a a = false) : ∀ {k : Nat}, k ≤ n → ∀ a ∈ os.take k, ∀ b ∈ os.take k, cl a b = true → lnF cl os k a ≠ lnF cl os k b
  | 0, _, a, ha, _, _, _ => by simp at ha
  | k + 1, hk, a, ha, b, hb, hc => by
    have hlt : k < n := by omega
    have htk := take_get (os := os) (k := k) (by rw [ho.1]; exact hlt)
    rw [htk, List.mem_append, List.mem_singleton] at ha hb
    have hm := (mexS_spec cl (lnF cl os k) (os.take k) (os.getD k 0)).1
    have hfree : ∀ b ∈ os.take k, cl (os.getD k 0) b = true → lnF cl os k b ≠ mexS cl (lnF cl os k) (os.take k) (os.getD k 0) := fun b hb hc e => by
      rw [← Bool.not_eq_true, blkS, List.any_eq_true] at hm
      exact hm ⟨b, hb, by rw [hc, decide_eq_true e]; rfl⟩
    rcases ha with ha | ha
    · rw [lnF_old ho hlt ha]
      rcases hb with hb | hb
      · rw [lnF_old ho hlt hb]
        exact lnF_right hs hi (by omega) a ha b hb hc
      · rw [hb, lnF_new]
        exact hfree a ha (by rw [hs, ← hb]; exact hc)
    · rcases hb with hb | hb
      · rw [lnF_old ho hlt hb, ha, lnF_new]
        exact fun e => hfree b hb (by rw [← ha]; exact hc) e.symm
      · rw [ha, hb, hi] at hc; cases hc
theorem lnF_low {g : Nat → Nat} (hg : ∀ a b, a < n → b < n → cl a b = true → g a ≠ g b) (hso : os.Pairwise fun a b => g a ≤ g b) : ∀ {k : Nat}, k ≤ n → ∀ b ∈ os.take k, lnF cl os k b ≤ g b
  | 0, _, b, hb => by simp at hb
  | k + 1, hk, b, hb => by
    have hlt : k < n := by omega
    have htk := take_get (os := os) (k := k) (by rw [ho.1]; exact hlt)
    have hlo := lnF_low hg hso (k := k) (by omega)
    have hb0 := hb
    rw [htk, List.mem_append, List.mem_singleton] at hb
    rcases hb with hb | hb
    · rw [lnF_old ho hlt hb]; exact hlo b hb
    · rw [hb, lnF_new]
      obtain ⟨_, _, h3⟩ := mexS_spec cl (lnF cl os k) (os.take k) (os.getD k 0)
      apply Classical.byContradiction
      intro hn
      have h4 := h3 (g (os.getD k 0)) (by omega)
      rw [blkS, List.any_eq_true] at h4
      obtain ⟨c, hc, h5⟩ := h4
      simp only [Bool.and_eq_true, decide_eq_true_iff] at h5
      have h6 := hlo c hc
      have h7 : g c ≤ g (os.getD k 0) := by
        have hp : (os.take (k + 1)).Pairwise fun a b => g a ≤ g b := hso.sublist (List.take_sublist ..)
        rw [htk, List.pairwise_append] at hp
        exact hp.2.2 c hc _ (by simp)
      exact hg _ _ (ho.at hlt) (ho.2.1 c (List.mem_of_mem_take hc)) h5.1 (by omega)
end
section
variable {n : Nat} {qs : List (Nat × Nat)} (hk : Knd n qs) {os : List Nat} (ho : Ord n os)
def lnL (n : Nat) (qs : List (Nat × Nat)) (os : List Nat) : List Int := fnL (fun x => ((lnF (symC (clP qs)) os n x : Nat) : Int)) n
theorem lnL_len (n : Nat) (qs : List (Nat × Nat)) (os : List Nat) : (lnL n qs os).length = n := fnL_len _ _
theorem lnL_get {a : Nat} (ha : a < n) : (lnL n qs os).getD a 0 = (lnF (symC (clP qs)) os n a : Nat) := fnL_get ha
include hk ho
theorem lnL_isF : isF n (lnL n qs os) = true := by
  have hn := hk.rng
  have ho0 := ho
  unfold isF
  rw [lnL_len, decide_eq_true rfl, Bool.true_and, Bool.not_eq_true', List.any_eq_false]
  intro z hz
  obtain ⟨a, ha, rfl⟩ := List.mem_map.1 hz
  have := lnF_bd (cl := symC (clP qs)) (os := os) (Nat.le_refl n) a
  have h3 : 0 ≤ ((lnF (symC (clP qs)) os n a : Nat) : Int) ∧ ((lnF (symC (clP qs)) os n a : Nat) : Int) ≤ 1000 := by omega
  show ¬ (!decide (0 ≤ ((lnF (symC (clP qs)) os n a : Nat) : Int) ∧ ((lnF (symC (clP qs)) os n a : Nat) : Int) ≤ 1000)) = true
  rw [decide_eq_true h3]; simp
theorem lnL_rgt : rgtP qs (lnL n qs os) = true := by
  rw [rgtP_iff]
  intro a b hab e
  have h1 := hk.ok _ hab
  simp only at h1
  rw [lnL_get (by omega), lnL_get (by omega)] at e
  have ht : os.take n = os := by rw [List.take_of_length_le (by rw [ho.1]; exact Nat.le_refl _)]
  refine lnF_right (cl := symC (clP qs)) ho (fun a b => symC_sym _ a b) (symC_irr _) (Nat.le_refl n) a ?_ b ?_ ?_ (by omega)
  · rw [ht]; exact ho.mem (by omega)
  · rw [ht]; exact ho.mem (by omega)
  · rw [symC_lt _ h1.1]; exact clP_iff.2 hab
end
/-! The kinds by their skips. -/
def byC (f : List Nat) (n c : Nat) : List Nat := (List.range n).filter fun a => decide (f.getD a 0 = c)
def byL (f : List Nat) (n c : Nat) : List Nat := (List.range c).flatMap (byC f n)
theorem byC_succ (f : List Nat) (n c : Nat) : byC f (n + 1) c = byC f n c ++ if f.getD n 0 = c then [n] else [] := by
  unfold byC
  rw [List.range_succ, List.filter_append]
  congr 1
  by_cases h : f.getD n 0 = c
  · rw [if_pos h, List.filter_cons, if_pos (decide_eq_true h)]; rfl
  · rw [if_neg h, List.filter_cons, if_neg (by rw [decide_eq_false h]; simp)]; rfl
theorem byL_succ (f : List Nat) (n c : Nat) : byL f n (c + 1) = byL f n c ++ byC f n c := by simp [byL, List.range_succ, List.flatMap_append]
theorem byL_mem {f : List Nat} {n c a : Nat} : a ∈ byL f n c ↔ a < n ∧ f.getD a 0 < c := by
  unfold byL byC
  simp only [List.mem_flatMap, List.mem_filter, List.mem_range, decide_eq_true_iff]
  constructor
  · rintro ⟨x, h1, h2, h3⟩; exact ⟨h2, by omega⟩
  · rintro ⟨h1, h2⟩; exact ⟨_, h2, h1, rfl⟩
theorem byL_nodup (f : List Nat) (n c : Nat) : (byL f n c).Nodup := by
  unfold byL
  rw [List.nodup_iff_pairwise_ne, List.pairwise_flatMap]
  refine ⟨fun x _ => (List.nodup_iff_pairwise_ne.1 (List.nodup_range (n := n))).filter _, ?_⟩
  refine (List.nodup_iff_pairwise_ne.1 (List.nodup_range (n := c))).imp fun hne p hp q hq e => hne ?_
  unfold byC at hp hq
  have h1 := (List.mem_filter.1 hp).2
  have h2 := (List.mem_filter.1 hq).2
  simp only [decide_eq_true_iff] at h1 h2
  rw [← h1, ← h2, e]
theorem byL_sorted (f : List Nat) (n c : Nat) : (byL f n c).Pairwise fun a b => f.getD a 0 ≤ f.getD b 0 := by
  unfold byL
  rw [List.pairwise_flatMap]
  refine ⟨fun x _ => ?_, ?_⟩
  · refine (List.nodup_iff_pairwise_ne.1 (List.nodup_range (n := n))).filter _ |>.imp_of_mem fun {a b} ha hb _ => ?_
    have h1 := (List.mem_filter.1 ha).2
    have h2 := (List.mem_filter.1 hb).2
    simp only [decide_eq_true_iff] at h1 h2
    omega
  · refine (List.pairwise_lt_range (n := c)).imp fun hab p hp q hq => ?_
    have h1 := (List.mem_filter.1 hp).2
    have h2 := (List.mem_filter.1 hq).2
    simp only [decide_eq_true_iff] at h1 h2
    omega
theorem byL_len (f : List Nat) (n c : Nat) : (byL f n c).length ≤ n := by
  have := nodup_len (byL_nodup f n c) (m := List.range n) fun a ha => List.mem_range.2 (byL_mem.1 ha).1
  rwa [List.length_range] at this
theorem byL_ord {f : List Nat} {n c : Nat} (h : ∀ a, a < n → f.getD a 0 < c) : Ord n (byL f n c) := by
  refine ⟨?_, fun a ha => (byL_mem.1 ha).1, byL_nodup f n c⟩
  have h1 := byL_len f n c
  have h2 := nodup_len (List.nodup_range (n := n)) (m := byL f n c) fun a ha => byL_mem.2 ⟨List.mem_range.1 ha, h a (List.mem_range.1 ha)⟩
  rw [List.length_range] at h2; omega
/-- The kinds by their skips make a filling that has as few. -/
theorem by_few {n k : Nat} {qs : List (Nat × Nat)} (hk : Knd n qs) (hi : ∀ x, (∃ f : List Nat, f.length = n ∧ (∀ s ∈ f, s < x) ∧ rgt (clP qs) f) ↔ k ≤ x) {f : List Nat} (e1 : f.length = n) (e2 : ∀ s ∈ f, s < k) (e3 : rgt (clP qs) f) : Ord n (byL f n k) ∧ usd (lnL n qs (byL f n k)) = k := by
  have hf : ∀ a, a < n → f.getD a 0 < k := fun a ha => e2 _ (by rw [List.getD_eq_getElem?_getD, List.getElem?_eq_getElem (by omega)]; exact List.getElem_mem _)
  have ho := byL_ord (c := k) hf
  refine ⟨ho, Nat.le_antisymm (usd_le fun z hz => ?_) (usd_ge hk hi (lnL_len _ _ _) (lnL_rgt hk ho))⟩
  obtain ⟨a, ha, rfl⟩ := List.mem_map.1 hz
  have ha := List.mem_range.1 ha
  have ht : (byL f n k).take n = byL f n k := by rw [List.take_of_length_le (by rw [ho.1]; exact Nat.le_refl _)]
  have := lnF_low (cl := symC (clP qs)) ho (g := fun a => f.getD a 0) (fun a b ha hb hc => by
    rcases Nat.lt_trichotomy a b with h | h | h
    · rw [symC_lt _ h] at hc; exact e3 a b h (by omega) hc
    · rw [h, symC_irr] at hc; cases hc
    · rw [symC_sym, symC_lt _ h] at hc; exact fun e => e3 b a h (by omega) hc e.symm) (byL_sorted f n k) (Nat.le_refl n) a (by rw [ht]; exact ho.mem ha)
  have := hf a ha
  omega
end Go.Proofs.YtijnimgmpocmaaaDoor

