/- General words on memory that the walks of this seat use: reading of slices, what a call keeps. -/
import Derived.Test.YtnafllhgjidbkaaRows
import Derived.WalkKit
import Derived.WalkSpells
import Derived.WalkLawsBesides
import Derived.Deep.QuietTactic
import Derived.BigQuiet
import Derived.Lib.Hide
import Derived.OwnWalk
namespace Go.Proofs.Ytnafllhgjidbkaa
open Go.RowKit

/-- The cells of a slice that begins at ao read as a list; they lie in blocks that there are. -/
def CellsAt (w : World) (ao : Option Addr) (cs : List Value) : Prop :=
  cs ≠ [] → ∃ b off, ao = some ⟨b, off, none⟩ ∧ b < w.heap.size ∧ ∀ i, i < cs.length → w.cell? ⟨b, off + i, none⟩ = some (cs.getD i undef)

def IntsAt (w : World) (ao : Option Addr) (l : List Int) : Prop := CellsAt w ao (l.map (Value.int .i64))
def BoolsAt (w : World) (ao : Option Addr) (l : List Bool) : Prop := CellsAt w ao (l.map Value.bool)

theorem CellsAt.below {w w' : World} {ao : Option Addr} {cs : List Value} (h : CellsAt w ao cs) {B : Nat} (hB : w.heap.size ≤ B) (hb : Below B w w') : CellsAt w' ao cs := by
  intro hne
  obtain ⟨b, off, rfl, hlt, hc⟩ := h hne
  exact ⟨b, off, rfl, Nat.lt_of_lt_of_le hlt hb.size, fun i hi => (hb.cell (p := ⟨b, off + i, none⟩) (by show b < B; omega)).trans (hc i hi)⟩

theorem IntsAt.below {w w' : World} {ao : Option Addr} {l : List Int} (h : IntsAt w ao l) {B : Nat} (hB : w.heap.size ≤ B) (hb : Below B w w') : IntsAt w' ao l := CellsAt.below h hB hb
theorem BoolsAt.below {w w' : World} {ao : Option Addr} {l : List Bool} (h : BoolsAt w ao l) {B : Nat} (hB : w.heap.size ≤ B) (hb : Below B w w') : BoolsAt w' ao l := CellsAt.below h hB hb

theorem IntsAt.get {w : World} {ao : Option Addr} {l : List Int} (h : IntsAt w ao l) {k : Nat} (hk : k < l.length) :
    ∃ b off, ao = some ⟨b, off, none⟩ ∧ b < w.heap.size ∧ w.cell? ⟨b, off + k, none⟩ = some (.int .i64 (l.getD k 0)) := by
  obtain ⟨b, off, e, hb, hc⟩ := h (by intro e; have := congrArg List.length e; simp at this; subst this; simp at hk)
  refine ⟨b, off, e, hb, (hc k (by simpa using hk)).trans ?_⟩
  simp [List.getD_eq_getElem?_getD, List.getElem?_eq_getElem hk]
theorem BoolsAt.get {w : World} {ao : Option Addr} {l : List Bool} (h : BoolsAt w ao l) {k : Nat} (hk : k < l.length) :
    ∃ b off, ao = some ⟨b, off, none⟩ ∧ b < w.heap.size ∧ w.cell? ⟨b, off + k, none⟩ = some (.bool (l.getD k false)) := by
  obtain ⟨b, off, e, hb, hc⟩ := h (by intro e; have := congrArg List.length e; simp at this; subst this; simp at hk)
  refine ⟨b, off, e, hb, (hc k (by simpa using hk)).trans ?_⟩
  simp [List.getD_eq_getElem?_getD, List.getElem?_eq_getElem hk]

/-- A list of arrays of five numbers. -/
abbrev Five := Int × Int × Int × Int × Int
def Five.cells (x : Five) : List Value := [.int .i64 x.1, .int .i64 x.2.1, .int .i64 x.2.2.1, .int .i64 x.2.2.2.1, .int .i64 x.2.2.2.2]
def FivesAt (w : World) (ao : Option Addr) (l : List Five) : Prop := CellsAt w ao (l.flatMap Five.cells)
theorem FivesAt.below {w w' : World} {ao : Option Addr} {l : List Five} (h : FivesAt w ao l) {B : Nat} (hB : w.heap.size ≤ B) (hb : Below B w w') : FivesAt w' ao l := CellsAt.below h hB hb

theorem flat_len (l : List Five) : (l.flatMap Five.cells).length = 5 * l.length := by
  induction l with
  | nil => rfl
  | cons x l ih => simp [List.flatMap_cons, ih, Five.cells]; omega
theorem flat_get (l : List Five) : ∀ (k j : Nat), k < l.length → j < 5 → (l.flatMap Five.cells).getD (k * 5 + j) undef = (Five.cells (l.getD k (0,0,0,0,0))).getD j undef := by
  induction l with
  | nil => intro k j hk; simp at hk
  | cons x l ih =>
    intro k j hk hj
    cases k with
    | zero =>
      have : j < (Five.cells x).length := by simpa [Five.cells] using hj
      simp only [List.flatMap_cons, Nat.zero_mul, Nat.zero_add, List.getD_eq_getElem?_getD, List.getElem?_append_left this]
      rfl
    | succ k =>
      have h5 : (Five.cells x).length = 5 := rfl
      have : (k + 1) * 5 + j = (Five.cells x).length + (k * 5 + j) := by rw [h5]; omega
      rw [List.flatMap_cons, this, List.getD_eq_getElem?_getD, List.getElem?_append_right (by omega), Nat.add_sub_cancel_left, ← List.getD_eq_getElem?_getD, ih k j (by simpa using hk) hj]
      rfl
theorem FivesAt.get {w : World} {ao : Option Addr} {l : List Five} (h : FivesAt w ao l) {k : Nat} (hk : k < l.length) :
    ∃ b off, ao = some ⟨b, off, none⟩ ∧ b < w.heap.size ∧ ∀ j, j < 5 → w.cell? ⟨b, off + (k * 5 + j), none⟩ = some ((Five.cells (l.getD k (0,0,0,0,0))).getD j undef) := by
  obtain ⟨b, off, e, hb, hc⟩ := h (by intro e; have := congrArg List.length e; rw [flat_len] at this; simp only [List.length_nil] at this; omega)
  refine ⟨b, off, e, hb, fun j hj => (hc _ (by rw [flat_len]; omega)).trans ?_⟩
  rw [flat_get l k j hk hj]

theorem FivesAt.get5 {w : World} {ao : Option Addr} {l : List Five} (h : FivesAt w ao l) {k : Nat} (hk : k < l.length) :
    ∃ b off x0 x1 x2 x3 x4, ao = some ⟨b, off, none⟩ ∧ b < w.heap.size ∧ Hid (l.getD k (0,0,0,0,0) = (x0, x1, x2, x3, x4)) ∧
      w.cell? ⟨b, off + k * 5, none⟩ = some (.int .i64 x0) ∧ w.cell? ⟨b, off + k * 5 + 1, none⟩ = some (.int .i64 x1) ∧ w.cell? ⟨b, off + k * 5 + 2, none⟩ = some (.int .i64 x2) ∧
      w.cell? ⟨b, off + k * 5 + 3, none⟩ = some (.int .i64 x3) ∧ w.cell? ⟨b, off + k * 5 + 4, none⟩ = some (.int .i64 x4) := by
  obtain ⟨b, off, e, hb, hc⟩ := h.get hk
  refine ⟨b, off, (l.getD k (0,0,0,0,0)).1, (l.getD k (0,0,0,0,0)).2.1, (l.getD k (0,0,0,0,0)).2.2.1, (l.getD k (0,0,0,0,0)).2.2.2.1, (l.getD k (0,0,0,0,0)).2.2.2.2, e, hb, rfl, ?_, ?_, ?_, ?_, ?_⟩
  · exact hc 0 (by omega)
  · exact hc 1 (by omega)
  · exact hc 2 (by omega)
  · exact hc 3 (by omega)
  · exact hc 4 (by omega)

theorem index5_0 (x0 x1 x2 x3 x4 : Int) (w : World) : (Instr.index 74 (.agg #[.int .i64 x0, .int .i64 x1, .int .i64 x2, .int .i64 x3, .int .i64 x4]) (.int .i64 ((0 : Nat) : Int))).run Try.prog w = .ok (.int .i64 x0) w := by kernel_rfl
theorem index5_1 (x0 x1 x2 x3 x4 : Int) (w : World) : (Instr.index 74 (.agg #[.int .i64 x0, .int .i64 x1, .int .i64 x2, .int .i64 x3, .int .i64 x4]) (.int .i64 ((1 : Nat) : Int))).run Try.prog w = .ok (.int .i64 x1) w := by kernel_rfl
theorem index5_2 (x0 x1 x2 x3 x4 : Int) (w : World) : (Instr.index 74 (.agg #[.int .i64 x0, .int .i64 x1, .int .i64 x2, .int .i64 x3, .int .i64 x4]) (.int .i64 ((2 : Nat) : Int))).run Try.prog w = .ok (.int .i64 x2) w := by kernel_rfl
theorem index5_3 (x0 x1 x2 x3 x4 : Int) (w : World) : (Instr.index 74 (.agg #[.int .i64 x0, .int .i64 x1, .int .i64 x2, .int .i64 x3, .int .i64 x4]) (.int .i64 ((3 : Nat) : Int))).run Try.prog w = .ok (.int .i64 x3) w := by kernel_rfl
theorem index5_4 (x0 x1 x2 x3 x4 : Int) (w : World) : (Instr.index 74 (.agg #[.int .i64 x0, .int .i64 x1, .int .i64 x2, .int .i64 x3, .int .i64 x4]) (.int .i64 ((4 : Nat) : Int))).run Try.prog w = .ok (.int .i64 x4) w := by kernel_rfl
theorem index5 (x0 x1 x2 x3 x4 : Int) (j : Nat) (hj : j < 5) (y : Int) (hy : [x0, x1, x2, x3, x4].getD j 0 = y) (w : World) :
    (Instr.index 74 (.agg #[.int .i64 x0, .int .i64 x1, .int .i64 x2, .int .i64 x3, .int .i64 x4]) (.int .i64 (j : Int))).run Try.prog w = .ok (.int .i64 y) w := by
  subst hy
  match j, hj with
  | 0, _ => exact index5_0 ..
  | 1, _ => exact index5_1 ..
  | 2, _ => exact index5_2 ..
  | 3, _ => exact index5_3 ..
  | 4, _ => exact index5_4 ..

/-- What a call keeps, spelt for the walk. -/
theorem bcell {B : Nat} {W w1 : World} (hb : Below B W w1) : (∀ b o, b < B → w1.cell? ⟨b, o, none⟩ = W.cell? ⟨b, o, none⟩) ∧ (∀ b o, b < B → w1.frozen? ⟨b, o, none⟩ = W.frozen? ⟨b, o, none⟩) :=
  ⟨fun b o h => hb.cell (p := ⟨b, o, none⟩) h, fun b o h => hb.frozen (p := ⟨b, o, none⟩) h⟩

/-- The worlds that come behind w: nothing that was there has turned. -/
structure Aft (w : World) where
  val : World
  bel : Below w.heap.size w val
instance (w : World) : Nonempty (Aft w) := ⟨⟨w, Below.refl _ w⟩⟩
instance (w : World) : Inhabited (Aft w) := ⟨⟨w, Below.refl _ w⟩⟩
/-- A region that draws its order, whose operations read, reckon, and call functions that make memory of their own alone: one walk in the text's order. -/
theorem wp_region_aft {P : Program} {id : Nat} {Q : Exit → Act → World → Prop} {a : Act} {w : World} {l : List Oper} (hm : P.follows .mixedOrders = true) (hB : Region.lexB .any l.toArray = true)
    (h : wpQuiet P l.toArray (fun w' => ∃ x : Aft w, w' = x.val) (fun a' => ∀ w', (∃ x : Aft w, w' = x.val) → Q .normal a' w') l a) : (Code.region id l.toArray true).wp P Q a w :=
  wp_region_quiet (C := fun w' => ∃ x : Aft w, w' = x.val) hm hB ⟨⟨_, (Below.refl _ w).drew⟩, rfl⟩ (by simpa using h)
/-- A callee's contract, met in such a world. -/
theorem Calls.aft {P : Program} {f : FuncId} {args : Array Value} {w : World} {x : Aft w} {v : Value}
    (h : Calls P f args x.val fun e w' => e = .returned v ∧ Below x.val.heap.size x.val w') : Calls P f args x.val fun e w'' => e = .returned v ∧ ∃ y : Aft w, w'' = y.val :=
  h.mono fun _ W ⟨he, hb⟩ => ⟨he, ⟨W, x.bel.trans (hb.mono x.bel.size)⟩, rfl⟩
theorem Calls.aft_same {P : Program} {f : FuncId} {args : Array Value} {w : World} {x : Aft w} {v : Value}
    (h : Calls P f args x.val fun e w' => e = .returned v ∧ x.val = w') : Calls P f args x.val fun e w'' => e = .returned v ∧ ∃ y : Aft w, w'' = y.val :=
  h.mono fun _ _ ⟨he, hb⟩ => ⟨he, x, hb.symm⟩
@[go_sem] theorem Aft.cell_eq {w : World} (x : Aft w) {b o : Nat} (hb : b < w.heap.size) : x.val.cell? ⟨b, o, none⟩ = w.cell? ⟨b, o, none⟩ := x.bel.cell (p := ⟨b, o, none⟩) hb
@[go_sem] theorem Aft.frozen_eq {w : World} (x : Aft w) {b o : Nat} (hb : b < w.heap.size) : x.val.frozen? ⟨b, o, none⟩ = w.frozen? ⟨b, o, none⟩ := x.bel.frozen (p := ⟨b, o, none⟩) hb

theorem ret_int {k : IntKind} {a b : Int} (h : a = b) : Ending.returned (.int k a) = .returned (.int k b) := by rw [h]
theorem ret_bool {a b : Bool} (h : a = b) : Ending.returned (.bool a) = .returned (.bool b) := by rw [h]

end Go.Proofs.Ytnafllhgjidbkaa
