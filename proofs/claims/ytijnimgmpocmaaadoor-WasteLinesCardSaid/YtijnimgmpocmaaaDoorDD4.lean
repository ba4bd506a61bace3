/- Texts of the proof, part 4: Tab, C0, P1, P2, P3, P4, P5, P6, P7, P8, P9, P10, P11, P12, P13, P14, P15, P16, W1, W2, Z1, C1, W3, W4, C2. -/
import Derived.Test.YtijnimgmpocmaaaDoorDD3
import Derived.WalkKit
import Derived.Below
import Derived.Lib.TrailingZeros
import Derived.Laws.OwnMore
import Derived.Maps.AppendAt
import Derived.Laws.IdiomCopy
import Derived.Laws.CopyRow
import Derived.IntWalk
import Derived.StillTail
import Derived.Scope
import Derived.ChangeKeysEq
import Derived.Laws.Small
import Derived.OrdersIn
import Derived.TacticsIn
import Derived.OwnWalkIn
import Derived.RangeFuncNested
import Derived.RangeFuncLeaves
import Derived.RangeFuncRecord
import Derived.Maps.Keyed
import Derived.Maps.RangeRun
import Derived.DeepKeys4
import Derived.Test.YtijnimgmpocmaaaDoorRows
import Derived.KernelRfl
import Derived.Shelf.Spec.TrailingZeros
/- The types of the program, as the calculus reads them. -/
namespace Go.Proofs.YtijnimgmpocmaaaDoor
open Go.RowKit
def tab : List (Nat × TD) := [(3, ⟨1, 8, [.int .i64 0], .int .i64⟩),
  (4, ⟨1, 1, [.ff], .bool⟩),
  (5, ⟨1, 1, [.int .u8 0], .int .u8⟩),
  (22, ⟨1, 24, [.nil], .sl 59⟩),
  (24, ⟨2, 32, [.int .i64 0, .nil], .str [(0, 3), (1, 22)]⟩),
  (25, ⟨1, 24, [.nil], .sl 3⟩),
  (29, ⟨1, 8, [.int .i64 0], .int .i64⟩),
  (32, ⟨1, 24, [.nil], .sl 4⟩),
  (59, ⟨2, 16, [.int .i64 0, .int .i64 0], .arr 2 3⟩),
  (60, ⟨1, 24, [.nil], .sl 75⟩),
  (61, ⟨1, 24, [.nil], .sl 75⟩),
  (66, ⟨1, 8, [.v (.map none)], .map 59 4 (.arr 2) (.b false)⟩),
  (67, ⟨1, 24, [.nil], .sl 3⟩),
  (74, ⟨1, 8, [.int .u64 0], .int .u64⟩),
  (75, ⟨1, 8, [.int .u64 0], .int .u64⟩),
  (80, ⟨1, 8, [.v .nilFunc], .one⟩),
  (93, ⟨1, 8, [.v .nilFunc], .one⟩),
  (95, ⟨1, 8, [.v .nilFunc], .one⟩),
  (107, ⟨1, 8, [.v .nilFunc], .one⟩),
  (110, ⟨1, 4, [.int .u32 0], .int .u32⟩),
  (112, ⟨1, 8, [.int .u64 0], .int .u64⟩),
  (119, ⟨32, 32, [.int .u8 0, .int .u8 0, .int .u8 0, .int .u8 0, .int .u8 0, .int .u8 0, .int .u8 0, .int .u8 0, .int .u8 0, .int .u8 0, .int .u8 0, .int .u8 0, .int .u8 0, .int .u8 0, .int .u8 0, .int .u8 0, .int .u8 0, .int .u8 0, .int .u8 0, .int .u8 0, .int .u8 0, .int .u8 0, .int .u8 0, .int .u8 0, .int .u8 0, .int .u8 0, .int .u8 0, .int .u8 0, .int .u8 0, .int .u8 0, .int .u8 0, .int .u8 0], .arr 32 5⟩),
  (120, ⟨64, 64, [.int .u8 0, .int .u8 0, .int .u8 0, .int .u8 0, .int .u8 0, .int .u8 0, .int .u8 0, .int .u8 0, .int .u8 0, .int .u8 0, .int .u8 0, .int .u8 0, .int .u8 0, .int .u8 0, .int .u8 0, .int .u8 0, .int .u8 0, .int .u8 0, .int .u8 0, .int .u8 0, .int .u8 0, .int .u8 0, .int .u8 0, .int .u8 0, .int .u8 0, .int .u8 0, .int .u8 0, .int .u8 0, .int .u8 0, .int .u8 0, .int .u8 0, .int .u8 0, .int .u8 0, .int .u8 0, .int .u8 0, .int .u8 0, .int .u8 0, .int .u8 0, .int .u8 0, .int .u8 0, .int .u8 0, .int .u8 0, .int .u8 0, .int .u8 0, .int .u8 0, .int .u8 0, .int .u8 0, .int .u8 0, .int .u8 0, .int .u8 0, .int .u8 0, .int .u8 0, .int .u8 0, .int .u8 0, .int .u8 0, .int .u8 0, .int .u8 0, .int .u8 0, .int .u8 0, .int .u8 0, .int .u8 0, .int .u8 0, .int .u8 0, .int .u8 0], .arr 64 5⟩),
  (122, ⟨1, 8, [.int .i64 0], .int .i64⟩),
  (129, ⟨1, 8, [.int .u64 0], .int .u64⟩)]
theorem td3 : TDOK Tryd.prog 3 ⟨1, 8, [.int .i64 0], .int .i64⟩ := ⟨(Tryd.prog.info? 3).getD default, .int .i64 0, by kernel_rfl, by kernel_rfl, by kernel_rfl, by kernel_rfl, fun ρ => rfl, rfl, by simp [C.wf, Value.oneCell'], show Tryd.prog.underlying 3 = some (.int .i64) by kernel_rfl⟩
theorem td4 : TDOK Tryd.prog 4 ⟨1, 1, [.ff], .bool⟩ := ⟨(Tryd.prog.info? 4).getD default, .bool false, by kernel_rfl, by kernel_rfl, by kernel_rfl, by kernel_rfl, fun ρ => rfl, rfl, by simp [C.wf, Value.oneCell'], show Tryd.prog.underlying 4 = some (.bool) by kernel_rfl⟩
theorem td5 : TDOK Tryd.prog 5 ⟨1, 1, [.int .u8 0], .int .u8⟩ := ⟨(Tryd.prog.info? 5).getD default, .int .u8 0, by kernel_rfl, by kernel_rfl, by kernel_rfl, by kernel_rfl, fun ρ => rfl, rfl, by simp [C.wf, Value.oneCell'], show Tryd.prog.underlying 5 = some (.int .u8) by kernel_rfl⟩
theorem td22 : TDOK Tryd.prog 22 ⟨1, 24, [.nil], .sl 59⟩ := ⟨(Tryd.prog.info? 22).getD default, .slice none 0 0, by kernel_rfl, by kernel_rfl, by kernel_rfl, by kernel_rfl, fun ρ => rfl, rfl, by simp [C.wf, Value.oneCell'], show Tryd.prog.underlying 22 = some (.slice 59) by kernel_rfl⟩
theorem td24 : TDOK Tryd.prog 24 ⟨2, 32, [.int .i64 0, .nil], .str [(0, 3), (1, 22)]⟩ := ⟨(Tryd.prog.info? 24).getD default, .agg #[.int .i64 0, .slice none 0 0], by kernel_rfl, by kernel_rfl, by kernel_rfl, by kernel_rfl, fun ρ => rfl, rfl, by simp [C.wf, Value.oneCell'], ⟨(match Tryd.prog.underlying 24 with | some (.struct F) => F | _ => #[]), by kernel_rfl, by kernel_rfl, by kernel_rfl, by kernel_rfl⟩⟩
theorem td25 : TDOK Tryd.prog 25 ⟨1, 24, [.nil], .sl 3⟩ := ⟨(Tryd.prog.info? 25).getD default, .slice none 0 0, by kernel_rfl, by kernel_rfl, by kernel_rfl, by kernel_rfl, fun ρ => rfl, rfl, by simp [C.wf, Value.oneCell'], show Tryd.prog.underlying 25 = some (.slice 3) by kernel_rfl⟩
theorem td29 : TDOK Tryd.prog 29 ⟨1, 8, [.int .i64 0], .int .i64⟩ := ⟨(Tryd.prog.info? 29).getD default, .int .i64 0, by kernel_rfl, by kernel_rfl, by kernel_rfl, by kernel_rfl, fun ρ => rfl, rfl, by simp [C.wf, Value.oneCell'], show Tryd.prog.underlying 29 = some (.int .i64) by kernel_rfl⟩
theorem td32 : TDOK Tryd.prog 32 ⟨1, 24, [.nil], .sl 4⟩ := ⟨(Tryd.prog.info? 32).getD default, .slice none 0 0, by kernel_rfl, by kernel_rfl, by kernel_rfl, by kernel_rfl, fun ρ => rfl, rfl, by simp [C.wf, Value.oneCell'], show Tryd.prog.underlying 32 = some (.slice 4) by kernel_rfl⟩
theorem td59 : TDOK Tryd.prog 59 ⟨2, 16, [.int .i64 0, .int .i64 0], .arr 2 3⟩ := ⟨(Tryd.prog.info? 59).getD default, .agg #[.int .i64 0, .int .i64 0], by kernel_rfl, by kernel_rfl, by kernel_rfl, by kernel_rfl, fun ρ => rfl, rfl, by simp [C.wf, Value.oneCell'], show Tryd.prog.underlying 59 = some (.array 2 3) by kernel_rfl⟩
theorem td60 : TDOK Tryd.prog 60 ⟨1, 24, [.nil], .sl 75⟩ := ⟨(Tryd.prog.info? 60).getD default, .slice none 0 0, by kernel_rfl, by kernel_rfl, by kernel_rfl, by kernel_rfl, fun ρ => rfl, rfl, by simp [C.wf, Value.oneCell'], show Tryd.prog.underlying 60 = some (.slice 75) by kernel_rfl⟩
theorem td61 : TDOK Tryd.prog 61 ⟨1, 24, [.nil], .sl 75⟩ := ⟨(Tryd.prog.info? 61).getD default, .slice none 0 0, by kernel_rfl, by kernel_rfl, by kernel_rfl, by kernel_rfl, fun ρ => rfl, rfl, by simp [C.wf, Value.oneCell'], show Tryd.prog.underlying 61 = some (.slice 75) by kernel_rfl⟩
theorem td66 : TDOK Tryd.prog 66 ⟨1, 8, [.v (.map none)], .map 59 4 (.arr 2) (.b false)⟩ := ⟨(Tryd.prog.info? 66).getD default, .map none, by kernel_rfl, by kernel_rfl, by kernel_rfl, by kernel_rfl, fun ρ => rfl, rfl, by simp [C.wf, Value.oneCell'], ⟨by kernel_rfl, Go.Maps.Keyed.of_law (deep_law_laid (m := 3) (by kernel_rfl) (by omega) (by decide +kernel) (by kernel_rfl) (by kernel_rfl)), keyArr (e := 3) (by kernel_rfl) (by kernel_rfl) (by kernel_rfl) (by kernel_rfl) (by kernel_rfl) (by decide +kernel), (Tryd.prog.info? 4).getD default, by kernel_rfl, by kernel_rfl⟩⟩
theorem td67 : TDOK Tryd.prog 67 ⟨1, 24, [.nil], .sl 3⟩ := ⟨(Tryd.prog.info? 67).getD default, .slice none 0 0, by kernel_rfl, by kernel_rfl, by kernel_rfl, by kernel_rfl, fun ρ => rfl, rfl, by simp [C.wf, Value.oneCell'], show Tryd.prog.underlying 67 = some (.slice 3) by kernel_rfl⟩
theorem td74 : TDOK Tryd.prog 74 ⟨1, 8, [.int .u64 0], .int .u64⟩ := ⟨(Tryd.prog.info? 74).getD default, .int .u64 0, by kernel_rfl, by kernel_rfl, by kernel_rfl, by kernel_rfl, fun ρ => rfl, rfl, by simp [C.wf, Value.oneCell'], show Tryd.prog.underlying 74 = some (.int .u64) by kernel_rfl⟩
theorem td75 : TDOK Tryd.prog 75 ⟨1, 8, [.int .u64 0], .int .u64⟩ := ⟨(Tryd.prog.info? 75).getD default, .int .u64 0, by kernel_rfl, by kernel_rfl, by kernel_rfl, by kernel_rfl, fun ρ => rfl, rfl, by simp [C.wf, Value.oneCell'], show Tryd.prog.underlying 75 = some (.int .u64) by kernel_rfl⟩
theorem td80 : TDOK Tryd.prog 80 ⟨1, 8, [.v .nilFunc], .one⟩ := ⟨(Tryd.prog.info? 80).getD default, .nilFunc, by kernel_rfl, by kernel_rfl, by kernel_rfl, by kernel_rfl, fun ρ => rfl, rfl, by simp [C.wf, Value.oneCell'], ⟨(Tryd.prog.underlying 80).getD default, by kernel_rfl, by kernel_rfl⟩⟩
theorem td93 : TDOK Tryd.prog 93 ⟨1, 8, [.v .nilFunc], .one⟩ := ⟨(Tryd.prog.info? 93).getD default, .nilFunc, by kernel_rfl, by kernel_rfl, by kernel_rfl, by kernel_rfl, fun ρ => rfl, rfl, by simp [C.wf, Value.oneCell'], ⟨(Tryd.prog.underlying 93).getD default, by kernel_rfl, by kernel_rfl⟩⟩
theorem td95 : TDOK Tryd.prog 95 ⟨1, 8, [.v .nilFunc], .one⟩ := ⟨(Tryd.prog.info? 95).getD default, .nilFunc, by kernel_rfl, by kernel_rfl, by kernel_rfl, by kernel_rfl, fun ρ => rfl, rfl, by simp [C.wf, Value.oneCell'], ⟨(Tryd.prog.underlying 95).getD default, by kernel_rfl, by kernel_rfl⟩⟩
theorem td107 : TDOK Tryd.prog 107 ⟨1, 8, [.v .nilFunc], .one⟩ := ⟨(Tryd.prog.info? 107).getD default, .nilFunc, by kernel_rfl, by kernel_rfl, by kernel_rfl, by kernel_rfl, fun ρ => rfl, rfl, by simp [C.wf, Value.oneCell'], ⟨(Tryd.prog.underlying 107).getD default, by kernel_rfl, by kernel_rfl⟩⟩
theorem td110 : TDOK Tryd.prog 110 ⟨1, 4, [.int .u32 0], .int .u32⟩ := ⟨(Tryd.prog.info? 110).getD default, .int .u32 0, by kernel_rfl, by kernel_rfl, by kernel_rfl, by kernel_rfl, fun ρ => rfl, rfl, by simp [C.wf, Value.oneCell'], show Tryd.prog.underlying 110 = some (.int .u32) by kernel_rfl⟩
theorem td112 : TDOK Tryd.prog 112 ⟨1, 8, [.int .u64 0], .int .u64⟩ := ⟨(Tryd.prog.info? 112).getD default, .int .u64 0, by kernel_rfl, by kernel_rfl, by kernel_rfl, by kernel_rfl, fun ρ => rfl, rfl, by simp [C.wf, Value.oneCell'], show Tryd.prog.underlying 112 = some (.int .u64) by kernel_rfl⟩
theorem td119 : TDOK Tryd.prog 119 ⟨32, 32, [.int .u8 0, .int .u8 0, .int .u8 0, .int .u8 0, .int .u8 0, .int .u8 0, .int .u8 0, .int .u8 0, .int .u8 0, .int .u8 0, .int .u8 0, .int .u8 0, .int .u8 0, .int .u8 0, .int .u8 0, .int .u8 0, .int .u8 0, .int .u8 0, .int .u8 0, .int .u8 0, .int .u8 0, .int .u8 0, .int .u8 0, .int .u8 0, .int .u8 0, .int .u8 0, .int .u8 0, .int .u8 0, .int .u8 0, .int .u8 0, .int .u8 0, .int .u8 0], .arr 32 5⟩ := ⟨(Tryd.prog.info? 119).getD default, .agg #[.int .u8 0, .int .u8 0, .int .u8 0, .int .u8 0, .int .u8 0, .int .u8 0, .int .u8 0, .int .u8 0, .int .u8 0, .int .u8 0, .int .u8 0, .int .u8 0, .int .u8 0, .int .u8 0, .int .u8 0, .int .u8 0, .int .u8 0, .int .u8 0, .int .u8 0, .int .u8 0, .int .u8 0, .int .u8 0, .int .u8 0, .int .u8 0, .int .u8 0, .int .u8 0, .int .u8 0, .int .u8 0, .int .u8 0, .int .u8 0, .int .u8 0, .int .u8 0], by kernel_rfl, by kernel_rfl, by kernel_rfl, by kernel_rfl, fun ρ => rfl, rfl, by simp [C.wf, Value.oneCell'], show Tryd.prog.underlying 119 = some (.array 32 5) by kernel_rfl⟩
theorem td120 : TDOK Tryd.prog 120 ⟨64, 64, [.int .u8 0, .int .u8 0, .int .u8 0, .int .u8 0, .int .u8 0, .int .u8 0, .int .u8 0, .int .u8 0, .int .u8 0, .int .u8 0, .int .u8 0, .int .u8 0, .int .u8 0, .int .u8 0, .int .u8 0, .int .u8 0, .int .u8 0, .int .u8 0, .int .u8 0, .int .u8 0, .int .u8 0, .int .u8 0, .int .u8 0, .int .u8 0, .int .u8 0, .int .u8 0, .int .u8 0, .int .u8 0, .int .u8 0, .int .u8 0, .int .u8 0, .int .u8 0, .int .u8 0, .int .u8 0, .int .u8 0, .int .u8 0, .int .u8 0, .int .u8 0, .int .u8 0, .int .u8 0, .int .u8 0, .int .u8 0, .int .u8 0, .int .u8 0, .int .u8 0, .int .u8 0, .int .u8 0, .int .u8 0, .int .u8 0, .int .u8 0, .int .u8 0, .int .u8 0, .int .u8 0, .int .u8 0, .int .u8 0, .int .u8 0, .int .u8 0, .int .u8 0, .int .u8 0, .int .u8 0, .int .u8 0, .int .u8 0, .int .u8 0, .int .u8 0], .arr 64 5⟩ := ⟨(Tryd.prog.info? 120).getD default, .agg #[.int .u8 0, .int .u8 0, .int .u8 0, .int .u8 0, .int .u8 0, .int .u8 0, .int .u8 0, .int .u8 0, .int .u8 0, .int .u8 0, .int .u8 0, .int .u8 0, .int .u8 0, .int .u8 0, .int .u8 0, .int .u8 0, .int .u8 0, .int .u8 0, .int .u8 0, .int .u8 0, .int .u8 0, .int .u8 0, .int .u8 0, .int .u8 0, .int .u8 0, .int .u8 0, .int .u8 0, .int .u8 0, .int .u8 0, .int .u8 0, .int .u8 0, .int .u8 0, .int .u8 0, .int .u8 0, .int .u8 0, .int .u8 0, .int .u8 0, .int .u8 0, .int .u8 0, .int .u8 0, .int .u8 0, .int .u8 0, .int .u8 0, .int .u8 0, .int .u8 0, .int .u8 0, .int .u8 0, .int .u8 0, .int .u8 0, .int .u8 0, .int .u8 0, .int .u8 0, .int .u8 0, .int .u8 0, .int .u8 0, .int .u8 0, .int .u8 0, .int .u8 0, .int .u8 0, .int .u8 0, .int .u8 0, .int .u8 0, .int .u8 0, .int .u8 0], by kernel_rfl, by kernel_rfl, by kernel_rfl, by kernel_rfl, fun ρ => rfl, rfl, by simp [C.wf, Value.oneCell'], show Tryd.prog.underlying 120 = some (.array 64 5) by kernel_rfl⟩
theorem td122 : TDOK Tryd.prog 122 ⟨1, 8, [.int .i64 0], .int .i64⟩ := ⟨(Tryd.prog.info? 122).getD default, .int .i64 0, by kernel_rfl, by kernel_rfl, by kernel_rfl, by kernel_rfl, fun ρ => rfl, rfl, by simp [C.wf, Value.oneCell'], show Tryd.prog.underlying 122 = some (.int .i64) by kernel_rfl⟩
theorem td129 : TDOK Tryd.prog 129 ⟨1, 8, [.int .u64 0], .int .u64⟩ := ⟨(Tryd.prog.info? 129).getD default, .int .u64 0, by kernel_rfl, by kernel_rfl, by kernel_rfl, by kernel_rfl, fun ρ => rfl, rfl, by simp [C.wf, Value.oneCell'], show Tryd.prog.underlying 129 = some (.int .u64) by kernel_rfl⟩
theorem tok : TOK Tryd.prog tab := by
  intro p hp
  simp only [tab, List.mem_cons, List.not_mem_nil, or_false] at hp
  rcases hp with rfl | rfl | rfl | rfl | rfl | rfl | rfl | rfl | rfl | rfl | rfl | rfl | rfl | rfl | rfl | rfl | rfl | rfl | rfl | rfl | rfl | rfl | rfl | rfl | rfl
  · exact td3
  · exact td4
  · exact td5
  · exact td22
  · exact td24
  · exact td25
  · exact td29
  · exact td32
  · exact td59
  · exact td60
  · exact td61
  · exact td66
  · exact td67
  · exact td74
  · exact td75
  · exact td80
  · exact td93
  · exact td95
  · exact td107
  · exact td110
  · exact td112
  · exact td119
  · exact td120
  · exact td122
  · exact td129
theorem mixed : Tryd.prog.follows .mixedOrders = true := by kernel_rfl
end Go.Proofs.YtijnimgmpocmaaaDoor

/- Waste: lemmas of the calculus, for cells, rows and results (from boom). -/
namespace Go.Proofs.YtijnimgmpocmaaaDoor
open Go.RowKit
set_option linter.unusedVariables false
set_option linter.unusedSimpArgs false
theorem Tri.opq {P : Program} {n0 : Nat} {cx : Cx} {N na : Nat} {code : Code} {K : Kt} {s : S} {L : List E} {nx : Nat} (h : ∀ K' : Kt, (∀ e s L nx, K e s L nx → K' e s L nx) → Tri P n0 cx N na code K' s L nx) : Tri P n0 cx N na code K s L nx :=
  h K fun _ _ _ _ hk => hk
abbrev Cell := Int × Int
def cellC (l : List Cell) : List C := l.flatMap fun j => [C.i j.1, C.i j.2]
theorem cellC_cons (x : Cell) (l : List Cell) : cellC (x :: l) = C.i x.1 :: C.i x.2 :: cellC l := rfl
theorem cellC_len (l : List Cell) : (cellC l).length = 2 * l.length := by
  induction l with
  | nil => rfl
  | cons x l ih => simp only [cellC_cons, List.length_cons]; omega
theorem cellC_0 : ∀ {l : List Cell} {k : Nat}, k < l.length → (cellC l)[k * 2]? = some (C.i (l.getD k (0, 0)).1)
  | x :: l, 0, _ => rfl
  | x :: l, k + 1, h => by
    have := cellC_0 (l := l) (k := k) (by simpa using h)
    rw [cellC_cons, show (k + 1) * 2 = k * 2 + 1 + 1 by omega]
    simpa using this
theorem cellC_1 : ∀ {l : List Cell} {k : Nat}, k < l.length → (cellC l)[k * 2 + 1]? = some (C.i (l.getD k (0, 0)).2)
  | x :: l, 0, _ => rfl
  | x :: l, k + 1, h => by
    have := cellC_1 (l := l) (k := k) (by simpa using h)
    rw [cellC_cons, show (k + 1) * 2 + 1 = k * 2 + 1 + 1 + 1 by omega]
    simpa using this
theorem cellC_mem {l : List Cell} {c : C} (h : c ∈ cellC l) : ∃ n, c = C.i n := by
  simp only [cellC, List.mem_flatMap] at h
  obtain ⟨j, _, h⟩ := h
  simp only [List.mem_cons, List.not_mem_nil, or_false] at h
  rcases h with rfl | rfl <;> exact ⟨_, rfl⟩
theorem wf_cells (n : Nat) (l : List Cell) : ∀ c ∈ cellC l, c.wf n := fun c hc => by
  obtain ⟨n, rfl⟩ := cellC_mem hc; trivial
theorem chk_cells (p : Nat → Bool) (l : List Cell) : (cellC l).all (C.chk p) = true := List.all_eq_true.2 fun c hc => by
  obtain ⟨n, rfl⟩ := cellC_mem hc; rfl
theorem ren_cells (R : Rn) (l : List Cell) : seqO ((cellC l).map (C.ren R)) = some (cellC l) := seqO_fix fun c hc => by
  obtain ⟨n, rfl⟩ := cellC_mem hc; rfl
theorem cellT {l : List Cell} {k : Nat} {z : Int} (hz : z = k) (h : k < l.length) : takeC (cellC l) (mulS z.toNat 2) 2 = some [C.i (l.getD k (0, 0)).1, C.i (l.getD k (0, 0)).2] := by
  subst hz
  rw [mulS_eq]
  have h0 := cellC_0 h
  have h1 := cellC_1 h
  simp only [takeC, Int.toNat_natCast]
  rw [h0, h1]
theorem roE_none {R : Rn} {nx lab z : Nat} {L : List E} (hr : renL R lab = none) (h1 : lab < nx) : roE R nx L ⟨lab, .ro z, []⟩ := by
  refine ⟨h1, fun c hc => (by cases hc), ?_⟩
  show match renL R lab with | some l => _ | none => _
  rw [hr]
/-- The cell of an index. -/
def cellI (W : Int) (i : Int) : Cell := (i % W, i / W)
def cellsL (W : Int) (l : List Int) : List Cell := l.map (cellI W)
/-- A row of cells that has come about, or none. -/
def cellsX (l : List Cell) (v : V) (L : List E) : Prop := (l = [] ∧ v = V.c .nil) ∨ ∃ lab, v = V.c (.sl lab l.length) ∧ find L lab = some ⟨lab, .vec 59 2, cellC l⟩
/-- Memory that stays as it is. -/
theorem covL_same {nx : Nat} : ∀ {L L0 : List E}, (∀ e ∈ L, e.lab < nx ∧ ∀ c ∈ e.cs, c.wf nx) → (∀ e ∈ L, find L0 e.lab = some e) → covL [] nx L0 L
  | [], _, _, _ => trivial
  | e :: r, L0, h, hf => by
    refine ⟨covE_id (h e (by simp)).1 (h e (by simp)).2 ?_ rfl, covL_same (fun x hx => h x (by simp [hx])) (fun x hx => hf x (by simp [hx]))⟩
    exact hf e (by simp)
theorem find_self : ∀ {L : List E}, injB [] L = true → ∀ e ∈ L, find L e.lab = some e
  | [], _, e, he => by cases he
  | ⟨lab, kd, cs⟩ :: r, h, e, he => by
    rcases List.mem_cons.1 he with rfl | he
    · simp [find]
    · have hne : lab ≠ e.lab := fun hh => by
        have := injB_spec h ⟨lab, kd, cs⟩ (by simp) e (by simp [he]) (.inl hh.symm)
        simp only [injB, Bool.and_eq_true] at h
        have h1 := List.all_eq_true.1 h.1 e he
        simp only [Bool.and_eq_true] at h1
        rw [← hh] at h1; simp at h1
      have hb : Nat.beq lab e.lab = false := by
        cases hb : Nat.beq lab e.lab with
        | false => rfl
        | true => exact absurd (Nat.eq_of_beq_eq_true hb) hne
      rw [find, hb]
      simp only [injB, Bool.and_eq_true] at h
      exact find_self h.2 e he
theorem cov_refl {nx : Nat} {L : List E} (h : ∀ e ∈ L, e.lab < nx ∧ ∀ c ∈ e.cs, c.wf nx) (hi : injB [] L = true) : covL [] nx L L := covL_same h (find_self hi)
theorem renL_one (nx : Nat) (o : Option Nat) : renL [(nx, o)] nx = o := by simp [renL]
theorem inLab_one (nx : Nat) : inLab nx (nx + 1) nx = true := by simp [inLab, Nat.ble_eq, Nat.blt_eq]
/-- A label that a callee made, or one of those that came in with names known. -/
def inOr (ins : List (Nat × Nat)) (nx nx2 l : Nat) : Bool := inLab nx nx2 l || ins.any fun q => Nat.beq q.1 l
/-- A callee whose result may name what came in. -/
theorem CallK.mkIn {P : Program} {n0 : Nat} {f : FuncId} {vs vs' : List V} {Lc L : List E} {nac nx : Nat} {R : Rn} {K Q : V → List E → Nat → Prop} (hok : callB P f = true) (spec : Spec P f vs Lc nac Q) (hv : renVs R vs = some vs') (hvw : ∀ v ∈ vs, v.wf nac) (hL : roL R nac L Lc) (hLc : injB [] Lc = true)
    (ins : List (Nat × Nat)) (hins : ∀ q ∈ ins, q.2 < nac ∧ renL R q.2 = some q.1 ∧ q.1 < nx)
    (hQ : ∀ v L' nx', v.wf nx' → Q v L' nx' → ∃ v' new nx2 Rr, (nx ≤ nx2 ∧ v'.ren Rr = some v ∧ v'.chk (inOr ins nx nx2) = true ∧ covL Rr nx2 L' new ∧ injB Rr new = true ∧ (new.all fun e => inLab nx nx2 e.lab && !e.kd.isRo && e.cs.all (C.chk (inOr ins nx nx2))) = true ∧ ∀ q ∈ ins, renL Rr q.1 = some q.2) ∧ K v' new nx2) : CallK P n0 f vs' L nx K := by
  refine ⟨hok, fun ρ w hp hvw' => ?_⟩
  refine (callee_run spec hv hvw hL hLc hp).mono ?_
  rintro e w' ⟨v, ρ', L', nx', rfl, h1, h2, h3, h4, h5, h6⟩
  obtain ⟨v', new, nx2, Rr, ⟨hle, hv', hvc, hcov, hinj, hlc, hRr⟩, hK⟩ := hQ v L' nx' h2 h6
  have hin : ∀ {l : Nat}, inLab nx nx2 l = true → nx ≤ l ∧ l < nx2 := fun h => by
    simp only [inLab, Bool.and_eq_true] at h
    exact ⟨Nat.le_of_ble_eq_true h.1, Nat.le_of_ble_eq_true h.2⟩
  let ρ2 : Env := fun l => bif inLab nx nx2 l then renE Rr ρ' l else ρ l
  have hρ2 : ∀ l, inLab nx nx2 l = true → ρ2 l = renE Rr ρ' l := fun l hl => by simp only [ρ2, hl, cond_true]
  have hagr : Agr nx nx2 ρ ρ2 := fun l hl => by
    have : inLab nx nx2 l = false := by
      cases hb : inLab nx nx2 l with
      | false => rfl
      | true => exact absurd (hin hb) hl
    simp only [ρ2, this, cond_false]
  have hρ3 : ∀ l, inOr ins nx nx2 l = true → ρ2 l = renE Rr ρ' l := fun l hl => by
    simp only [inOr, Bool.or_eq_true] at hl
    rcases hl with hl | hl
    · exact hρ2 l hl
    · obtain ⟨q, hq, hql⟩ := List.any_eq_true.1 hl
      have hql' := Nat.eq_of_beq_eq_true hql
      subst hql'
      obtain ⟨g1, g2, g3⟩ := hins q hq
      have hno : ¬ (nx ≤ q.1 ∧ q.1 < nx2) := fun hh => by omega
      rw [hagr q.1 hno]
      have h7 := h3 q.2 g1
      simp only [renE, g2] at h7
      simp only [renE, hRr q hq, h7]
  have hlt3 : ∀ l, inOr ins nx nx2 l = true → l < nx2 := fun l hl => by
    simp only [inOr, Bool.or_eq_true] at hl
    rcases hl with hl | hl
    · exact (hin hl).2
    · obtain ⟨q, hq, hql⟩ := List.any_eq_true.1 hl
      have hql' := Nat.eq_of_beq_eq_true hql
      have := (hins q hq).2.2
      omega
  have hden : ∀ c : C, c.chk (inOr ins nx nx2) = true → c.den ρ2 = c.den (renE Rr ρ') := fun c hc => C.den_labs (q := fun l => inOr ins nx nx2 l = true) hρ3 (C.labs_of_chk (fun l hl => hl) hc)
  have hnew : ∀ e ∈ new, inLab nx nx2 e.lab = true ∧ e.kd.isRo = false ∧ ∀ c ∈ e.cs, c.chk (inOr ins nx nx2) = true := by
    intro e he
    have h := List.all_eq_true.1 hlc e he
    simp only [Bool.and_eq_true, Bool.not_eq_true'] at h
    exact ⟨h.1.1, h.1.2, fun c hc => List.all_eq_true.1 h.2 c hc⟩
  have hEn : ∀ e ∈ new, EOK w.heap.size ρ2 w' e ∧ ((∃ l e0, renL Rr e.lab = some l ∧ e0 ∈ L' ∧ e0.lab = l ∧ e0.kd = e.kd) ∨ renL Rr e.lab = none) := by
    intro e he
    obtain ⟨q1, q2, q3⟩ := hnew e he
    obtain ⟨g1, g2, g3⟩ := covL_mem hcov e he
    have hl2 : ρ2 e.lab = renE Rr ρ' e.lab := hρ2 _ q1
    have hc2 : e.cs.map (C.den ρ2) = e.cs.map (C.den (renE Rr ρ')) := List.map_congr_left fun c hc => hden c (q3 c hc)
    cases hr : renL Rr e.lab with
    | none =>
      rw [hr] at g3
      obtain ⟨g4, t, z, g5⟩ := g3
      refine ⟨?_, .inr rfl⟩
      obtain ⟨lab, kd, cs⟩ := e
      simp only at g4 g5 hr hl2
      subst g4 g5
      refine ⟨0, ?_⟩
      rw [hl2]
      have : (renE Rr ρ') lab = (none, 0) := by simp only [renE, hr]
      rw [this]
      exact rowO_nil w' _ t z
    | some l =>
      rw [hr] at g3
      obtain ⟨k, cs', g4, gk, g5⟩ := g3
      have hke : e.kd = k := by
        rcases gk with gk | ⟨z, gk, _⟩ | ⟨own, ks, f, gk⟩
        · exact gk
        · rw [gk] at q2; cases q2
        · rw [gk.2] at q2; cases q2
      subst hke
      have hm := find_mem g4
      have hok := h5.ok _ hm.1
      have hl : (renE Rr ρ') e.lab = ρ' l := by simp only [renE, hr]
      refine ⟨?_, .inl ⟨l, _, rfl, hm.1, rfl, rfl⟩⟩
      have hc := g5 ρ'
      obtain ⟨lab, kd, cs⟩ := e
      simp only at hok hl hc hl2 hc2 q2
      cases kd with
      | ro z => cases q2
      | own t => simp only [EOK] at hok ⊢; rw [hl2, hc2, hl, hc]; exact hok
      | vec t z => simp only [EOK] at hok ⊢; rw [hl2, hc2, hl, hc]; exact hok
      | obj o =>
        simp only [EOK] at hok ⊢; rw [hl2, hl]
        obtain ⟨b, e1, e2, e3, e4, e5⟩ := hok
        subst e5
        exact ⟨b, e1, e2, e3, e4, by simpa using hc⟩
      | mp own ks f =>
        simp only [EOK] at hok ⊢; rw [hl2, hl]
        obtain ⟨b, es, ck, e1, e2, e3, e4, e5⟩ := hok
        subst e5
        exact ⟨b, es, ck, e1, e2, e3, e4, by simpa using hc⟩
  refine ⟨v', new, nx2, ρ2, ?_, hle, ?_, hagr, h4, ?_, hK⟩
  · rw [V.den_labs (q := fun l => inOr ins nx nx2 l = true) hρ3 (V.labs_of_chk (fun l hl => hl) hvc), V.ren_den hv' ρ']
  · exact V.wf_of_ren hv' h2 hvc hlt3
  · refine ⟨fun e he => (hEn e he).1.base hp.base, fun e he => ⟨hin (hnew e he).1, (covL_mem hcov e he).2.1⟩, fun e he e' he' hl => injB_spec hinj e he e' he' (.inl hl), ?_, fun e he => .inl (fun b hb => (hEn e he).1.blk_ge (hnew e he).2.1 b hb)⟩
    intro e he e' he' hro hne hcs b hb hb'
    have hbl : ∀ x : E, x ∈ new → ∀ l, renL Rr x.lab = some l → blk ρ2 x.lab = blk ρ' l := fun x hx l hl => by simp only [blk]; rw [hρ2 _ (hnew x hx).1]; simp only [renE, hl]
    have hbn : ∀ x : E, x ∈ new → renL Rr x.lab = none → blk ρ2 x.lab = none := fun x hx hl => by simp only [blk]; rw [hρ2 _ (hnew x hx).1]; simp only [renE, hl]; rfl
    rcases (hEn e he).2 with ⟨l, e0, g1, g2, g3, g4⟩ | g1
    · rcases (hEn e' he').2 with ⟨l', e0', k1, k2, k3, k4⟩ | k1
      · rw [hbl e he l g1, ← g3] at hb
        rw [hbl e' he' l' k1, ← k3] at hb'
        refine h5.apart e0 g2 e0' k2 (by rw [g4]; exact hro) ?_ (fun hr0 => (Kd.ro_fl (by rw [k4]; exact (hnew e' he').2.1) hr0).elim) b hb hb'
        intro heq
        have := injB_spec hinj e he e' he' (.inr ⟨l, g1, by rw [k1, ← k3, heq, g3]⟩)
        exact hne (by rw [this])
      · rw [hbn e' he' k1] at hb'; cases hb'
    · rw [hbn e he g1] at hb; cases hb
theorem nd_t {p : Prop} [Decidable p] (h : ¬ p) : (!decide p) = true := by simp [h]
theorem nd_f {p : Prop} [Decidable p] (h : p) : (!decide p) = false := by simp [h]
theorem dd_f {p : Prop} [Decidable p] (h : ¬ p) : decide p = false := decide_eq_false h
end Go.Proofs.YtijnimgmpocmaaaDoor

/- Waste, plain: falling powers; ways to put kinds into groups, and fillings. -/
namespace Go.Proofs.YtijnimgmpocmaaaDoor
open Go.RowKit
set_option linter.unusedVariables false
set_option linter.unusedSimpArgs false
def fallI (x : Int) : Nat → Int
  | 0 => 1
  | j + 1 => fallI x j * (x - j)
theorem fall_shift (x : Int) : ∀ j, fallI x (j + 1) = x * fallI (x - 1) j
  | 0 => by simp [fallI]
  | j + 1 => by
    have ih := fall_shift x j
    have h : fallI x (j + 1 + 1) = fallI x (j + 1) * (x - ((j + 1 : Nat) : Int)) := rfl
    have h2 : fallI (x - 1) (j + 1) = fallI (x - 1) j * (x - 1 - (j : Int)) := rfl
    rw [h, h2, ih, Int.mul_assoc]
    congr 2
    omega
theorem fall_zero {n j : Nat} (h : n < j) : fallI (n : Int) j = 0 := by
  induction j with
  | zero => omega
  | succ j ih =>
    simp only [fallI]
    by_cases hn : n < j
    · rw [ih hn]; simp
    · have : n = j := by omega
      subst this
      simp
theorem fall_pos (n : Nat) : ∀ j : Nat, j ≤ n → 0 < fallI (n : Int) j
  | 0, _ => by simp [fallI]
  | j + 1, h => by
    simp only [fallI]
    exact Int.mul_pos (fall_pos n j (by omega)) (by omega)
def sumN (f : Nat → Int) : Nat → Int
  | 0 => 0
  | n + 1 => sumN f n + f n
theorem sumN_congr {f g : Nat → Int} : ∀ {n}, (∀ i, i < n → f i = g i) → sumN f n = sumN g n
  | 0, _ => rfl
  | n + 1, h => by simp only [sumN]; rw [sumN_congr fun i hi => h i (by omega), h n (by omega)]
theorem sumN_zero {f : Nat → Int} {n : Nat} (h : ∀ i, i < n → f i = 0) : sumN f n = 0 := by
  induction n with
  | zero => rfl
  | succ n ih => simp only [sumN]; rw [ih fun i hi => h i (by omega), h n (by omega)]; rfl
theorem sumN_one {f : Nat → Int} {n j : Nat} (hj : j < n) (h : ∀ i, i < n → i ≠ j → f i = 0) : sumN f n = f j := by
  induction n with
  | zero => omega
  | succ n ih =>
    simp only [sumN]
    by_cases hn : j = n
    · subst hn
      rw [sumN_zero fun i hi => h i (by omega) (by omega)]; omega
    · rw [ih (by omega) fun i hi hne => h i (by omega) hne, h n (by omega) (by omega)]; omega
theorem sumN_add (f g : Nat → Int) : ∀ n, sumN (fun i => f i + g i) n = sumN f n + sumN g n
  | 0 => rfl
  | n + 1 => by simp only [sumN]; rw [sumN_add f g n]; omega
theorem sumN_mul (c : Int) (f : Nat → Int) : ∀ n, sumN (fun i => c * f i) n = c * sumN f n
  | 0 => by simp [sumN]
  | n + 1 => by simp only [sumN]; rw [sumN_mul c f n, Int.mul_add]
def apt (cl : Nat → Nat → Bool) (a : Nat) (g : List Nat) : Bool := g.all fun b => !cl a b
def addTo (G : List (List Nat)) (i a : Nat) : List (List Nat) := G.set i (a :: G.getD i [])
/-- Into how many ways the kinds are put one by one into groups of kinds apart, so that there are j of them. -/
def ways (cl : Nat → Nat → Bool) : List Nat → List (List Nat) → Nat → Int
  | [], G, j => if G.length = j then 1 else 0
  | a :: r, G, j => sumN (fun i => if apt cl a (G.getD i []) = true then ways cl r (addTo G i a) j else 0) G.length + ways cl r (G ++ [[a]]) j
/-- How many fillings go on from here: C: the skips of the groups G. -/
def cntC (cl : Nat → Nat → Bool) (x : Nat) : List Nat → List Nat → List (List Nat) → Int
  | [], _, _ => 1
  | a :: r, C, G => sumN (fun s => if s ∈ C then (if apt cl a (G.getD (C.idxOf s) []) = true then cntC cl x r C (addTo G (C.idxOf s) a) else 0) else cntC cl x r (C ++ [s]) (G ++ [[a]])) x
theorem addTo_len (G : List (List Nat)) (i a : Nat) : (addTo G i a).length = G.length := by simp [addTo]
theorem ways_low (cl : Nat → Nat → Bool) : ∀ (r : List Nat) (G : List (List Nat)) {j : Nat}, j < G.length → ways cl r G j = 0
  | [], G, j, h => by simp only [ways]; rw [if_neg (by omega)]
  | a :: r, G, j, h => by
    simp only [ways]
    rw [sumN_zero fun i hi => by
      split
      · exact ways_low cl r _ (by rw [addTo_len]; exact h)
      · rfl, ways_low cl r _ (by simp; omega)]
    rfl
theorem ways_high (cl : Nat → Nat → Bool) : ∀ (r : List Nat) (G : List (List Nat)) {j : Nat}, G.length + r.length < j → ways cl r G j = 0
  | [], G, j, h => by simp only [ways]; rw [if_neg (by simp at h; omega)]
  | a :: r, G, j, h => by
    simp only [List.length_cons] at h
    simp only [ways]
    rw [sumN_zero fun i hi => by
      split
      · exact ways_high cl r _ (by rw [addTo_len]; omega)
      · rfl, ways_high cl r _ (by simp; omega)]
    rfl
theorem sumN_const (c : Int) : ∀ n : Nat, sumN (fun _ => c) n = (n : Int) * c
  | 0 => by simp [sumN]
  | n + 1 => by simp only [sumN]; rw [sumN_const c n, Int.natCast_add, Int.add_mul]; simp
theorem sumN_shift (f : Nat → Int) : ∀ n, sumN f (n + 1) = f 0 + sumN (fun i => f (i + 1)) n
  | 0 => by simp [sumN]
  | n + 1 => by
    have := sumN_shift f n
    have h1 : sumN f (n + 1 + 1) = sumN f (n + 1) + f (n + 1) := rfl
    have h2 : sumN (fun i => f (i + 1)) (n + 1) = sumN (fun i => f (i + 1)) n + f (n + 1) := rfl
    rw [h1, h2, this]; omega
theorem sum_mem {g : Nat → Int} {x : Nat} : ∀ {C : List Nat}, C.Nodup → (∀ c ∈ C, c < x) → sumN (fun s => if s ∈ C then g s else 0) x = sumN (fun i => g (C.getD i 0)) C.length
  | [], _, _ => by simp [sumN_zero]
  | c :: C, hd, hx => by
    obtain ⟨h1, h2⟩ := List.nodup_cons.1 hd
    have ih := sum_mem (g := g) h2 fun d hd => hx d (by simp [hd])
    have e : sumN (fun s => if s ∈ c :: C then g s else 0) x = sumN (fun s => (if s = c then g s else 0) + (if s ∈ C then g s else 0)) x := sumN_congr fun s _ => by
      by_cases hs : s = c
      · subst hs; simp [h1]
      · simp [hs]
    rw [e, sumN_add, ih, sumN_one (j := c) (hx c (by simp)) fun i _ hne => by simp [hne]]
    rw [List.length_cons, sumN_shift]
    simp
/-- What is told by the groups, or else by one number for all. -/
theorem sum_split {f : Nat → Int} {t : Int} {x : Nat} {C : List Nat} (hd : C.Nodup) (hx : ∀ c ∈ C, c < x) : sumN (fun s => if s ∈ C then f (C.idxOf s) else t) x = sumN f C.length + ((x : Int) - C.length) * t := by
  have h1 := sum_mem (g := fun s => f (C.idxOf s) - t) hd hx
  have e : sumN (fun s => if s ∈ C then f (C.idxOf s) else t) x = sumN (fun s => (if s ∈ C then f (C.idxOf s) - t else 0) + t) x := sumN_congr fun s _ => by
    by_cases hs : s ∈ C
    · simp [hs]
    · simp [hs]
  have e2 : sumN (fun i => f (C.idxOf (C.getD i 0)) - t) C.length = sumN (fun i => f i + (-1) * t) C.length := sumN_congr fun i hi => by
    have : C.idxOf (C.getD i 0) = i := by
      rw [List.getD_eq_getElem?_getD, List.getElem?_eq_getElem hi]
      exact List.Nodup.idxOf_getElem hd i hi
    rw [this]; omega
  rw [e, sumN_add, h1, e2, sumN_add, sumN_const, sumN_const, Int.sub_mul]
  have : ((C.length : Nat) : Int) * (-1 * t) = -(((C.length : Nat) : Int) * t) := by grind
  rw [this]; omega
theorem sumN_swap (f : Nat → Nat → Int) (m : Nat) : ∀ n, sumN (fun i => sumN (fun j => f i j) m) n = sumN (fun j => sumN (fun i => f i j) n) m
  | 0 => by simp only [sumN]; rw [sumN_zero fun _ _ => rfl]
  | n + 1 => by simp only [sumN]; rw [sumN_swap f m n, ← sumN_add]
theorem sumN_mulr (c : Int) (f : Nat → Int) (n : Nat) : sumN f n * c = sumN (fun i => f i * c) n := by
  rw [Int.mul_comm, ← sumN_mul]; exact sumN_congr fun i _ => Int.mul_comm _ _
/-- The fillings that go on are counted by the groups. -/
theorem cnt_ways (cl : Nat → Nat → Bool) (x : Nat) : ∀ (r C : List Nat) (G : List (List Nat)), C.Nodup → (∀ c ∈ C, c < x) → C.length = G.length →
    cntC cl x r C G = sumN (fun j => ways cl r G (G.length + j) * fallI ((x : Int) - G.length) j) (r.length + 1)
  | [], C, G, _, _, _ => by simp [cntC, sumN, ways, fallI]
  | a :: r, C, G, hd, hx, hl => by
    have hnew : ∀ s, s < x → s ∉ C → cntC cl x r (C ++ [s]) (G ++ [[a]]) = sumN (fun j => ways cl r (G ++ [[a]]) (G.length + 1 + j) * fallI ((x : Int) - G.length - 1) j) (r.length + 1) := by
      intro s hs hn
      have := cnt_ways cl x r (C ++ [s]) (G ++ [[a]]) (by
        rw [List.nodup_append]
        exact ⟨hd, by simp, fun y hy z hz e => by rw [List.mem_singleton.1 hz] at e; subst e; exact hn hy⟩) (fun c hc => by
        rcases List.mem_append.1 hc with hc | hc
        · exact hx c hc
        · rw [List.mem_singleton.1 hc]; exact hs) (by simp [hl])
      rw [this]
      simp only [List.length_append, List.length_cons, List.length_nil]
      exact sumN_congr fun j _ => by
        congr 2
        omega
    obtain ⟨t, ht⟩ : ∃ t, t = sumN (fun j => ways cl r (G ++ [[a]]) (G.length + 1 + j) * fallI ((x : Int) - G.length - 1) j) (r.length + 1) := ⟨_, rfl⟩
    have h1 : cntC cl x (a :: r) C G = sumN (fun s => if s ∈ C then (fun i => if apt cl a (G.getD i []) = true then cntC cl x r C (addTo G i a) else 0) (C.idxOf s) else t) x := by
      simp only [cntC]
      refine sumN_congr fun s hs => ?_
      by_cases hm : s ∈ C
      · rw [if_pos hm, if_pos hm]
      · rw [if_neg hm, if_neg hm, hnew s hs hm, ht]
    rw [h1, sum_split (f := fun i => if apt cl a (G.getD i []) = true then cntC cl x r C (addTo G i a) else 0) hd hx, hl]
    have h2 : sumN (fun i => if apt cl a (G.getD i []) = true then cntC cl x r C (addTo G i a) else 0) G.length =
        sumN (fun j => sumN (fun i => if apt cl a (G.getD i []) = true then ways cl r (addTo G i a) (G.length + j) else 0) G.length * fallI ((x : Int) - G.length) j) (r.length + 1) := by
      have e1 : sumN (fun i => if apt cl a (G.getD i []) = true then cntC cl x r C (addTo G i a) else 0) G.length = sumN (fun i => sumN (fun j => (if apt cl a (G.getD i []) = true then ways cl r (addTo G i a) (G.length + j) else 0) * fallI ((x : Int) - G.length) j) (r.length + 1)) G.length := sumN_congr fun i _ => by
        by_cases hap : apt cl a (G.getD i []) = true
        · rw [if_pos hap, cnt_ways cl x r C (addTo G i a) hd hx (by rw [addTo_len]; exact hl), addTo_len]
          exact sumN_congr fun j _ => by rw [if_pos hap]
        · rw [if_neg hap]
          exact (sumN_zero fun j _ => by rw [if_neg hap]; simp).symm
      rw [e1, sumN_swap]
      exact sumN_congr fun j _ => (sumN_mulr _ _ _).symm
    have h3 : ((x : Int) - (G.length : Nat)) * t = sumN (fun j => ways cl r (G ++ [[a]]) (G.length + j) * fallI ((x : Int) - G.length) j) (r.length + 1 + 1) := by
      rw [sumN_shift, ways_low cl r (G ++ [[a]]) (j := G.length + 0) (by simp), Int.zero_mul, Int.zero_add, ht, ← sumN_mul]
      exact sumN_congr fun j _ => by
        rw [fall_shift, show G.length + (j + 1) = G.length + 1 + j by omega]
        grind
    have h4 : sumN (fun j => sumN (fun i => if apt cl a (G.getD i []) = true then ways cl r (addTo G i a) (G.length + j) else 0) G.length * fallI ((x : Int) - G.length) j) (r.length + 1 + 1) = sumN (fun j => sumN (fun i => if apt cl a (G.getD i []) = true then ways cl r (addTo G i a) (G.length + j) else 0) G.length * fallI ((x : Int) - G.length) j) (r.length + 1) := by
      have : ∀ (f : Nat → Int) n, f n = 0 → sumN f (n + 1) = sumN f n := fun f n h => by simp only [sumN]; rw [h]; omega
      refine this _ _ ?_
      rw [sumN_zero fun i _ => by
        split
        · exact ways_high cl r _ (by rw [addTo_len]; omega)
        · rfl]
      simp
    rw [h2, h3, ← h4, ← sumN_add, List.length_cons]
    exact sumN_congr fun j _ => by
      simp only [ways]
      rw [Int.add_mul]
/-- The numbers of groups, and the fillings with so many skips. -/
def sig (cl : Nat → Nat → Bool) (l : List Nat) (j : Nat) : Int := ways cl l [] j
def chr (cl : Nat → Nat → Bool) (x : Nat) (l : List Nat) : Int := cntC cl x l [] []
theorem chr_sig (cl : Nat → Nat → Bool) (x : Nat) (l : List Nat) : chr cl x l = sumN (fun j => sig cl l j * fallI (x : Int) j) (l.length + 1) := by
  have := cnt_ways cl x l [] [] (by simp) (by simp) rfl
  simpa [chr, sig] using this
end Go.Proofs.YtijnimgmpocmaaaDoor

/- Waste, plain: fillings without a pair, with it, and of the joined kinds. -/
namespace Go.Proofs.YtijnimgmpocmaaaDoor
open Go.RowKit
set_option linter.unusedVariables false
set_option linter.unusedSimpArgs false
def sumAll (x : Nat) : Nat → (List Nat → Int) → Int
  | 0, h => h []
  | n + 1, h => sumN (fun s => sumAll x n fun f => h (s :: f)) x
theorem sumAll_congr {x : Nat} : ∀ {n : Nat} {h g : List Nat → Int}, (∀ f : List Nat, f.length = n → (∀ e ∈ f, e < x) → h f = g f) → sumAll x n h = sumAll x n g
  | 0, h, g, hh => hh [] rfl (by simp)
  | n + 1, h, g, hh => by
    simp only [sumAll]
    exact sumN_congr fun s hs => sumAll_congr fun f hf hx => hh (s :: f) (by simp [hf]) fun e he => by
      rcases List.mem_cons.1 he with rfl | he
      · exact hs
      · exact hx e he
/-- A filling is right. -/
def rgt (cl : Nat → Nat → Bool) (f : List Nat) : Prop := ∀ i j, i < j → j < f.length → cl i j = true → f.getD i 0 ≠ f.getD j 0
open Classical in
noncomputable def num (cl : Nat → Nat → Bool) (x n : Nat) : Int := sumAll x n fun f => if rgt cl f then 1 else 0
def cutP (cl : Nat → Nat → Bool) (u v : Nat) (i j : Nat) : Bool := cl i j && !(decide (i = u) && decide (j = v))
/-- The new name of a kind where v has become u. -/
def nam (u v a : Nat) : Nat := if a = v then u else if v < a then a - 1 else a
def joinP (cl : Nat → Nat → Bool) (n u v : Nat) (i j : Nat) : Bool := (List.range n).any fun a => (List.range n).any fun b => decide (a < b) && (cl a b && ((decide (nam u v a = i) && decide (nam u v b = j)) || (decide (nam u v a = j) && decide (nam u v b = i))))
end Go.Proofs.YtijnimgmpocmaaaDoor

/- Waste, plain: one skip more. -/
namespace Go.Proofs.YtijnimgmpocmaaaDoor
open Go.RowKit
set_option linter.unusedVariables false
set_option linter.unusedSimpArgs false
/-- Fillings that go on from some kinds that have their skips. -/
def okL (cl : Nat → Nat → Bool) (d : List (Nat × Nat)) (a s : Nat) : Bool := d.all fun p => !(decide (p.2 = s) && cl a p.1)
def cntF (cl : Nat → Nat → Bool) (x : Nat) : List Nat → List (Nat × Nat) → Int
  | [], _ => 1
  | a :: r, d => sumN (fun s => if okL cl d a s = true then cntF cl x r ((a, s) :: d) else 0) x
/-- The kinds apart that go with some, each with what is left. -/
def subs (cl : Nat → Nat → Bool) : List Nat → List Nat → List (List Nat × List Nat)
  | [], _ => [([], [])]
  | a :: r, h => (subs cl r h).map (fun p => (p.1, a :: p.2)) ++ (if apt cl a h = true then (subs cl r (a :: h)).map (fun p => (a :: p.1, p.2)) else [])
def sumL {α : Type} (l : List α) (f : α → Int) : Int := (l.map f).sum
theorem idxOf_getD {C : List Nat} {s : Nat} (h : s ∈ C) : C.idxOf s < C.length ∧ C.getD (C.idxOf s) 0 = s := by
  have h1 := List.idxOf_lt_length_iff.2 h
  refine ⟨h1, ?_⟩
  rw [List.getD_eq_getElem?_getD, List.getElem?_eq_getElem h1]
  exact List.getElem_idxOf h1
theorem getD_inj {C : List Nat} (hd : C.Nodup) {i j : Nat} (hi : i < C.length) (hj : j < C.length) (h : C.getD i 0 = C.getD j 0) : i = j := by
  rw [List.getD_eq_getElem?_getD, List.getD_eq_getElem?_getD, List.getElem?_eq_getElem hi, List.getElem?_eq_getElem hj] at h
  simp only [Option.getD_some] at h
  have h1 := List.Nodup.idxOf_getElem hd i hi
  have h2 := List.Nodup.idxOf_getElem hd j hj
  rw [← h1, h, h2]
theorem addTo_get (G : List (List Nat)) {i a : Nat} (hi : i < G.length) (k : Nat) : (addTo G i a).getD k [] = if k = i then a :: G.getD i [] else G.getD k [] := by
  unfold addTo
  simp only [List.getD_eq_getElem?_getD, List.getElem?_set]
  by_cases h : i = k
  · subst h; simp [hi]
  · rw [if_neg h, if_neg (fun e => h e.symm)]
/-- The fillings by groups are the fillings. -/
theorem cntC_F (cl : Nat → Nat → Bool) (x : Nat) : ∀ (r C : List Nat) (G : List (List Nat)) (d : List (Nat × Nat)), C.Nodup → C.length = G.length → (∀ p, p ∈ d ↔ ∃ i, i < C.length ∧ C.getD i 0 = p.2 ∧ p.1 ∈ G.getD i []) →
    cntC cl x r C G = cntF cl x r d
  | [], _, _, _, _, _, _ => rfl
  | a :: r, C, G, d, hd, hl, hm => by
    simp only [cntC, cntF]
    refine sumN_congr fun s hs => ?_
    by_cases hsC : s ∈ C
    · obtain ⟨h1, h2⟩ := idxOf_getD hsC
      rw [if_pos hsC]
      have hok : okL cl d a s = apt cl a (G.getD (C.idxOf s) []) := by
        unfold okL apt
        rw [Bool.eq_iff_iff, List.all_eq_true, List.all_eq_true]
        constructor
        · intro hh b hb
          have := hh (b, s) ((hm _).2 ⟨C.idxOf s, h1, h2, hb⟩)
          simpa using this
        · intro hh p hp
          obtain ⟨i, hi, hi2, hi3⟩ := (hm p).1 hp
          by_cases hps : p.2 = s
          · have : i = C.idxOf s := getD_inj hd hi h1 (by rw [hi2, h2, hps])
            subst this
            have := hh _ hi3
            simpa [hps] using this
          · simp [hps]
      rw [hok]
      by_cases hap : apt cl a (G.getD (C.idxOf s) []) = true
      · rw [if_pos hap, if_pos hap]
        refine cntC_F cl x r C (addTo G (C.idxOf s) a) ((a, s) :: d) hd (by rw [addTo_len]; exact hl) fun p => ?_
        rw [List.mem_cons, hm p]
        constructor
        · rintro (rfl | ⟨i, hi, hi2, hi3⟩)
          · exact ⟨C.idxOf s, h1, h2, by rw [addTo_get G (by omega), if_pos rfl]; simp⟩
          · refine ⟨i, hi, hi2, ?_⟩
            rw [addTo_get G (by omega)]
            split
            · rename_i e; subst e; exact List.mem_cons_of_mem _ hi3
            · exact hi3
        · rintro ⟨i, hi, hi2, hi3⟩
          rw [addTo_get G (by omega)] at hi3
          split at hi3
          · rename_i e
            subst e
            rcases List.mem_cons.1 hi3 with h4 | h4
            · exact .inl (Prod.ext h4 (by rw [← hi2, h2]))
            · exact .inr ⟨_, hi, hi2, h4⟩
          · exact .inr ⟨i, hi, hi2, hi3⟩
      · rw [if_neg hap, if_neg hap]
    · rw [if_neg hsC]
      have hok : okL cl d a s = true := by
        unfold okL
        rw [List.all_eq_true]
        intro p hp
        obtain ⟨i, hi, hi2, _⟩ := (hm p).1 hp
        have : p.2 ≠ s := fun e => hsC (by
          rw [← e, ← hi2, List.getD_eq_getElem?_getD, List.getElem?_eq_getElem hi]
          exact List.getElem_mem hi)
        simp [this]
      rw [if_pos hok]
      refine cntC_F cl x r (C ++ [s]) (G ++ [[a]]) ((a, s) :: d) (by
        rw [List.nodup_append]
        exact ⟨hd, by simp, fun y hy z hz e => by rw [List.mem_singleton.1 hz] at e; subst e; exact hsC hy⟩) (by simp [hl]) fun p => ?_
      rw [List.mem_cons, hm p]
      have ga : ∀ i, i < C.length → (C ++ [s]).getD i 0 = C.getD i 0 ∧ (G ++ [[a]]).getD i [] = G.getD i [] := fun i hi => by
        simp only [List.getD_eq_getElem?_getD]
        rw [List.getElem?_append_left hi, List.getElem?_append_left (by omega)]
        exact ⟨rfl, rfl⟩
      have gb : (C ++ [s]).getD C.length 0 = s ∧ (G ++ [[a]]).getD C.length [] = [a] := by
        simp only [List.getD_eq_getElem?_getD]
        rw [List.getElem?_append_right (by omega), List.getElem?_append_right (by omega)]
        simp [hl]
      constructor
      · rintro (rfl | ⟨i, hi, hi2, hi3⟩)
        · exact ⟨C.length, by simp, gb.1, by rw [gb.2]; simp⟩
        · exact ⟨i, by simp; omega, by rw [(ga i hi).1]; exact hi2, by rw [(ga i hi).2]; exact hi3⟩
      · rintro ⟨i, hi, hi2, hi3⟩
        simp only [List.length_append, List.length_cons, List.length_nil] at hi
        by_cases hil : i < C.length
        · rw [(ga i hil).1] at hi2
          rw [(ga i hil).2] at hi3
          exact .inr ⟨i, hil, hi2, hi3⟩
        · have : i = C.length := by omega
          subst this
          rw [gb.1] at hi2
          rw [gb.2] at hi3
          exact .inl (Prod.ext (List.mem_singleton.1 hi3) hi2.symm)
theorem chr_F (cl : Nat → Nat → Bool) (x : Nat) (l : List Nat) : chr cl x l = cntF cl x l [] := cntC_F cl x l [] [] [] (by simp) rfl (by simp)
end Go.Proofs.YtijnimgmpocmaaaDoor

/- Waste, plain: the polynomial at every integer. -/
namespace Go.Proofs.YtijnimgmpocmaaaDoor
open Go.RowKit
set_option linter.unusedVariables false
set_option linter.unusedSimpArgs false
/-- The polynomial, at every integer. -/
def polyI (cl : Nat → Nat → Bool) (l : List Nat) (x : Int) : Int := sumN (fun j => sig cl l j * fallI x j) (l.length + 1)
theorem poly_nat (cl : Nat → Nat → Bool) (l : List Nat) (x : Nat) : polyI cl l x = chr cl x l := (chr_sig cl x l).symm
theorem sig_high (cl : Nat → Nat → Bool) (l : List Nat) {j : Nat} (h : l.length < j) : sig cl l j = 0 := ways_high cl l [] (by simpa using h)
end Go.Proofs.YtijnimgmpocmaaaDoor

/- Waste, plain: orders of loading are the polynomial's value at -1. -/
namespace Go.Proofs.YtijnimgmpocmaaaDoor
open Go.RowKit
set_option linter.unusedVariables false
set_option linter.unusedSimpArgs false
def sgn (n : Nat) : Int := if n % 2 = 0 then 1 else -1
/-- How many orders of loading. -/
def ldg (cl : Nat → Nat → Bool) (l : List Nat) : Int := sgn l.length * polyI cl l (-1)
end Go.Proofs.YtijnimgmpocmaaaDoor

/- Waste, plain: fillings as lists; numbers that give the same fillings. -/
namespace Go.Proofs.YtijnimgmpocmaaaDoor
open Go.RowKit
set_option linter.unusedVariables false
set_option linter.unusedSimpArgs false
def Sym (cl : Nat → Nat → Bool) : Prop := ∀ i j, cl i j = cl j i
theorem sumAll_zero (x : Nat) : ∀ (n : Nat) (h : List Nat → Int), (∀ f, h f = 0) → sumAll x n h = 0
  | 0, h, hh => hh []
  | n + 1, h, hh => by simp only [sumAll]; exact sumN_zero fun s _ => sumAll_zero x n _ fun f => hh _
theorem app_get (p f : List Nat) (i : Nat) : (p ++ f).getD i 0 = if i < p.length then p.getD i 0 else f.getD (i - p.length) 0 := by
  simp only [List.getD_eq_getElem?_getD, List.getElem?_append]
  split <;> rfl
theorem rgt_pre {cl : Nat → Nat → Bool} {p f : List Nat} (h : rgt cl (p ++ f)) : rgt cl p := fun i j hij hj hc => by
  have := h i j hij (by simp; omega) hc
  rw [app_get, app_get, if_pos (by omega), if_pos hj] at this
  exact this
theorem rgt_snoc {cl : Nat → Nat → Bool} (hs : Sym cl) {p : List Nat} {d : List (Nat × Nat)} (hd : ∀ q, q ∈ d ↔ q.1 < p.length ∧ p.getD q.1 0 = q.2) (hp : rgt cl p) (s : Nat) : okL cl d p.length s = true ↔ rgt cl (p ++ [s]) := by
  unfold okL
  rw [List.all_eq_true]
  constructor
  · intro h i j hij hj hc
    simp only [List.length_append, List.length_cons, List.length_nil] at hj
    rw [app_get, app_get, if_pos (by omega)]
    by_cases hjp : j < p.length
    · rw [if_pos hjp]; exact hp i j hij hjp hc
    · have : j = p.length := by omega
      subst this
      rw [if_neg hjp]
      have := h (i, p.getD i 0) ((hd _).2 ⟨by omega, rfl⟩)
      simp only [Bool.not_eq_true', Bool.and_eq_false_iff, decide_eq_false_iff_not] at this
      rcases this with h1 | h1
      · simpa using h1
      · rw [hs, hc] at h1; cases h1
  · intro h q hq
    obtain ⟨h1, h2⟩ := (hd q).1 hq
    simp only [Bool.not_eq_true', Bool.and_eq_false_iff, decide_eq_false_iff_not]
    cases hc : cl p.length q.1 with
    | false => exact .inr rfl
    | true =>
      left
      have := h q.1 p.length h1 (by simp) (by rw [hs]; exact hc)
      rw [app_get, app_get, if_pos h1, if_neg (by omega), h2] at this
      simpa using this
open Classical in
theorem cntF_all (cl : Nat → Nat → Bool) (hs : Sym cl) (x : Nat) : ∀ (m : Nat) (p : List Nat) (d : List (Nat × Nat)), (∀ q, q ∈ d ↔ q.1 < p.length ∧ p.getD q.1 0 = q.2) → rgt cl p → cntF cl x (List.range' p.length m) d = sumAll x m fun f => if rgt cl (p ++ f) then 1 else 0
  | 0, p, d, _, hp => by simp [cntF, sumAll, hp]
  | m + 1, p, d, hd, hp => by
    rw [List.range'_succ]
    simp only [cntF, sumAll]
    refine sumN_congr fun s _ => ?_
    have h1 := rgt_snoc hs hd hp s
    by_cases ho : okL cl d p.length s = true
    · rw [if_pos ho]
      have := cntF_all cl hs x m (p ++ [s]) ((p.length, s) :: d) (fun q => by
        rw [List.mem_cons, hd q, app_get]
        simp only [List.length_append, List.length_cons, List.length_nil]
        constructor
        · rintro (rfl | ⟨a, b⟩)
          · exact ⟨by simp, by simp⟩
          · exact ⟨by omega, by rw [if_pos a]; exact b⟩
        · rintro ⟨a, b⟩
          by_cases hq : q.1 < p.length
          · rw [if_pos hq] at b; exact .inr ⟨hq, b⟩
          · have he : q.1 = p.length := by omega
            rw [if_neg hq, he] at b
            exact .inl (Prod.ext he (by simpa using b.symm))) (h1.1 ho)
      simp only [List.length_append, List.length_cons, List.length_nil] at this
      rw [this]
      exact sumAll_congr fun f _ _ => by rw [List.append_assoc]; rfl
    · rw [if_neg ho]
      refine (sumAll_zero x m _ fun f => if_neg fun h => ho (h1.2 ?_)).symm
      have e : p ++ s :: f = (p ++ [s]) ++ f := by simp
      rw [e] at h
      exact rgt_pre h
theorem chr_num {cl : Nat → Nat → Bool} (hs : Sym cl) (x n : Nat) : chr cl x (List.range n) = num cl x n := by
  rw [chr_F, List.range_eq_range']
  have := cntF_all cl hs x n [] [] (by simp) (fun i j _ h => by simp at h)
  simpa [num] using this
end Go.Proofs.YtijnimgmpocmaaaDoor

/- Waste, plain: the polynomial's numbers. -/
namespace Go.Proofs.YtijnimgmpocmaaaDoor
open Go.RowKit
set_option linter.unusedVariables false
set_option linter.unusedSimpArgs false
/-- The numbers of a falling power. -/
def fallC : Nat → Nat → Int
  | 0, d => if d = 0 then 1 else 0
  | j + 1, d => (if d = 0 then 0 else fallC j (d - 1)) - (j : Int) * fallC j d
theorem fallC_high : ∀ {j d : Nat}, j < d → fallC j d = 0
  | 0, d, h => by simp only [fallC]; rw [if_neg (by omega)]
  | j + 1, d, h => by
    simp only [fallC]
    rw [if_neg (by omega), fallC_high (show j < d - 1 by omega), fallC_high (show j < d by omega)]; simp
/-- The polynomial's numbers. -/
def polyC (cl : Nat → Nat → Bool) (l : List Nat) (d : Nat) : Int := sumN (fun j => sig cl l j * fallC j d) (l.length + 1)
end Go.Proofs.YtijnimgmpocmaaaDoor

/- Waste, plain: a pair left out and joined, in the polynomial's numbers. -/
namespace Go.Proofs.YtijnimgmpocmaaaDoor
open Go.RowKit
set_option linter.unusedVariables false
set_option linter.unusedSimpArgs false
theorem ways_top (cl : Nat → Nat → Bool) : ∀ (r : List Nat) (G : List (List Nat)), ways cl r G (G.length + r.length) = 1
  | [], G => by simp [ways]
  | a :: r, G => by
    simp only [ways, List.length_cons]
    rw [sumN_zero fun i hi => by
      split
      · exact ways_high cl r _ (by rw [addTo_len]; omega)
      · rfl]
    have := ways_top cl r (G ++ [[a]])
    simp only [List.length_append, List.length_cons, List.length_nil] at this
    rw [show G.length + (r.length + 1) = G.length + (0 + 1) + r.length by omega, this]; rfl
theorem sig_top (cl : Nat → Nat → Bool) (l : List Nat) : sig cl l l.length = 1 := by
  have := ways_top cl l []
  simpa [sig] using this
/-- Only what is told of i < j counts. -/
theorem num_congr {c1 c2 : Nat → Nat → Bool} {x n : Nat} (h : ∀ i j, i < j → j < n → c1 i j = c2 i j) : num c1 x n = num c2 x n := by
  unfold num
  refine sumAll_congr fun f hf _ => ?_
  have : rgt c1 f ↔ rgt c2 f := ⟨fun hh i j a b c => hh i j a b (by rw [h i j a (by omega)]; exact c), fun hh i j a b c => hh i j a b (by rw [← h i j a (by omega)]; exact c)⟩
  by_cases h1 : rgt c1 f
  · rw [if_pos h1, if_pos (this.1 h1)]
  · rw [if_neg h1, if_neg (fun h2 => h1 (this.2 h2))]
/-- A clash told of i < j, made symmetric. -/
def symC (cl : Nat → Nat → Bool) (i j : Nat) : Bool := if i < j then cl i j else if j < i then cl j i else false
theorem symC_sym (cl : Nat → Nat → Bool) : Sym (symC cl) := fun i j => by
  unfold symC
  by_cases h1 : i < j
  · rw [if_pos h1, if_neg (by omega), if_pos h1]
  · by_cases h2 : j < i
    · rw [if_neg h1, if_pos h2, if_pos h2]
    · rw [if_neg h1, if_neg h2, if_neg h2, if_neg h1]
theorem symC_lt (cl : Nat → Nat → Bool) {i j : Nat} (h : i < j) : symC cl i j = cl i j := if_pos h
theorem num_sym (cl : Nat → Nat → Bool) (x n : Nat) : num (symC cl) x n = num cl x n := num_congr fun _ _ h _ => symC_lt cl h
end Go.Proofs.YtijnimgmpocmaaaDoor

/- Waste, plain: pairs one by one; the second number, signs, and where the numbers begin. -/
namespace Go.Proofs.YtijnimgmpocmaaaDoor
open Go.RowKit
set_option linter.unusedVariables false
set_option linter.unusedSimpArgs false
def prs (cl : Nat → Nat → Bool) (n : Nat) : Int := sumN (fun v => sumN (fun u => if cl u v then 1 else 0) v) n
theorem sumN_nonneg {f : Nat → Int} : ∀ {n : Nat}, (∀ i, i < n → 0 ≤ f i) → 0 ≤ sumN f n
  | 0, _ => by simp [sumN]
  | n + 1, h => by
    have := sumN_nonneg (f := f) (n := n) fun i hi => h i (by omega)
    have := h n (by omega)
    simp only [sumN]; omega
/-- The polynomial's numbers for kinds 0 .. n-1. -/
def pc (cl : Nat → Nat → Bool) (n d : Nat) : Int := polyC (symC cl) (List.range n) d
/-- Signs. -/
def sg (k : Nat) : Int := if k % 2 = 0 then 1 else -1
/-- Labels that are the same at the ends of each pair, carried to the joined kinds. -/
def lft (v i : Nat) : Nat := if i < v then i else i + 1
def alike {α : Type} (cl : Nat → Nat → Bool) (n : Nat) (f : Nat → α) : Prop := ∀ i j, i < j → j < n → cl i j = true → f i = f j
theorem nodup_len : ∀ {l m : List Nat}, l.Nodup → (∀ x ∈ l, x ∈ m) → l.length ≤ m.length
  | [], m, _, _ => Nat.zero_le _
  | a :: l, m, hn, h => by
    rw [List.nodup_cons] at hn
    have ha : a ∈ m := h a (List.mem_cons_self ..)
    have := nodup_len (l := l) (m := m.erase a) hn.2 fun x hx => (List.mem_erase_of_ne (fun (e : x = a) => hn.1 (e ▸ hx))).2 (h x (List.mem_cons_of_mem _ hx))
    rw [List.length_erase_of_mem ha] at this
    have := List.length_pos_of_mem ha
    rw [List.length_cons]; omega
end Go.Proofs.YtijnimgmpocmaaaDoor

/- Waste, plain: counts of fillings at n skips: never less with more skips, and more than 0 from the fewest on. -/
namespace Go.Proofs.YtijnimgmpocmaaaDoor
open Go.RowKit
set_option linter.unusedVariables false
set_option linter.unusedSimpArgs false
theorem ways_nonneg (cl : Nat → Nat → Bool) : ∀ (r : List Nat) (G : List (List Nat)) (j : Nat), 0 ≤ ways cl r G j
  | [], G, j => by simp only [ways]; split <;> omega
  | a :: r, G, j => by
    simp only [ways]
    refine Int.add_nonneg ?_ (ways_nonneg cl r _ j)
    exact sumN_nonneg fun i _ => by
      split
      · exact ways_nonneg cl r _ j
      · omega
theorem sig_nonneg (cl : Nat → Nat → Bool) (l : List Nat) (j : Nat) : 0 ≤ sig cl l j := ways_nonneg cl l [] j
theorem fall_nonneg (n j : Nat) : 0 ≤ fallI (n : Int) j := by
  by_cases h : j ≤ n
  · exact Int.le_of_lt (fall_pos n j h)
  · rw [fall_zero (by omega)]; omega
theorem sumN_le {f g : Nat → Int} : ∀ {n : Nat}, (∀ i, i < n → f i ≤ g i) → sumN f n ≤ sumN g n
  | 0, _ => by simp [sumN]
  | n + 1, h => by
    have := sumN_le (f := f) (g := g) (n := n) fun i hi => h i (by omega)
    have := h n (by omega)
    simp only [sumN]; omega
theorem sumN_pos {f : Nat → Int} {n j : Nat} (h : ∀ i, i < n → 0 ≤ f i) (hj : j < n) (hp : 0 < f j) : 0 < sumN f n := by
  have h1 : sumN (fun i => if i = j then f j else 0) n ≤ sumN f n := sumN_le fun i hi => by
    split
    · next e => subst e; omega
    · exact h i hi
  rw [sumN_one (j := j) hj fun i _ hne => by rw [if_neg hne], if_pos rfl] at h1
  omega
/-- Fewest skips: the least number of groups. -/
theorem poly_pos {cl : Nat → Nat → Bool} {l : List Nat} {j n : Nat} (hs : 0 < sig cl l j) (h : j ≤ n) : 0 < polyI cl l (n : Int) := by
  have hj : j < l.length + 1 := by
    by_cases hh : j ≤ l.length
    · omega
    · rw [sig_high cl l (by omega)] at hs; omega
  exact sumN_pos (f := fun j => sig cl l j * fallI (n : Int) j) (fun i _ => Int.mul_nonneg (sig_nonneg cl l i) (fall_nonneg n i)) hj (Int.mul_pos hs (fall_pos n j h))
theorem poly_none {cl : Nat → Nat → Bool} {l : List Nat} {n : Nat} (h : ∀ j, j ≤ n → sig cl l j = 0) : polyI cl l (n : Int) = 0 := sumN_zero fun j _ => by
  by_cases hj : j ≤ n
  · rw [h j hj]; simp
  · rw [fall_zero (show n < j by omega)]; simp
theorem poly_iff {cl : Nat → Nat → Bool} {l : List Nat} {f n : Nat} (hf : 0 < sig cl l f) (hl : ∀ j, j < f → sig cl l j = 0) : 0 < polyI cl l (n : Int) ↔ f ≤ n := by
  constructor
  · intro h
    by_cases hn : f ≤ n
    · exact hn
    · rw [poly_none fun j hj => hl j (by omega)] at h; omega
  · exact poly_pos hf
end Go.Proofs.YtijnimgmpocmaaaDoor

/- Waste, plain: polynomials at a number, a pair left out and joined; loadings. -/
namespace Go.Proofs.YtijnimgmpocmaaaDoor
open Go.RowKit
set_option linter.unusedVariables false
set_option linter.unusedSimpArgs false
/-- The polynomial of kinds 0 .. n-1 at x. -/
def pv (cl : Nat → Nat → Bool) (n : Nat) (x : Int) : Int := polyI (symC cl) (List.range n) x
/-- Loadings of kinds 0 .. n-1. -/
def ldn (cl : Nat → Nat → Bool) (n : Nat) : Int := sg n * pv cl n (-1)
end Go.Proofs.YtijnimgmpocmaaaDoor

/- Waste, plain: bounds (no number leaves the machine's). -/
namespace Go.Proofs.YtijnimgmpocmaaaDoor
open Go.RowKit
set_option linter.unusedVariables false
set_option linter.unusedSimpArgs false
end Go.Proofs.YtijnimgmpocmaaaDoor

/- Waste, plain: a right filling is there just where the count is more than 0. -/
namespace Go.Proofs.YtijnimgmpocmaaaDoor
open Go.RowKit
set_option linter.unusedVariables false
set_option linter.unusedSimpArgs false
theorem sumN_some {f : Nat → Int} : ∀ {n : Nat}, 0 < sumN f n → ∃ i, i < n ∧ 0 < f i
  | 0, h => by simp [sumN] at h
  | n + 1, h => by
    by_cases hn : 0 < f n
    · exact ⟨n, by omega, hn⟩
    · simp only [sumN] at h
      obtain ⟨i, hi, hp⟩ := sumN_some (f := f) (n := n) (by omega)
      exact ⟨i, by omega, hp⟩
theorem sumAll_nonneg {x : Nat} : ∀ (n : Nat) {h : List Nat → Int}, (∀ f, 0 ≤ h f) → 0 ≤ sumAll x n h
  | 0, h, hn => hn []
  | n + 1, h, hn => sumN_nonneg fun s _ => sumAll_nonneg n fun f => hn (s :: f)
theorem sumAll_iff {x : Nat} : ∀ (n : Nat) {h : List Nat → Int}, (∀ f, 0 ≤ h f) → (0 < sumAll x n h ↔ ∃ f : List Nat, f.length = n ∧ (∀ s ∈ f, s < x) ∧ 0 < h f)
  | 0, h, _ => by
    constructor
    · intro hp; exact ⟨[], rfl, by simp, hp⟩
    · rintro ⟨f, hf, _, hp⟩
      rw [List.length_eq_zero_iff.1 hf] at hp; exact hp
  | n + 1, h, hn => by
    constructor
    · intro hp
      obtain ⟨s, hs, hp⟩ := sumN_some hp
      obtain ⟨f, h1, h2, h3⟩ := (sumAll_iff n (fun f => hn (s :: f))).1 hp
      exact ⟨s :: f, by rw [List.length_cons, h1], by
        intro t ht
        rcases List.mem_cons.1 ht with rfl | ht
        · exact hs
        · exact h2 t ht, h3⟩
    · rintro ⟨f, h1, h2, h3⟩
      match f, h1, h2, h3 with
      | s :: f, h1, h2, h3 =>
        refine sumN_pos (j := s) (fun i _ => sumAll_nonneg n fun f => hn (i :: f)) (h2 s (List.mem_cons_self ..)) ?_
        exact (sumAll_iff n (fun f => hn (s :: f))).2 ⟨f, by simpa using h1, fun t ht => h2 t (List.mem_cons_of_mem _ ht), h3⟩
theorem pv_num (cl : Nat → Nat → Bool) (n x : Nat) : pv cl n (x : Int) = num cl x n := by
  unfold pv
  rw [poly_nat, chr_num (symC_sym _), num_sym]
theorem pv_iff (cl : Nat → Nat → Bool) (n x : Nat) : 0 < pv cl n (x : Int) ↔ ∃ f : List Nat, f.length = n ∧ (∀ s ∈ f, s < x) ∧ rgt cl f := by
  rw [pv_num]
  unfold num
  rw [sumAll_iff n fun f => by split <;> omega]
  constructor
  · rintro ⟨f, a, b, c⟩
    refine ⟨f, a, b, ?_⟩
    by_cases h : rgt cl f
    · exact h
    · rw [if_neg h] at c; omega
  · rintro ⟨f, a, b, c⟩
    exact ⟨f, a, b, by rw [if_pos c]; omega⟩
/-- The fewest skips: the least number of groups, and what a right filling needs. -/
theorem few_iff {cl : Nat → Nat → Bool} {n k x : Nat} (hf : 0 < sig (symC cl) (List.range n) k) (hl : ∀ j, j < k → sig (symC cl) (List.range n) j = 0) : (∃ f : List Nat, f.length = n ∧ (∀ s ∈ f, s < x) ∧ rgt cl f) ↔ k ≤ x := by
  rw [← pv_iff]; exact poly_iff hf hl
end Go.Proofs.YtijnimgmpocmaaaDoor

/- Waste, plain: sets of kinds as numbers; the program's sorts. -/
namespace Go.Proofs.YtijnimgmpocmaaaDoor
open Go.RowKit
set_option linter.unusedVariables false
set_option linter.unusedSimpArgs false
def bitsOf : List Nat → Nat
  | [] => 0
  | b :: r => bitsOf r ||| 2 ^ b
theorem bitsOf_bit : ∀ (g : List Nat) (b : Nat), (bitsOf g).testBit b = g.contains b
  | [], b => by simp [bitsOf]
  | c :: r, b => by
    simp only [bitsOf, Nat.testBit_or, bitsOf_bit r b, Nat.testBit_two_pow, List.contains_cons]
    rw [Bool.or_comm]
    congr 1
    rw [Bool.eq_iff_iff]; simp; exact eq_comm
theorem and_zero {s g : Nat} : s &&& g = 0 ↔ ∀ b, s.testBit b = true → g.testBit b = false := by
  constructor
  · intro h b hb
    have : (s &&& g).testBit b = false := by rw [h]; simp
    rw [Nat.testBit_and, hb] at this
    simpa using this
  · intro h
    apply Nat.eq_of_testBit_eq
    intro b
    rw [Nat.testBit_and, Nat.zero_testBit]
    cases hb : s.testBit b with
    | false => rfl
    | true => rw [h b hb]; rfl
theorem apt_bits {cl : Nat → Nat → Bool} {a s : Nat} {g : List Nat} (h : ∀ b ∈ g, s.testBit b = cl a b) : apt cl a g = decide (s &&& bitsOf g = 0) := by
  rw [Bool.eq_iff_iff, decide_eq_true_iff, and_zero]
  simp only [apt, List.all_eq_true, Bool.not_eq_true']
  constructor
  · intro h1 b hb
    rw [bitsOf_bit]
    by_cases hm : b ∈ g
    · have := h1 b hm; rw [← h b hm, hb] at this; cases this
    · simpa using hm
  · intro h1 b hb
    rw [← h b hb]
    cases h2 : s.testBit b with
    | false => rfl
    | true => have := h1 b h2; rw [bitsOf_bit] at this; simp [hb] at this
/-- Into how many ways the kinds from a on are put into groups, as the program does. -/
def waysB (t : List Nat) : Nat → Nat → List Nat → Nat → Int
  | 0, _, gs, j => if gs.length = j then 1 else 0
  | m + 1, a, gs, j => sumN (fun i => if t.getD a 0 &&& gs.getD i 0 = 0 then waysB t m (a + 1) (gs.set i (gs.getD i 0 ||| 2 ^ a)) j else 0) gs.length + waysB t m (a + 1) (gs ++ [2 ^ a]) j
theorem getD_map0 {g : List Nat → Nat} (h0 : g [] = 0) (G : List (List Nat)) (i : Nat) : (G.map g).getD i 0 = g (G.getD i []) := by
  simp only [List.getD_eq_getElem?_getD, List.getElem?_map]
  cases G[i]? <;> simp [h0]
theorem waysB_ways {cl : Nat → Nat → Bool} {t : List Nat} (ht : ∀ a b, a < t.length → b < a → (t.getD a 0).testBit b = cl a b) (j : Nat) : ∀ (m a : Nat) (G : List (List Nat)), a + m = t.length → (∀ g ∈ G, ∀ b ∈ g, b < a) → waysB t m a (G.map bitsOf) j = ways cl (List.range' a m) G j
  | 0, a, G, _, _ => by simp [waysB, ways, List.range']
  | m + 1, a, G, ha, hG => by
    simp only [waysB, ways, List.range'_succ, List.length_map]
    have hg : ∀ i, ∀ b ∈ G.getD i [], b < a := fun i b hb => by
      rcases Nat.lt_or_ge i G.length with h | h
      · rw [List.getD_eq_getElem?_getD, List.getElem?_eq_getElem h] at hb
        exact hG _ (List.getElem_mem h) b hb
      · rw [List.getD_eq_getElem?_getD, List.getElem?_eq_none h] at hb; cases hb
    have e1 : ∀ i, (G.map bitsOf).getD i 0 = bitsOf (G.getD i []) := getD_map0 rfl G
    congr 1
    · refine sumN_congr fun i hi => ?_
      rw [e1, apt_bits fun b hb => ht a b (by omega) (hg i b hb)]
      by_cases h : t.getD a 0 &&& bitsOf (G.getD i []) = 0
      · rw [if_pos h, if_pos (by simpa using h), ← waysB_ways ht j m (a + 1) (addTo G i a) (by omega) ?_]
        · congr 1
          simp [addTo, List.map_set, bitsOf]
        · intro g hg' b hb
          simp only [addTo] at hg'
          rcases List.mem_or_eq_of_mem_set hg' with h1 | rfl
          · have := hG g h1 b hb; omega
          · rcases List.mem_cons.1 hb with rfl | h2
            · omega
            · have := hg i b h2; omega
      · rw [if_neg h, if_neg (by simpa using h)]
    · rw [← waysB_ways ht j m (a + 1) (G ++ [[a]]) (by omega) ?_]
      · simp [bitsOf]
      · intro g hg' b hb
        rcases List.mem_append.1 hg' with h1 | h1
        · have := hG g h1 b hb; omega
        · simp only [List.mem_singleton] at h1; subst h1; simp only [List.mem_singleton] at hb; omega
theorem range_eq (n : Nat) : List.range n = List.range' 0 n := List.range_eq_range'
theorem waysB_sig {cl : Nat → Nat → Bool} {t : List Nat} (ht : ∀ a b, a < t.length → b < a → (t.getD a 0).testBit b = cl a b) (j : Nat) : waysB t t.length 0 [] j = sig cl (List.range t.length) j := by
  have := waysB_ways ht j t.length 0 [] (by omega) (by simp)
  rw [range_eq]; exact this
/-- The most ways. -/
def st : Nat → Nat → Nat → Int
  | 0, g, j => if g = j then 1 else 0
  | m + 1, g, j => (g : Int) * st m g j + st m (g + 1) j
theorem waysB_nonneg (t : List Nat) (j : Nat) : ∀ (m a : Nat) (gs : List Nat), 0 ≤ waysB t m a gs j
  | 0, a, gs => by simp only [waysB]; split <;> omega
  | m + 1, a, gs => by
    simp only [waysB]
    have h1 := waysB_nonneg t j m (a + 1) (gs ++ [2 ^ a])
    have h2 : 0 ≤ sumN (fun i => if t.getD a 0 &&& gs.getD i 0 = 0 then waysB t m (a + 1) (gs.set i (gs.getD i 0 ||| 2 ^ a)) j else 0) gs.length := sumN_nonneg fun i _ => by
      split
      · exact waysB_nonneg t j m _ _
      · omega
    omega
theorem waysB_st (t : List Nat) (j : Nat) : ∀ (m a : Nat) (gs : List Nat), waysB t m a gs j ≤ st m gs.length j
  | 0, a, gs => by simp only [waysB, st]; omega
  | m + 1, a, gs => by
    simp only [waysB, st]
    have h1 := waysB_st t j m (a + 1) (gs ++ [2 ^ a])
    rw [List.length_append] at h1
    have h0 : 0 ≤ st m gs.length j := Int.le_trans (waysB_nonneg t j m 0 gs) (waysB_st t j m 0 gs)
    have h2 : sumN (fun i => if t.getD a 0 &&& gs.getD i 0 = 0 then waysB t m (a + 1) (gs.set i (gs.getD i 0 ||| 2 ^ a)) j else 0) gs.length ≤ sumN (fun _ => st m gs.length j) gs.length := sumN_le fun i _ => by
      split
      · have := waysB_st t j m (a + 1) (gs.set i (gs.getD i 0 ||| 2 ^ a)); rwa [List.length_set] at this
      · exact h0
    rw [sumN_const] at h2
    exact Int.add_le_add h2 h1
theorem sumN_part {f : Nat → Int} (h0 : ∀ i, 0 ≤ f i) : ∀ {n i : Nat}, i ≤ n → sumN f i ≤ sumN f n
  | 0, i, hi => by obtain rfl : i = 0 := by omega
                   exact Int.le_refl _
  | n + 1, i, hi => by
    rcases Nat.lt_or_ge i (n + 1) with h | h
    · have := sumN_part h0 (n := n) (i := i) (by omega)
      have := h0 n
      simp only [sumN]; omega
    · obtain rfl : i = n + 1 := by omega
      exact Int.le_refl _
/-- The program's numbers. -/
def coefB (n d : Nat) : Int := sumN (fun j => st n 0 j * ((fallC j d).natAbs : Int)) (n + 1)
theorem coefB_le : ∀ n, n ≤ 8 → ∀ d, d ≤ 8 → coefB n d ≤ 600000 := by decide +kernel
theorem st_le : ∀ n, n ≤ 8 → ∀ g, g ≤ 8 → g + n ≤ 8 → ∀ j, j ≤ 8 → st n g j ≤ 100000 := by decide +kernel
end Go.Proofs.YtijnimgmpocmaaaDoor

/- Waste, plain: the document's fillings with just so many skips are the ways. -/
namespace Go.Proofs.YtijnimgmpocmaaaDoor
open Go.RowKit
set_option linter.unusedVariables false
set_option linter.unusedSimpArgs false
def okF (cl : Nat → Nat → Bool) (fill : List Nat) (s : Nat) : Bool := (List.range fill.length).all fun i => !(decide (fill.getD i 0 = s)) || !cl i fill.length
def fillsR (cl : Nat → Nat → Bool) (skips : Nat) : Nat → List Nat → Nat → Int
  | 0, _, used => if used = skips then 1 else 0
  | m + 1, fill, used => sumN (fun s => if okF cl fill s = true then fillsR cl skips m (fill ++ [s]) (max used (s + 1)) else 0) (min (used + 1) skips)
def Grp (G : List (List Nat)) (fill : List Nat) : Prop := ∀ s b, s < G.length → (b ∈ G.getD s [] ↔ b < fill.length ∧ fill.getD b 0 = s)
theorem getD_snoc (fill : List Nat) (s b : Nat) : (fill ++ [s]).getD b 0 = if b < fill.length then fill.getD b 0 else if b = fill.length then s else 0 := by
  rw [List.getD_eq_getElem?_getD, List.getElem?_append]
  split
  · rw [List.getD_eq_getElem?_getD]
  · split
    · subst b; simp
    · rw [List.getElem?_eq_none (by simp; omega)]; rfl
theorem Grp.add {G : List (List Nat)} {fill : List Nat} (h : Grp G fill) {s : Nat} (hs : s < G.length) : Grp (addTo G s fill.length) (fill ++ [s]) := by
  intro k b hk
  rw [addTo_len] at hk
  rw [addTo_get G hs, getD_snoc, List.length_append, List.length_singleton]
  by_cases hks : k = s
  · subst hks
    rw [if_pos rfl, List.mem_cons, h k b hk]
    constructor
    · rintro (rfl | ⟨h1, h2⟩)
      · simp
      · rw [if_pos h1]; exact ⟨by omega, h2⟩
    · rintro ⟨h1, h2⟩
      by_cases hb : b < fill.length
      · rw [if_pos hb] at h2; exact .inr ⟨hb, h2⟩
      · left; omega
  · rw [if_neg hks, h k b hk]
    constructor
    · rintro ⟨h1, h2⟩
      rw [if_pos h1]; exact ⟨by omega, h2⟩
    · rintro ⟨h1, h2⟩
      by_cases hb : b < fill.length
      · rw [if_pos hb] at h2; exact ⟨hb, h2⟩
      · rw [if_neg hb, if_pos (by omega)] at h2; exact absurd h2.symm hks
theorem getD_snocL (G : List (List Nat)) (g : List Nat) (s : Nat) : (G ++ [g]).getD s [] = if s < G.length then G.getD s [] else if s = G.length then g else [] := by
  rw [List.getD_eq_getElem?_getD, List.getElem?_append]
  split
  · rw [List.getD_eq_getElem?_getD]
  · split
    · subst s; simp
    · rw [List.getElem?_eq_none (by simp; omega)]; rfl
theorem Grp.new {G : List (List Nat)} {fill : List Nat} (h : Grp G fill) (hf : ∀ b, b < fill.length → fill.getD b 0 < G.length) : Grp (G ++ [[fill.length]]) (fill ++ [G.length]) := by
  intro k b hk
  rw [List.length_append, List.length_singleton] at hk
  rw [getD_snocL, getD_snoc, List.length_append, List.length_singleton]
  by_cases hks : k < G.length
  · rw [if_pos hks, h k b hks]
    constructor
    · rintro ⟨h1, h2⟩
      rw [if_pos h1]; exact ⟨by omega, h2⟩
    · rintro ⟨h1, h2⟩
      by_cases hb : b < fill.length
      · rw [if_pos hb] at h2; exact ⟨hb, h2⟩
      · rw [if_neg hb, if_pos (by omega)] at h2; omega
  · obtain rfl : k = G.length := by omega
    rw [if_neg hks, if_pos rfl, List.mem_singleton]
    constructor
    · rintro rfl; simp
    · rintro ⟨h1, h2⟩
      by_cases hb : b < fill.length
      · rw [if_pos hb] at h2; have := hf b hb; omega
      · omega
end Go.Proofs.YtijnimgmpocmaaaDoor

/- Waste, plain: the table of kinds; the polynomial's value. -/
namespace Go.Proofs.YtijnimgmpocmaaaDoor
open Go.RowKit
set_option linter.unusedVariables false
set_option linter.unusedSimpArgs false
def clP (ps : List (Nat × Nat)) (a b : Nat) : Bool := ps.any fun p => decide (p.1 = a) && decide (p.2 = b)
theorem clP_iff {ps : List (Nat × Nat)} {a b : Nat} : clP ps a b = true ↔ (a, b) ∈ ps := by
  simp only [clP, List.any_eq_true, Bool.and_eq_true, decide_eq_true_iff]
  constructor
  · rintro ⟨⟨x, y⟩, h, rfl, rfl⟩; exact h
  · intro h; exact ⟨_, h, rfl, rfl⟩
def okPs (n : Nat) (ps : List (Nat × Nat)) : Prop := ∀ p ∈ ps, p.1 < p.2 ∧ p.2 < n
/-- A pair in the table. -/
def tab1 (t : List Nat) (p : Nat × Nat) : List Nat := (t.set p.1 (t.getD p.1 0 ||| 2 ^ p.2)).set p.2 ((t.set p.1 (t.getD p.1 0 ||| 2 ^ p.2)).getD p.2 0 ||| 2 ^ p.1)
def tabS (n : Nat) (ps : List (Nat × Nat)) : List Nat := ps.foldl tab1 (List.replicate n 0)
theorem getD_set (t : List Nat) (i v k : Nat) : (t.set i v).getD k 0 = if i = k ∧ k < t.length then v else t.getD k 0 := by
  rw [List.getD_eq_getElem?_getD, List.getElem?_set]
  by_cases h : i = k
  · subst h
    by_cases h2 : i < t.length
    · simp [h2]
    · simp [h2, List.getElem?_eq_none (by omega : t.length ≤ i)]
  · simp [h]
theorem tab1_len (t : List Nat) (p : Nat × Nat) : (tab1 t p).length = t.length := by simp [tab1]
theorem tab1_bit {t : List Nat} {p : Nat × Nat} (h : p.1 < p.2) (h2 : p.2 < t.length) {a : Nat} (b : Nat) : ((tab1 t p).getD a 0).testBit b = ((t.getD a 0).testBit b || (decide (a = p.1) && decide (b = p.2)) || (decide (a = p.2) && decide (b = p.1))) := by
  unfold tab1
  rw [getD_set, getD_set, getD_set, List.length_set]
  have hb1 : (2 ^ p.1).testBit b = decide (p.1 = b) := Nat.testBit_two_pow
  have hb2 : (2 ^ p.2).testBit b = decide (p.2 = b) := Nat.testBit_two_pow
  by_cases h3 : a = p.2
  · subst h3
    rw [if_pos ⟨rfl, h2⟩, if_neg (by omega)]
    simp only [Nat.testBit_or, hb1]
    have e1 : decide (p.2 = p.1) = false := by simp; omega
    have e2 : decide (p.1 = b) = decide (b = p.1) := by rw [Bool.eq_iff_iff]; simp; exact eq_comm
    simp [e1, e2]
  · rw [if_neg (by omega)]
    by_cases h4 : a = p.1
    · subst h4
      rw [if_pos ⟨rfl, by omega⟩]
      have e2 : decide (p.2 = b) = decide (b = p.2) := by rw [Bool.eq_iff_iff]; simp; exact eq_comm
      have e3 : decide (p.1 = p.2) = false := by simp; omega
      simp [Nat.testBit_or, hb2, e2, e3]
    · rw [if_neg (by omega)]
      simp [h3, h4]
theorem tabF_len : ∀ (ps : List (Nat × Nat)) (t : List Nat), (ps.foldl tab1 t).length = t.length
  | [], _ => rfl
  | p :: r, t => by rw [List.foldl_cons, tabF_len r, tab1_len]
theorem tabS_len (n : Nat) (ps : List (Nat × Nat)) : (tabS n ps).length = n := by rw [tabS, tabF_len]; simp
theorem tabF_bit : ∀ (ps : List (Nat × Nat)) (t : List Nat) (a b : Nat), okPs t.length ps → ((ps.foldl tab1 t).getD a 0).testBit b = ((t.getD a 0).testBit b || clP ps a b || clP ps b a)
  | [], t, a, b, _ => by simp [clP]
  | p :: r, t, a, b, h => by
    obtain ⟨h1, h2⟩ := h p (by simp)
    rw [List.foldl_cons, tabF_bit r (tab1 t p) a b (by rw [tab1_len]; exact fun q hq => h q (by simp [hq])), tab1_bit h1 h2]
    simp only [clP, List.any_cons]
    have e1 : decide (a = p.1) = decide (p.1 = a) := by rw [Bool.eq_iff_iff]; simp; exact eq_comm
    have e2 : decide (b = p.2) = decide (p.2 = b) := by rw [Bool.eq_iff_iff]; simp; exact eq_comm
    have e3 : decide (a = p.2) = decide (p.2 = a) := by rw [Bool.eq_iff_iff]; simp; exact eq_comm
    have e4 : decide (b = p.1) = decide (p.1 = b) := by rw [Bool.eq_iff_iff]; simp; exact eq_comm
    rw [e1, e2, e3, e4]
    cases (t.getD a 0).testBit b <;> cases decide (p.1 = a) <;> cases decide (p.2 = b) <;> cases decide (p.2 = a) <;> cases decide (p.1 = b) <;> simp
theorem tabS_bit {n : Nat} {ps : List (Nat × Nat)} (h : okPs n ps) (a b : Nat) : ((tabS n ps).getD a 0).testBit b = symC (clP ps) a b := by
  have h0 : ∀ a b, ((List.replicate n 0).getD a 0).testBit b = false := fun a b => by
    rw [List.getD_eq_getElem?_getD, List.getElem?_replicate]; split <;> simp
  rw [tabS, tabF_bit ps _ a b (by simpa using h), h0, Bool.false_or]
  have hf : ∀ a b, ¬ a < b → clP ps a b = false := fun a b hab => by
    rw [Bool.eq_false_iff]; intro h2; rw [clP_iff] at h2; exact hab (h _ h2).1
  unfold symC
  split
  · rw [hf b a (by omega)]; simp
  · rw [hf a b (by assumption)]
    split
    · simp
    · rw [hf b a (by omega)]; rfl
theorem tab1_lt {t : List Nat} {p : Nat × Nat} {n : Nat} (h1 : p.1 < n) (h2 : p.2 < n) (ht : ∀ s ∈ t, s < 2 ^ n) : ∀ s ∈ tab1 t p, s < 2 ^ n := by
  have hg : ∀ {l : List Nat}, (∀ s ∈ l, s < 2 ^ n) → ∀ k, l.getD k 0 < 2 ^ n := fun {l} h k => by
    rcases Nat.lt_or_ge k l.length with h3 | h3
    · rw [List.getD_eq_getElem?_getD, List.getElem?_eq_getElem h3]; exact h _ (List.getElem_mem h3)
    · rw [List.getD_eq_getElem?_getD, List.getElem?_eq_none h3]; exact Nat.two_pow_pos n
  have h3 : ∀ s ∈ t.set p.1 (t.getD p.1 0 ||| 2 ^ p.2), s < 2 ^ n := fun s hs => by
    rcases List.mem_or_eq_of_mem_set hs with h4 | rfl
    · exact ht s h4
    · exact Nat.or_lt_two_pow (hg ht _) (Nat.pow_lt_pow_right (by omega) h2)
  intro s hs
  unfold tab1 at hs
  rcases List.mem_or_eq_of_mem_set hs with h4 | rfl
  · exact h3 s h4
  · exact Nat.or_lt_two_pow (hg h3 _) (Nat.pow_lt_pow_right (by omega) h1)
theorem tabF_lt {n : Nat} : ∀ (ps : List (Nat × Nat)) (t : List Nat), (∀ p ∈ ps, p.1 < n ∧ p.2 < n) → (∀ s ∈ t, s < 2 ^ n) → ∀ s ∈ ps.foldl tab1 t, s < 2 ^ n
  | [], _, _, h => h
  | p :: r, t, hp, h => tabF_lt r (tab1 t p) (fun q hq => hp q (by simp [hq])) (tab1_lt (hp p (by simp)).1 (hp p (by simp)).2 h)
theorem tabS_lt {n : Nat} {ps : List (Nat × Nat)} (h : okPs n ps) : ∀ s ∈ tabS n ps, s < 2 ^ n := tabF_lt ps _ (fun p hp => ⟨by have := h p hp; omega, (h p hp).2⟩) (fun s hs => by rw [List.eq_of_mem_replicate hs]; exact Nat.two_pow_pos n)
/-- A polynomial's value, as the program works it out: the numbers from k on. -/
def horn (f : Nat → Int) (x : Int) : Nat → Nat → Int
  | _, 0 => 0
  | k, m + 1 => horn f x (k + 1) m * x + f k
theorem horn_abs {f : Nat → Int} {x B X : Int} (hB : ∀ k, -B ≤ f k ∧ f k ≤ B) (hx : -X ≤ x ∧ x ≤ X) (hX : 0 ≤ X) : ∀ m k, -(horn (fun _ => B) X k m) ≤ horn f x k m ∧ horn f x k m ≤ horn (fun _ => B) X k m
  | 0, k => by simp [horn]
  | m + 1, k => by
    obtain ⟨h1, h2⟩ := horn_abs hB hx hX m (k + 1)
    have h3 := hB k
    simp only [horn]
    generalize horn f x (k + 1) m = u at *
    generalize horn (fun _ => B) X (k + 1) m = v at *
    have hm : -(v * X) ≤ u * x ∧ u * x ≤ v * X := by
      have hv : 0 ≤ v := by omega
      rcases Int.le_total 0 x with hx0 | hx0
      · have a1 : u * x ≤ v * x := Int.mul_le_mul_of_nonneg_right h2 hx0
        have a2 : v * x ≤ v * X := Int.mul_le_mul_of_nonneg_left hx.2 hv
        have a3 : (-v) * x ≤ u * x := Int.mul_le_mul_of_nonneg_right h1 hx0
        rw [Int.neg_mul] at a3
        omega
      · have a1 : u * (-x) ≤ v * (-x) := Int.mul_le_mul_of_nonneg_right h2 (by omega)
        have a2 : v * (-x) ≤ v * X := Int.mul_le_mul_of_nonneg_left (by omega) hv
        have a3 : (-v) * (-x) ≤ u * (-x) := Int.mul_le_mul_of_nonneg_right h1 (by omega)
        rw [Int.neg_mul] at a3
        rw [Int.mul_neg] at a1
        rw [Int.mul_neg u x] at a3
        omega
    omega
end Go.Proofs.YtijnimgmpocmaaaDoor

/- Waste: between, with, Valid. -/
namespace Go.Proofs.YtijnimgmpocmaaaDoor
open Go.RowKit
set_option linter.unusedVariables false
set_option linter.unusedSimpArgs false
theorem between_spec (a b c : Int) : Spec Tryd.prog 60 [V.i a, V.i b, V.i c] [] 0 (Is (V.c (.bool (decide (a ≤ b ∧ b ≤ c))))) := by
  refine Spec.of tok Tryd.func60 rfl rfl rfl fun n0 cx => vc_ok tok ?_
  repeat ((conv => whnf); first | (refine And.intro (by first | omega | exact Nat.le_of_ble_eq_true rfl | (dsimp only [inK]; omega) | (simp only [mulS_eq]; omega) | (simp only [mulS_eq, setL_length]; omega) | (simp only [setL_length]; omega) | (simp only [setL_length, List.length_map]; omega) | (exact ⟨by omega, by omega, by first | exact Nat.le_of_ble_eq_true rfl | (dsimp only; omega) | (simp only [setL_length]; omega) | (simp only [setL_length, List.length_map]; omega)⟩) | (exact ⟨by omega, by first | rfl | omega, by omega, Nat.le_of_ble_eq_true rfl, Nat.le_of_ble_eq_true rfl⟩) | (exact ⟨rfl, rfl, rfl, Nat.le_of_ble_eq_true rfl, by first | rfl | omega | exact Nat.le_of_ble_eq_true rfl | (dsimp only; omega) | (simp; done) | (simp; omega), by first | rfl | omega | exact Nat.le_of_ble_eq_true rfl | (dsimp only; omega) | (simp; done) | (simp; omega), by omega, Nat.le_of_ble_eq_true rfl⟩) | exact Eq.refl true) ?_) | refine Exists.intro _ (And.intro rfl ?_) | refine And.intro (And.intro rfl (chk_rowI _ _ _ _)) ?_ | refine br_t (by omega) ?_ | refine br_f (by omega) ?_ | refine bs_t (by omega) ?_ | refine bs_f (by omega) ?_ | refine fun (K' : K3) hK' => ?_ | (refine hK' _ _ _ ?_; clear hK' K') | refine draw_auto tok mixed (by kernel_rfl) ?_ | refine bs_bt (Eq.refl true) ?_ | refine bs_bf (Eq.refl false) ?_ | refine br_bt (Eq.refl true) ?_ | refine br_bf (Eq.refl false) ?_ | refine CallK.m ?_ | refine Two.l ?_ | refine And.intro (And.intro rfl rfl) ?_)
  refine br_d (fun h => ?_) (fun h => ?_)
  all_goals
    repeat ((conv => whnf); first | (refine And.intro (by first | omega | exact Nat.le_of_ble_eq_true rfl | (dsimp only [inK]; omega) | (simp only [mulS_eq]; omega) | (simp only [mulS_eq, setL_length]; omega) | (simp only [setL_length]; omega) | (simp only [setL_length, List.length_map]; omega) | (exact ⟨by omega, by omega, by first | exact Nat.le_of_ble_eq_true rfl | (dsimp only; omega) | (simp only [setL_length]; omega) | (simp only [setL_length, List.length_map]; omega)⟩) | (exact ⟨by omega, by first | rfl | omega, by omega, Nat.le_of_ble_eq_true rfl, Nat.le_of_ble_eq_true rfl⟩) | (exact ⟨rfl, rfl, rfl, Nat.le_of_ble_eq_true rfl, by first | rfl | omega | exact Nat.le_of_ble_eq_true rfl | (dsimp only; omega) | (simp; done) | (simp; omega), by first | rfl | omega | exact Nat.le_of_ble_eq_true rfl | (dsimp only; omega) | (simp; done) | (simp; omega), by omega, Nat.le_of_ble_eq_true rfl⟩) | exact Eq.refl true) ?_) | refine Exists.intro _ (And.intro rfl ?_) | refine And.intro (And.intro rfl (chk_rowI _ _ _ _)) ?_ | refine br_t (by omega) ?_ | refine br_f (by omega) ?_ | refine bs_t (by omega) ?_ | refine bs_f (by omega) ?_ | refine fun (K' : K3) hK' => ?_ | (refine hK' _ _ _ ?_; clear hK' K') | refine draw_auto tok mixed (by kernel_rfl) ?_ | refine bs_bt (Eq.refl true) ?_ | refine bs_bf (Eq.refl false) ?_ | refine br_bt (Eq.refl true) ?_ | refine br_bf (Eq.refl false) ?_ | refine CallK.m ?_ | refine Two.l ?_ | refine And.intro (And.intro rfl rfl) ?_)
    intro ρ; show Value.bool _ = Value.bool _; simp [h]
/-- A set, as the program holds it. -/
@[reducible] def C.u (n : Nat) : C := C.int .u64 (n : Int)
@[reducible] def V.u (n : Nat) : V := V.c (C.u n)
theorem u64_nat {n : Nat} (h : n < 18446744073709551616) : IntKind.u64.wrap (n : Int) = (n : Int) := inK_wrap (k := .u64) ⟨by omega, by omega⟩
theorem bv_nat {n : Nat} (h : n < 18446744073709551616) : (BitVec.ofInt 64 (n : Int)).toNat = n := by
  rw [BitVec.ofInt_natCast, BitVec.toNat_ofNat]; exact Nat.mod_eq_of_lt (by omega)
theorem bit_or {x y : Nat} (hx : x < 18446744073709551616) (hy : y < 18446744073709551616) : bitI .or .u64 (x : Int) (y : Int) = ((x ||| y : Nat) : Int) := by
  show IntKind.u64.wrap ((BitVec.ofInt 64 (x : Int) ||| BitVec.ofInt 64 (y : Int)).toNat : Int) = _
  have h : x ||| y < 2 ^ 64 := Nat.or_lt_two_pow (by omega) (by omega)
  rw [BitVec.toNat_or, bv_nat hx, bv_nat hy, u64_nat (by omega)]
theorem bit_and {x y : Nat} (hx : x < 18446744073709551616) (hy : y < 18446744073709551616) : bitI .and .u64 (x : Int) (y : Int) = ((x &&& y : Nat) : Int) := by
  show IntKind.u64.wrap ((BitVec.ofInt 64 (x : Int) &&& BitVec.ofInt 64 (y : Int)).toNat : Int) = _
  have h : x &&& y < 2 ^ 64 := Nat.and_lt_two_pow _ (by omega)
  rw [BitVec.toNat_and, bv_nat hx, bv_nat hy, u64_nat (by omega)]
theorem or_256 {x y : Nat} (hx : x < 256) (hy : y < 256) : x ||| y < 256 := Nat.or_lt_two_pow (n := 8) hx hy
theorem pow_256 {a : Nat} (h : a < 8) : 2 ^ a < 256 := by
  have := Nat.pow_lt_pow_right (a := 2) (by omega) h; omega
theorem with_spec (s a : Nat) (hs : s < 256) (ha : a < 8) : Spec Tryd.prog 68 [V.u s, V.i a] [] 0 (Is (V.u (s ||| 2 ^ a))) := by
  have h1 := pow_256 ha
  have h2 : ((2 : Int) ^ a) = ((2 ^ a : Nat) : Int) := by simp
  have h3 : (1 : Int) * 2 ^ ((a : Nat) : Int).toNat = ((2 ^ a : Nat) : Int) := by rw [Int.toNat_natCast, h2]; simp
  clear h2
  obtain ⟨m, hm⟩ : ∃ m, m = 2 ^ a := ⟨_, rfl⟩
  rw [← hm] at h1 h3 ⊢
  clear hm
  refine Spec.of tok Tryd.func68 rfl rfl rfl fun n0 cx => vc_ok tok ?_
  repeat ((conv => whnf); first | (refine And.intro (by first | omega | exact Nat.le_of_ble_eq_true rfl | (dsimp only [inK]; omega) | (simp only [mulS_eq]; omega) | (simp only [mulS_eq, setL_length]; omega) | (simp only [setL_length]; omega) | (simp only [setL_length, List.length_map]; omega) | (exact ⟨by omega, by omega, by first | exact Nat.le_of_ble_eq_true rfl | (dsimp only; omega) | (simp only [setL_length]; omega) | (simp only [setL_length, List.length_map]; omega)⟩) | (exact ⟨by omega, by first | rfl | omega, by omega, Nat.le_of_ble_eq_true rfl, Nat.le_of_ble_eq_true rfl⟩) | (exact ⟨rfl, rfl, rfl, Nat.le_of_ble_eq_true rfl, by first | rfl | omega | exact Nat.le_of_ble_eq_true rfl | (dsimp only; omega) | (simp; done) | (simp; omega), by first | rfl | omega | exact Nat.le_of_ble_eq_true rfl | (dsimp only; omega) | (simp; done) | (simp; omega), by omega, Nat.le_of_ble_eq_true rfl⟩) | exact Eq.refl true) ?_) | refine Exists.intro _ (And.intro rfl ?_) | refine And.intro (And.intro rfl (chk_rowI _ _ _ _)) ?_ | refine br_t (by omega) ?_ | refine br_f (by omega) ?_ | refine bs_t (by omega) ?_ | refine bs_f (by omega) ?_ | refine fun (K' : K3) hK' => ?_ | (refine hK' _ _ _ ?_; clear hK' K') | refine draw_auto tok mixed (by kernel_rfl) ?_ | (refine And.intro ⟨by omega, by omega, by rw [h3]; dsimp only [inK]; omega⟩ ?_) | refine bs_bt (Eq.refl true) ?_ | refine bs_bf (Eq.refl false) ?_ | refine br_bt (Eq.refl true) ?_ | refine br_bf (Eq.refl false) ?_ | refine CallK.m ?_ | refine Two.l ?_ | refine And.intro (And.intro rfl rfl) ?_)
  intro ρ
  show Value.int _ _ = Value.int _ _
  rw [h3, bit_or (by omega) (by omega)]
/-- Pairs that clash, as the map holds them. -/
def bm2 (f : Cell → Bool) : MF := fun k => match k with
  | [i, j] => if f (i, j) then some (.b true) else none
  | _ => none
theorem bm2_look (f : Cell → Bool) (p : Cell) : bm2 f [p.1, p.2] = if f p then some (.b true) else none := rfl
theorem bm2_upd (f : Cell → Bool) (p : Cell) : updF (bm2 f) [p.1, p.2] (.b true) = bm2 (fun q => f q || decide (q = p)) := by
  funext k
  unfold updF
  match k with
  | [] => rfl
  | [_] => simp [bm2]
  | [i, j] =>
    by_cases h : (i, j) = p
    · obtain ⟨rfl, rfl⟩ := Prod.mk.inj h
      simp [bm2]
    · have : ¬ ([i, j] : List Int) = [p.1, p.2] := by
        intro hh; apply h; simp only [List.cons.injEq, and_true] at hh; exact Prod.ext hh.1 hh.2
      simp only [this, if_false, bm2, h, decide_false, Bool.or_false]
  | _ :: _ :: _ :: _ => simp [bm2]
def cz : Cell := (0, 0)
def badP (N : Int) (ps : List Cell) (k : Nat) : Bool :=
  decide ((ps.getD k cz).1 < 0) || (decide ((ps.getD k cz).1 ≥ (ps.getD k cz).2) || (decide ((ps.getD k cz).2 ≥ N) || (ps.take k).any fun q => decide (q = ps.getD k cz)))
def okPk (N : Int) (ps : List Cell) (k : Nat) : Bool := (List.range k).all fun j => !badP N ps j
def okK' (N : Int) (ps : List Cell) : Bool := decide (1 ≤ N ∧ N ≤ 8) && okPk N ps ps.length
theorem okPk_succ (N : Int) (ps : List Cell) (k : Nat) : okPk N ps (k + 1) = (okPk N ps k && !badP N ps k) := by
  simp [okPk, List.range_succ, List.all_append]
theorem okPk_false {N : Int} {ps : List Cell} {k : Nat} (hk : k < ps.length) (h : badP N ps k = true) : okPk N ps ps.length = false := by
  unfold okPk
  rw [List.all_eq_false]
  exact ⟨k, by simpa using hk, by simp [h]⟩
def seenP (ps : List Cell) (k : Nat) (p : Cell) : Bool := (ps.take k).any fun q => decide (q = p)
theorem seenP_succ {ps : List Cell} {k : Nat} (hk : k < ps.length) : seenP ps (k + 1) = fun q => seenP ps k q || decide (q = ps.getD k cz) := by
  funext q
  unfold seenP
  rw [List.take_add_one, show ps[k]?.toList = [ps.getD k cz] by rw [List.getElem?_eq_getElem hk, List.getD_eq_getElem?_getD, List.getElem?_eq_getElem hk]; rfl]
  rw [List.any_append]
  congr 1
  simp only [List.any_cons, List.any_nil, Bool.or_false]
  rw [Bool.eq_iff_iff]; simp; exact eq_comm
set_option maxRecDepth 10000 in
set_option maxHeartbeats 4000000 in
theorem valid_spec (N : Int) (ps : List Cell) (hl : ps.length ≤ 100) : Spec Tryd.prog 21 [V.agg [C.i N, C.sl 0 ps.length]] [⟨0, .ro 2, cellC ps⟩] 1 (Is (V.c (.bool (okK' N ps)))) := by
  have hcl := cellC_len ps
  refine Spec.of tok Tryd.func21 rfl rfl rfl fun n0 cx => vc_ok tok ?_
  by_cases h1 : 1 ≤ N ∧ N ≤ 8
  · repeat ((conv => whnf); first | (refine And.intro (by first | omega | exact Nat.le_of_ble_eq_true rfl | (dsimp only [inK]; omega) | (simp only [mulS_eq]; omega) | (simp only [mulS_eq, setL_length]; omega) | (simp only [setL_length]; omega) | (simp only [setL_length, List.length_map]; omega) | (exact ⟨by omega, by omega, by first | exact Nat.le_of_ble_eq_true rfl | (dsimp only; omega) | (simp only [setL_length]; omega) | (simp only [setL_length, List.length_map]; omega)⟩) | (exact ⟨by omega, by first | rfl | omega, by omega, Nat.le_of_ble_eq_true rfl, Nat.le_of_ble_eq_true rfl⟩) | (exact ⟨rfl, rfl, rfl, Nat.le_of_ble_eq_true rfl, by first | rfl | omega | exact Nat.le_of_ble_eq_true rfl | (dsimp only; omega) | (simp; done) | (simp; omega), by first | rfl | omega | exact Nat.le_of_ble_eq_true rfl | (dsimp only; omega) | (simp; done) | (simp; omega), by omega, Nat.le_of_ble_eq_true rfl⟩) | exact Eq.refl true) ?_) | refine Exists.intro _ (And.intro rfl ?_) | refine And.intro (And.intro rfl (chk_rowI _ _ _ _)) ?_ | refine br_t (by omega) ?_ | refine br_f (by omega) ?_ | refine bs_t (by omega) ?_ | refine bs_f (by omega) ?_ | refine fun (K' : K3) hK' => ?_ | (refine hK' _ _ _ ?_; clear hK' K') | refine draw_auto tok mixed (by kernel_rfl) ?_ | refine CallK.val (R := []) (between_spec _ _ _) (by kernel_rfl) rfl (by simp [V.wf, A.wf, C.wf, V.i]) trivial rfl rfl trivial ?_ | refine br_bf (nd_f h1) ?_ | refine bs_bt (Eq.refl true) ?_ | refine bs_bf (Eq.refl false) ?_ | refine br_bt (Eq.refl true) ?_ | refine br_bf (Eq.refl false) ?_ | refine CallK.m ?_ | refine Two.l ?_ | refine And.intro (And.intro rfl rfl) ?_)
    refine Tri.loop (γ := Nat) (fun k => k ≤ ps.length ∧ okPk N ps k = true) (fun k => [(1, V.c (.ptr 1 0)), (2, V.c .ff), (3, V.c (.mp 2)), (12, V.c (.sl 0 ps.length)), (13, V.i ps.length), (14, V.i (k : Nat))])
      (fun k => [⟨2, .mp true (.arr 2) (bm2 (seenP ps k)), []⟩, ⟨1, .own 24, [C.i N, .sl 0 ps.length]⟩, ⟨0, .ro 2, cellC ps⟩]) 3 (fun k => ps.length - k) 0 (R0 := []) ?_ ?_ ?_
    · exact ⟨by omega, rfl⟩
    · skip
      refine ⟨?_, ?_, rfl, rfl, by first | exact Nat.le_of_ble_eq_true rfl | exact Nat.le_refl _ | omega⟩
      · repeat (first | exact trivial | (refine And.intro (covS_syn (by rfl) rfl (by first | exact trivial | exact Nat.le_of_ble_eq_true rfl | exact hy | (first | ((show ∀ p ∈ (_ : List (Nat × Nat)), p.1 < _); decide) | exact (fun p hp => nomatch hp)) | (show (_ : Nat) < _; omega))) ?_) | refine And.intro (covS_bool rfl rfl (by rfl)) ?_)
      · repeat (first | exact trivial | (refine And.intro (covE_mp rfl (Nat.le_of_ble_eq_true rfl) rfl (by funext k; match k with | [] => rfl | [_] => rfl | [_, _] => rfl | _ :: _ :: _ :: _ => rfl)) ?_) | (refine And.intro (covE_id (Nat.le_of_ble_eq_true rfl) (by first | exact wf_ints _ _ | exact wf_bools _ _ | first | exact wf_cells _ _ | simp [C.wf]) rfl (by rfl)) ?_))
    · rintro k ⟨hk, hok⟩
      refine vc_ok tok ?_
      by_cases hlt : k < ps.length
      · have hbad : badP N ps k = (decide ((ps.getD k cz).1 < 0) || (decide ((ps.getD k cz).1 ≥ (ps.getD k cz).2) || (decide ((ps.getD k cz).2 ≥ N) || seenP ps k (ps.getD k cz)))) := rfl
        have hsucc := seenP_succ hlt
        have hld := cellT (l := ps) (k := k) rfl hlt
        change takeC (cellC ps) (mulS ((k : Nat) : Int).toNat 2) 2 = some [C.i (ps.getD k cz).1, C.i (ps.getD k cz).2] at hld
        have fails : badP N ps k = true → okK' N ps = false := fun h => by
          unfold okK'; rw [okPk_false hlt h]; simp
        obtain ⟨p, hp⟩ : ∃ p, p = ps.getD k cz := ⟨_, rfl⟩
        rw [← hp] at hbad hsucc hld
        by_cases h2 : p.1 < 0
        · repeat ((conv => whnf); first | (refine And.intro (by first | omega | exact Nat.le_of_ble_eq_true rfl | (dsimp only [inK]; omega) | (simp only [mulS_eq]; omega) | (simp only [mulS_eq, setL_length]; omega) | (simp only [setL_length]; omega) | (simp only [setL_length, List.length_map]; omega) | (exact ⟨by omega, by omega, by first | exact Nat.le_of_ble_eq_true rfl | (dsimp only; omega) | (simp only [setL_length]; omega) | (simp only [setL_length, List.length_map]; omega)⟩) | (exact ⟨by omega, by first | rfl | omega, by omega, Nat.le_of_ble_eq_true rfl, Nat.le_of_ble_eq_true rfl⟩) | (exact ⟨rfl, rfl, rfl, Nat.le_of_ble_eq_true rfl, by first | rfl | omega | exact Nat.le_of_ble_eq_true rfl | (dsimp only; omega) | (simp; done) | (simp; omega), by first | rfl | omega | exact Nat.le_of_ble_eq_true rfl | (dsimp only; omega) | (simp; done) | (simp; omega), by omega, Nat.le_of_ble_eq_true rfl⟩) | exact Eq.refl true) ?_) | with_reducible refine ld (hld) ?_ | refine Exists.intro _ (And.intro rfl ?_) | refine And.intro (And.intro rfl (chk_rowI _ _ _ _)) ?_ | refine br_t (by omega) ?_ | refine br_f (by omega) ?_ | refine bs_t (by omega) ?_ | refine bs_f (by omega) ?_ | refine fun (K' : K3) hK' => ?_ | (refine hK' _ _ _ ?_; clear hK' K') | refine draw_auto tok mixed (by kernel_rfl) ?_ | refine bs_t h2 ?_ | refine br_t h2 ?_ | refine bs_bt (Eq.refl true) ?_ | refine bs_bf (Eq.refl false) ?_ | refine br_bt (Eq.refl true) ?_ | refine br_bf (Eq.refl false) ?_ | refine CallK.m ?_ | refine Two.l ?_ | refine And.intro (And.intro rfl rfl) ?_)
          intro ρ; rw [fails (by rw [hbad]; simp [h2])]; rfl
        · by_cases h3 : p.1 ≥ p.2
          · repeat ((conv => whnf); first | (refine And.intro (by first | omega | exact Nat.le_of_ble_eq_true rfl | (dsimp only [inK]; omega) | (simp only [mulS_eq]; omega) | (simp only [mulS_eq, setL_length]; omega) | (simp only [setL_length]; omega) | (simp only [setL_length, List.length_map]; omega) | (exact ⟨by omega, by omega, by first | exact Nat.le_of_ble_eq_true rfl | (dsimp only; omega) | (simp only [setL_length]; omega) | (simp only [setL_length, List.length_map]; omega)⟩) | (exact ⟨by omega, by first | rfl | omega, by omega, Nat.le_of_ble_eq_true rfl, Nat.le_of_ble_eq_true rfl⟩) | (exact ⟨rfl, rfl, rfl, Nat.le_of_ble_eq_true rfl, by first | rfl | omega | exact Nat.le_of_ble_eq_true rfl | (dsimp only; omega) | (simp; done) | (simp; omega), by first | rfl | omega | exact Nat.le_of_ble_eq_true rfl | (dsimp only; omega) | (simp; done) | (simp; omega), by omega, Nat.le_of_ble_eq_true rfl⟩) | exact Eq.refl true) ?_) | with_reducible refine ld (hld) ?_ | refine Exists.intro _ (And.intro rfl ?_) | refine And.intro (And.intro rfl (chk_rowI _ _ _ _)) ?_ | refine br_t (by omega) ?_ | refine br_f (by omega) ?_ | refine bs_t (by omega) ?_ | refine bs_f (by omega) ?_ | refine fun (K' : K3) hK' => ?_ | (refine hK' _ _ _ ?_; clear hK' K') | refine draw_auto tok mixed (by kernel_rfl) ?_ | refine bs_f h2 ?_ | refine br_f h2 ?_ | refine bs_t h3 ?_ | refine br_t h3 ?_ | refine bs_bt (Eq.refl true) ?_ | refine bs_bf (Eq.refl false) ?_ | refine br_bt (Eq.refl true) ?_ | refine br_bf (Eq.refl false) ?_ | refine CallK.m ?_ | refine Two.l ?_ | refine And.intro (And.intro rfl rfl) ?_)
            intro ρ; rw [fails (by rw [hbad]; simp [h3])]; rfl
          · by_cases h4 : p.2 ≥ N
            · repeat ((conv => whnf); first | (refine And.intro (by first | omega | exact Nat.le_of_ble_eq_true rfl | (dsimp only [inK]; omega) | (simp only [mulS_eq]; omega) | (simp only [mulS_eq, setL_length]; omega) | (simp only [setL_length]; omega) | (simp only [setL_length, List.length_map]; omega) | (exact ⟨by omega, by omega, by first | exact Nat.le_of_ble_eq_true rfl | (dsimp only; omega) | (simp only [setL_length]; omega) | (simp only [setL_length, List.length_map]; omega)⟩) | (exact ⟨by omega, by first | rfl | omega, by omega, Nat.le_of_ble_eq_true rfl, Nat.le_of_ble_eq_true rfl⟩) | (exact ⟨rfl, rfl, rfl, Nat.le_of_ble_eq_true rfl, by first | rfl | omega | exact Nat.le_of_ble_eq_true rfl | (dsimp only; omega) | (simp; done) | (simp; omega), by first | rfl | omega | exact Nat.le_of_ble_eq_true rfl | (dsimp only; omega) | (simp; done) | (simp; omega), by omega, Nat.le_of_ble_eq_true rfl⟩) | exact Eq.refl true) ?_) | with_reducible refine ld (hld) ?_ | refine Exists.intro _ (And.intro rfl ?_) | refine And.intro (And.intro rfl (chk_rowI _ _ _ _)) ?_ | refine br_t (by omega) ?_ | refine br_f (by omega) ?_ | refine bs_t (by omega) ?_ | refine bs_f (by omega) ?_ | refine fun (K' : K3) hK' => ?_ | (refine hK' _ _ _ ?_; clear hK' K') | refine draw_auto tok mixed (by kernel_rfl) ?_ | refine bs_f h2 ?_ | refine br_f h2 ?_ | refine bs_f h3 ?_ | refine br_f h3 ?_ | refine bs_t h4 ?_ | refine br_t h4 ?_ | refine bs_bt (Eq.refl true) ?_ | refine bs_bf (Eq.refl false) ?_ | refine br_bt (Eq.refl true) ?_ | refine br_bf (Eq.refl false) ?_ | refine CallK.m ?_ | refine Two.l ?_ | refine And.intro (And.intro rfl rfl) ?_)
              intro ρ; rw [fails (by rw [hbad]; simp [h4])]; rfl
            · have hin : inL [p.1, p.2] := ⟨⟨by omega, by omega⟩, ⟨by omega, by omega⟩, trivial⟩
              cases h5 : seenP ps k p with
              | true =>
                have hm : bm2 (seenP ps k) [p.1, p.2] = some (.b true) := by rw [bm2_look, h5]; rfl
                repeat ((conv => whnf); first | (refine And.intro (by first | omega | exact Nat.le_of_ble_eq_true rfl | (dsimp only [inK]; omega) | (simp only [mulS_eq]; omega) | (simp only [mulS_eq, setL_length]; omega) | (simp only [setL_length]; omega) | (simp only [setL_length, List.length_map]; omega) | (exact ⟨by omega, by omega, by first | exact Nat.le_of_ble_eq_true rfl | (dsimp only; omega) | (simp only [setL_length]; omega) | (simp only [setL_length, List.length_map]; omega)⟩) | (exact ⟨by omega, by first | rfl | omega, by omega, Nat.le_of_ble_eq_true rfl, Nat.le_of_ble_eq_true rfl⟩) | (exact ⟨rfl, rfl, rfl, Nat.le_of_ble_eq_true rfl, by first | rfl | omega | exact Nat.le_of_ble_eq_true rfl | (dsimp only; omega) | (simp; done) | (simp; omega), by first | rfl | omega | exact Nat.le_of_ble_eq_true rfl | (dsimp only; omega) | (simp; done) | (simp; omega), by omega, Nat.le_of_ble_eq_true rfl⟩) | exact Eq.refl true) ?_) | with_reducible refine ld (hld) ?_ | with_reducible refine lkm (hm) ?_ | refine Exists.intro _ (And.intro rfl ?_) | refine And.intro (And.intro rfl (chk_rowI _ _ _ _)) ?_ | refine br_t (by omega) ?_ | refine br_f (by omega) ?_ | refine bs_t (by omega) ?_ | refine bs_f (by omega) ?_ | refine fun (K' : K3) hK' => ?_ | (refine hK' _ _ _ ?_; clear hK' K') | refine draw_auto tok mixed (by kernel_rfl) ?_ | refine And.intro ⟨rfl, hin⟩ ?_ | refine bs_f h2 ?_ | refine br_f h2 ?_ | refine bs_f h3 ?_ | refine br_f h3 ?_ | refine bs_f h4 ?_ | refine br_f h4 ?_ | refine bs_bt (Eq.refl true) ?_ | refine bs_bf (Eq.refl false) ?_ | refine br_bt (Eq.refl true) ?_ | refine br_bf (Eq.refl false) ?_ | refine CallK.m ?_ | refine Two.l ?_ | refine And.intro (And.intro rfl rfl) ?_)
                intro ρ; rw [fails (by rw [hbad, h5]; simp)]; rfl
              | false =>
                have hm : bm2 (seenP ps k) [p.1, p.2] = none := by rw [bm2_look, h5]; rfl
                repeat ((conv => whnf); first | (refine And.intro (by first | omega | exact Nat.le_of_ble_eq_true rfl | (dsimp only [inK]; omega) | (simp only [mulS_eq]; omega) | (simp only [mulS_eq, setL_length]; omega) | (simp only [setL_length]; omega) | (simp only [setL_length, List.length_map]; omega) | (exact ⟨by omega, by omega, by first | exact Nat.le_of_ble_eq_true rfl | (dsimp only; omega) | (simp only [setL_length]; omega) | (simp only [setL_length, List.length_map]; omega)⟩) | (exact ⟨by omega, by first | rfl | omega, by omega, Nat.le_of_ble_eq_true rfl, Nat.le_of_ble_eq_true rfl⟩) | (exact ⟨rfl, rfl, rfl, Nat.le_of_ble_eq_true rfl, by first | rfl | omega | exact Nat.le_of_ble_eq_true rfl | (dsimp only; omega) | (simp; done) | (simp; omega), by first | rfl | omega | exact Nat.le_of_ble_eq_true rfl | (dsimp only; omega) | (simp; done) | (simp; omega), by omega, Nat.le_of_ble_eq_true rfl⟩) | exact Eq.refl true) ?_) | with_reducible refine ld (hld) ?_ | with_reducible refine lkm (hm) ?_ | refine Exists.intro _ (And.intro rfl ?_) | refine And.intro (And.intro rfl (chk_rowI _ _ _ _)) ?_ | refine br_t (by omega) ?_ | refine br_f (by omega) ?_ | refine bs_t (by omega) ?_ | refine bs_f (by omega) ?_ | refine fun (K' : K3) hK' => ?_ | (refine hK' _ _ _ ?_; clear hK' K') | refine draw_auto tok mixed (by kernel_rfl) ?_ | refine And.intro ⟨rfl, hin⟩ ?_ | refine bs_f h2 ?_ | refine br_f h2 ?_ | refine bs_f h3 ?_ | refine br_f h3 ?_ | refine bs_f h4 ?_ | refine br_f h4 ?_ | refine bs_bt (Eq.refl true) ?_ | refine bs_bf (Eq.refl false) ?_ | refine br_bt (Eq.refl true) ?_ | refine br_bf (Eq.refl false) ?_ | refine CallK.m ?_ | refine Two.l ?_ | refine And.intro (And.intro rfl rfl) ?_)
                refine ⟨k + 1, [], ⟨by omega, by rw [okPk_succ, hok, hbad, dd_f h2, dd_f h3, dd_f h4, h5]; rfl⟩, by omega, ?_⟩
                refine ⟨?_, ?_, rfl, rfl, by first | exact Nat.le_of_ble_eq_true rfl | exact Nat.le_refl _ | omega⟩
                · repeat (first | exact trivial | (refine And.intro (covS_syn (by first | rfl | (refine congrArg some (congrArg V.i ?_); omega)) rfl (by first | exact trivial | exact Nat.le_of_ble_eq_true rfl | exact hy | (first | ((show ∀ p ∈ (_ : List (Nat × Nat)), p.1 < _); decide) | exact (fun p hp => nomatch hp)) | (show (_ : Nat) < _; omega))) ?_) | refine And.intro (covS_bool rfl rfl (by rfl)) ?_)
                · repeat (first | exact trivial | refine And.intro (covE_mp rfl (Nat.le_of_ble_eq_true rfl) rfl (by rw [bm2_upd, hsucc])) ?_ | (refine And.intro (covE_id (Nat.le_of_ble_eq_true rfl) (by first | exact wf_ints _ _ | exact wf_bools _ _ | first | exact wf_cells _ _ | simp [C.wf]) rfl (by rfl)) ?_))
      · have hkl : k = ps.length := by omega
        subst hkl
        repeat ((conv => whnf); first | (refine And.intro (by first | omega | exact Nat.le_of_ble_eq_true rfl | (dsimp only [inK]; omega) | (simp only [mulS_eq]; omega) | (simp only [mulS_eq, setL_length]; omega) | (simp only [setL_length]; omega) | (simp only [setL_length, List.length_map]; omega) | (exact ⟨by omega, by omega, by first | exact Nat.le_of_ble_eq_true rfl | (dsimp only; omega) | (simp only [setL_length]; omega) | (simp only [setL_length, List.length_map]; omega)⟩) | (exact ⟨by omega, by first | rfl | omega, by omega, Nat.le_of_ble_eq_true rfl, Nat.le_of_ble_eq_true rfl⟩) | (exact ⟨rfl, rfl, rfl, Nat.le_of_ble_eq_true rfl, by first | rfl | omega | exact Nat.le_of_ble_eq_true rfl | (dsimp only; omega) | (simp; done) | (simp; omega), by first | rfl | omega | exact Nat.le_of_ble_eq_true rfl | (dsimp only; omega) | (simp; done) | (simp; omega), by omega, Nat.le_of_ble_eq_true rfl⟩) | exact Eq.refl true) ?_) | refine Exists.intro _ (And.intro rfl ?_) | refine And.intro (And.intro rfl (chk_rowI _ _ _ _)) ?_ | refine br_t (by omega) ?_ | refine br_f (by omega) ?_ | refine bs_t (by omega) ?_ | refine bs_f (by omega) ?_ | refine fun (K' : K3) hK' => ?_ | (refine hK' _ _ _ ?_; clear hK' K') | refine draw_auto tok mixed (by kernel_rfl) ?_ | refine bs_bt (Eq.refl true) ?_ | refine bs_bf (Eq.refl false) ?_ | refine br_bt (Eq.refl true) ?_ | refine br_bf (Eq.refl false) ?_ | refine CallK.m ?_ | refine Two.l ?_ | refine And.intro (And.intro rfl rfl) ?_)
        intro ρ; show Value.bool _ = Value.bool _; unfold okK'; rw [hok]; simp [h1]
  · repeat ((conv => whnf); first | (refine And.intro (by first | omega | exact Nat.le_of_ble_eq_true rfl | (dsimp only [inK]; omega) | (simp only [mulS_eq]; omega) | (simp only [mulS_eq, setL_length]; omega) | (simp only [setL_length]; omega) | (simp only [setL_length, List.length_map]; omega) | (exact ⟨by omega, by omega, by first | exact Nat.le_of_ble_eq_true rfl | (dsimp only; omega) | (simp only [setL_length]; omega) | (simp only [setL_length, List.length_map]; omega)⟩) | (exact ⟨by omega, by first | rfl | omega, by omega, Nat.le_of_ble_eq_true rfl, Nat.le_of_ble_eq_true rfl⟩) | (exact ⟨rfl, rfl, rfl, Nat.le_of_ble_eq_true rfl, by first | rfl | omega | exact Nat.le_of_ble_eq_true rfl | (dsimp only; omega) | (simp; done) | (simp; omega), by first | rfl | omega | exact Nat.le_of_ble_eq_true rfl | (dsimp only; omega) | (simp; done) | (simp; omega), by omega, Nat.le_of_ble_eq_true rfl⟩) | exact Eq.refl true) ?_) | refine Exists.intro _ (And.intro rfl ?_) | refine And.intro (And.intro rfl (chk_rowI _ _ _ _)) ?_ | refine br_t (by omega) ?_ | refine br_f (by omega) ?_ | refine bs_t (by omega) ?_ | refine bs_f (by omega) ?_ | refine fun (K' : K3) hK' => ?_ | (refine hK' _ _ _ ?_; clear hK' K') | refine draw_auto tok mixed (by kernel_rfl) ?_ | refine CallK.val (R := []) (between_spec _ _ _) (by kernel_rfl) rfl (by simp [V.wf, A.wf, C.wf, V.i]) trivial rfl rfl trivial ?_ | refine br_bt (nd_t h1) ?_ | refine bs_bt (Eq.refl true) ?_ | refine bs_bf (Eq.refl false) ?_ | refine br_bt (Eq.refl true) ?_ | refine br_bf (Eq.refl false) ?_ | refine CallK.m ?_ | refine Two.l ?_ | refine And.intro (And.intro rfl rfl) ?_)
    intro ρ; show Value.bool _ = Value.bool _; unfold okK'; simp [h1]
end Go.Proofs.YtijnimgmpocmaaaDoor

/- Waste: newTable. -/
namespace Go.Proofs.YtijnimgmpocmaaaDoor
open Go.RowKit
set_option linter.unusedVariables false
set_option linter.unusedSimpArgs false
theorem wf_us (n : Nat) (l : List Nat) : ∀ c ∈ l.map C.u, c.wf n := by
  intro c hc; obtain ⟨x, _, rfl⟩ := List.mem_map.1 hc; trivial
theorem chk_us (p : Nat → Bool) (l : List Nat) : (l.map C.u).all (C.chk p) = true := List.all_eq_true.2 fun c hc => by
  obtain ⟨x, _, rfl⟩ := List.mem_map.1 hc; rfl
theorem ren_us (R : Rn) (l : List Nat) : seqO ((l.map C.u).map (C.ren R)) = some (l.map C.u) := seqO_fix fun c hc => by
  obtain ⟨x, _, rfl⟩ := List.mem_map.1 hc; rfl
theorem uLz {l : List Nat} {k : Nat} {z : Int} (hz : z = k) (h : k < l.length) : (l.map C.u)[mulS z.toNat 1]? = some (C.u (l.getD k 0)) := by
  subst hz; rw [mulS_eq]; simp [h, List.getD_eq_getElem?_getD]
theorem setU {l : List Nat} {k x : Nat} {z y : Int} (hz : z = k) (hy : y = (x : Nat)) : setL (l.map C.u) (mulS z.toNat 1) [C.int .u64 y] = (l.set k x).map C.u := by
  subst hz hy; rw [mulS_eq]; simp [setL, List.map_set]
theorem setI {l : List Int} {k : Nat} {z x : Int} (hz : z = k) : setL (l.map C.i) (mulS z.toNat 1) [C.i x] = (l.set k x).map C.i := by
  subst hz; rw [mulS_eq]; simp [setL, List.map_set]
theorem repU (n : Nat) : repC n [C.int .u64 0] = (List.replicate n 0).map C.u := by
  induction n with
  | zero => rfl
  | succ n ih => rw [List.replicate_succ, List.map_cons, ← ih]; rfl
theorem repI (n : Nat) : repC n [C.int .i64 0] = (List.replicate n 0).map C.i := by
  induction n with
  | zero => rfl
  | succ n ih => rw [List.replicate_succ, List.map_cons, ← ih]; rfl
/-- Pairs of kinds, as cells. -/
def castP (qs : List (Nat × Nat)) : List Cell := qs.map fun p => ((p.1 : Int), (p.2 : Int))
theorem castP_len (qs : List (Nat × Nat)) : (castP qs).length = qs.length := by simp [castP]
theorem castP_get {qs : List (Nat × Nat)} {k : Nat} (h : k < qs.length) : (castP qs).getD k cz = (((qs.getD k (0, 0)).1 : Int), ((qs.getD k (0, 0)).2 : Int)) := by
  simp [castP, List.getD_eq_getElem?_getD, h]
theorem okPk_iff {N : Int} {ps : List Cell} : okPk N ps ps.length = true ↔ (∀ p ∈ ps, 0 ≤ p.1 ∧ p.1 < p.2 ∧ p.2 < N) ∧ ps.Nodup := by
  unfold okPk
  rw [List.all_eq_true]
  have hg : ∀ {k}, (h : k < ps.length) → ps.getD k cz = ps[k] := fun {k} h => by simp [List.getD_eq_getElem?_getD, h]
  constructor
  · intro h
    constructor
    · intro p hp
      obtain ⟨k, hk, rfl⟩ := List.mem_iff_getElem.1 hp
      have := h k (by simpa using hk)
      simp only [badP, Bool.not_eq_true', Bool.or_eq_false_iff, decide_eq_false_iff_not, hg hk] at this
      omega
    · rw [List.nodup_iff_pairwise_ne, List.pairwise_iff_getElem]
      intro i j hi hj hij he
      have := h j (by simpa using hj)
      simp only [badP, Bool.not_eq_true', Bool.or_eq_false_iff, hg hj] at this
      have h4 := this.2.2.2
      rw [List.any_eq_false] at h4
      exact h4 ps[i] (by rw [List.mem_take_iff_getElem]; exact ⟨i, by omega, rfl⟩) (by simpa using he)
  · rintro ⟨h1, h2⟩ k hk
    have hk : k < ps.length := by simpa using hk
    have h3 := h1 _ (List.getElem_mem hk)
    simp only [badP, Bool.not_eq_true', Bool.or_eq_false_iff, decide_eq_false_iff_not, hg hk]
    refine ⟨by omega, by omega, by omega, ?_⟩
    rw [List.any_eq_false]
    intro q hq he
    rw [List.mem_take_iff_getElem] at hq
    obtain ⟨i, hi, rfl⟩ := hq
    rw [List.nodup_iff_pairwise_ne, List.pairwise_iff_getElem] at h2
    exact h2 i k (by omega) hk (by omega) (by simpa using he)
/-- Valid kinds, by numbers. -/
structure Knd (n : Nat) (qs : List (Nat × Nat)) : Prop where
  rng : 1 ≤ n ∧ n ≤ 8
  ok : okPs n qs
  nd : qs.Nodup
theorem knd_of {N : Int} {ps : List Cell} (h : okK' N ps = true) : ∃ n qs, N = (n : Nat) ∧ ps = castP qs ∧ Knd n qs := by
  simp only [okK', Bool.and_eq_true, decide_eq_true_iff] at h
  obtain ⟨h1, h2⟩ := h
  obtain ⟨h3, h4⟩ := okPk_iff.1 h2
  refine ⟨N.toNat, ps.map fun p => (p.1.toNat, p.2.toNat), by omega, ?_, ⟨by omega, ?_, ?_⟩⟩
  · rw [castP, List.map_map]
    have : ∀ p ∈ ps, (((p.1.toNat : Nat) : Int), ((p.2.toNat : Nat) : Int)) = p := fun p hp => by
      have := h3 p hp
      exact Prod.ext (by simp only; omega) (by simp only; omega)
    conv => lhs; rw [← List.map_id ps]
    exact List.map_congr_left fun p hp => (this p hp).symm
  · intro p hp
    obtain ⟨q, hq, rfl⟩ := List.mem_map.1 hp
    have := h3 q hq
    simp only; omega
  · rw [List.nodup_iff_pairwise_ne, List.pairwise_map]
    have h5 := List.nodup_iff_pairwise_ne.1 h4
    refine (List.Pairwise.and_mem.1 h5).imp ?_
    rintro a b ⟨ha, hb, hne⟩ he
    have h6 := h3 a ha; have h7 := h3 b hb
    simp only [Prod.mk.injEq] at he
    exact hne (Prod.ext (by omega) (by omega))
theorem knd_ok {n : Nat} {qs : List (Nat × Nat)} (h : Knd n qs) : okK' n (castP qs) = true := by
  simp only [okK', Bool.and_eq_true, decide_eq_true_iff]
  refine ⟨by have := h.rng; omega, okPk_iff.2 ⟨fun p hp => ?_, ?_⟩⟩
  · obtain ⟨q, hq, rfl⟩ := List.mem_map.1 hp
    have := h.ok q hq
    simp only; omega
  · rw [castP, List.nodup_iff_pairwise_ne, List.pairwise_map]
    refine (List.nodup_iff_pairwise_ne.1 h.nd).imp ?_
    intro a b hne he
    simp only [Prod.mk.injEq] at he
    exact hne (Prod.ext (by omega) (by omega))
theorem knd_len {n : Nat} {qs : List (Nat × Nat)} (h : Knd n qs) : qs.length ≤ 28 := by
  have hm : ∀ q ∈ qs, q ∈ (List.range 8).flatMap fun b => (List.range b).map fun a => (a, b) := fun q hq => by
    have := h.ok q hq
    have := h.rng
    rw [List.mem_flatMap]
    exact ⟨q.2, List.mem_range.2 (by omega), List.mem_map.2 ⟨q.1, List.mem_range.2 (by omega), rfl⟩⟩
  have h1 : ((List.range 8).flatMap fun b => (List.range b).map fun a => (a, b)).length = 28 := by decide
  have : ∀ {l m : List (Nat × Nat)}, l.Nodup → (∀ x ∈ l, x ∈ m) → l.length ≤ m.length := by
    intro l
    induction l with
    | nil => intro m _ _; simp
    | cons a r ih =>
      intro m hd hm
      obtain ⟨h1, h2⟩ := List.nodup_cons.1 hd
      have h3 := hm a (by simp)
      have := ih (m := m.erase a) h2 fun x hx => by
        have hxa : x ≠ a := fun e => h1 (e ▸ hx)
        exact (List.mem_erase_of_ne hxa).2 (hm x (by simp [hx]))
      rw [List.length_erase_of_mem h3] at this
      have := List.length_pos_of_mem h3
      simp only [List.length_cons]; omega
  have := this h.nd hm
  omega
def newTR (N : Int) (ps : List Cell) (v : V) (L' : List E) : Prop :=
  ∀ n qs, N = (n : Nat) → ps = castP qs → Knd n qs → ∃ l, v = V.tup [A.c (.sl l n), A.c (C.i 0)] ∧ find L' l = some ⟨l, .vec 75 1, (tabS n qs).map C.u⟩
theorem getD_lt {l : List Nat} {B : Nat} (hB : 0 < B) (h : ∀ s ∈ l, s < B) (k : Nat) : l.getD k 0 < B := by
  rcases Nat.lt_or_ge k l.length with h3 | h3
  · rw [List.getD_eq_getElem?_getD, List.getElem?_eq_getElem h3]; exact h _ (List.getElem_mem h3)
  · rw [List.getD_eq_getElem?_getD, List.getElem?_eq_none h3]; exact hB
theorem pow_8 {n : Nat} (h : n ≤ 8) : 2 ^ n ≤ 256 := by
  have := Nat.pow_le_pow_right (n := 2) (by omega) h; omega
def tabK (n : Nat) (qs : List (Nat × Nat)) (k : Nat) : List Nat := tabS n (qs.take k)
theorem tabK_succ {n k : Nat} {qs : List (Nat × Nat)} (h : k < qs.length) : tabK n qs (k + 1) = tab1 (tabK n qs k) (qs.getD k (0, 0)) := by
  unfold tabK tabS
  rw [List.take_add_one, show qs[k]?.toList = [qs.getD k (0, 0)] by rw [List.getElem?_eq_getElem h, List.getD_eq_getElem?_getD, List.getElem?_eq_getElem h]; rfl, List.foldl_append]
  rfl
theorem okPs_take {n k : Nat} {qs : List (Nat × Nat)} (h : okPs n qs) : okPs n (qs.take k) := fun p hp => h p (List.mem_of_mem_take hp)
theorem getD_mem {qs : List (Nat × Nat)} {k : Nat} (h : k < qs.length) : qs.getD k (0, 0) ∈ qs := by
  rw [List.getD_eq_getElem?_getD, List.getElem?_eq_getElem h]; exact List.getElem_mem h
set_option maxRecDepth 10000 in
set_option maxHeartbeats 4000000 in
theorem newTable_spec (n : Nat) (qs : List (Nat × Nat)) (hk : Knd n qs) : Spec Tryd.prog 55 [V.agg [C.i n, C.sl 0 (castP qs).length]] [⟨0, .ro 2, cellC (castP qs)⟩] 1
    (fun v L' _ => ∃ l, v = V.tup [A.c (.sl l n), A.c (C.i 0)] ∧ find L' l = some ⟨l, .vec 75 1, (tabS n qs).map C.u⟩) := by
  have hcl := cellC_len (castP qs)
  have hn := hk.rng
  have hql := knd_len hk
  have hpl := castP_len qs
  have hva := valid_spec n (castP qs) (by omega)
  rw [knd_ok hk] at hva
  have hrep := repU n
  refine Spec.of tok Tryd.func55 rfl rfl rfl fun n0 cx => vc_ok tok ?_
  repeat ((conv => whnf); first | (refine And.intro (by first | omega | exact Nat.le_of_ble_eq_true rfl | (dsimp only [inK]; omega) | (simp only [mulS_eq]; omega) | (simp only [mulS_eq, setL_length]; omega) | (simp only [setL_length]; omega) | (simp only [setL_length, List.length_map]; omega) | (exact ⟨by omega, by omega, by first | exact Nat.le_of_ble_eq_true rfl | (dsimp only; omega) | (simp only [setL_length]; omega) | (simp only [setL_length, List.length_map]; omega)⟩) | (exact ⟨by omega, by first | rfl | omega, by omega, Nat.le_of_ble_eq_true rfl, Nat.le_of_ble_eq_true rfl⟩) | (exact ⟨rfl, rfl, rfl, Nat.le_of_ble_eq_true rfl, by first | rfl | omega | exact Nat.le_of_ble_eq_true rfl | (dsimp only; omega) | (simp; done) | (simp; omega), by first | rfl | omega | exact Nat.le_of_ble_eq_true rfl | (dsimp only; omega) | (simp; done) | (simp; omega), by omega, Nat.le_of_ble_eq_true rfl⟩) | exact Eq.refl true) ?_) | refine Exists.intro _ (And.intro rfl ?_) | refine And.intro (And.intro rfl (chk_rowI _ _ _ _)) ?_ | refine br_t (by omega) ?_ | refine br_f (by omega) ?_ | refine bs_t (by omega) ?_ | refine bs_f (by omega) ?_ | refine fun (K' : K3) hK' => ?_ | (refine hK' _ _ _ ?_; clear hK' K') | refine draw_auto tok mixed (by kernel_rfl) ?_ | refine CallK.val (R := []) hva (by kernel_rfl) rfl (by simp [V.wf, A.wf, C.wf]) ⟨roE_id (by omega) (wf_cells _ _) rfl (.inr rfl) rfl, trivial⟩ rfl rfl trivial ?_ | refine bs_bt (Eq.refl true) ?_ | refine bs_bf (Eq.refl false) ?_ | refine br_bt (Eq.refl true) ?_ | refine br_bf (Eq.refl false) ?_ | refine CallK.m ?_ | refine Two.l ?_ | refine And.intro (And.intro rfl rfl) ?_)
  refine Tri.loop (γ := Nat) (fun k => k ≤ qs.length) (fun k => [(1, V.c (.ptr 1 0)), (2, V.c .nil), (3, V.i 0), (4, V.c (.sl 2 n)), (14, V.c (.sl 0 (castP qs).length)), (15, V.i (castP qs).length), (16, V.i (k : Nat))])
    (fun k => [⟨2, .vec 75 1, (tabK n qs k).map C.u⟩, ⟨1, .own 24, [C.i n, .sl 0 (castP qs).length]⟩, ⟨0, .ro 2, cellC (castP qs)⟩]) 3 (fun k => qs.length - k) 0 (R0 := []) ?_ ?_ ?_
  · omega
  · skip
    refine ⟨?_, ?_, rfl, rfl, by first | exact Nat.le_of_ble_eq_true rfl | exact Nat.le_refl _ | omega⟩
    · repeat (first | exact trivial | (refine And.intro (covS_syn (by rfl) rfl (by first | exact trivial | exact Nat.le_of_ble_eq_true rfl | exact hy | (first | ((show ∀ p ∈ (_ : List (Nat × Nat)), p.1 < _); decide) | exact (fun p hp => nomatch hp)) | (show (_ : Nat) < _; omega))) ?_) | refine And.intro (covS_bool rfl rfl (by rfl)) ?_)
    · repeat (first | exact trivial | (refine And.intro (covE_id (Nat.le_of_ble_eq_true rfl) (by first | exact wf_ints _ _ | exact wf_bools _ _ | first | exact wf_cells _ _ | exact wf_us _ _ | simp [C.wf]) rfl (by first | rfl | exact hrep)) ?_))
  · intro k hkl
    refine vc_ok tok ?_
    by_cases hlt : k < qs.length
    · have hld := cellT (l := castP qs) (k := k) rfl (by omega)
      change takeC (cellC (castP qs)) (mulS ((k : Nat) : Int).toNat 2) 2 = some [C.i ((castP qs).getD k cz).1, C.i ((castP qs).getD k cz).2] at hld
      rw [castP_get hlt] at hld
      have hsucc := tabK_succ (n := n) hlt
      have hpq := hk.ok _ (getD_mem hlt)
      have htl : (tabK n qs k).length = n := tabS_len _ _
      have htb : ∀ s ∈ tabK n qs k, s < 256 := fun s hs => Nat.lt_of_lt_of_le (tabS_lt (okPs_take hk.ok) s hs) (pow_8 hn.2)
      obtain ⟨p, hp⟩ : ∃ p, p = qs.getD k (0, 0) := ⟨_, rfl⟩
      obtain ⟨t, ht⟩ : ∃ t, t = tabK n qs k := ⟨_, rfl⟩
      rw [← hp] at hld hsucc hpq
      rw [← ht] at hsucc htl htb ⊢
      obtain ⟨a, b⟩ := p
      simp only at hld hpq
      have hlm : (t.map C.u).length = n := by rw [List.length_map, htl]
      have ha := getD_lt (by omega) htb a
      have hl1 : (t.map C.u)[mulS ((a : Nat) : Int).toNat 1]? = some (C.u (t.getD a 0)) := uLz rfl (by omega)
      obtain ⟨u, hu⟩ : ∃ u, u = t.getD a 0 ||| 2 ^ b := ⟨_, rfl⟩
      have hub : u < 256 := by rw [hu]; exact or_256 ha (pow_256 (by omega))
      have hw1 := with_spec (t.getD a 0) b ha (by omega)
      rw [← hu] at hw1
      have hs1 : setL (t.map C.u) (mulS ((a : Nat) : Int).toNat 1) [C.int .u64 (u : Int)] = (t.set a u).map C.u := setU rfl rfl
      have hb := getD_lt (B := 256) (l := t.set a u) (by omega) (fun s hs => by rcases List.mem_or_eq_of_mem_set hs with h | rfl; exact htb s h; exact hub) b
      have hl2 : (setL (t.map C.u) (mulS ((a : Nat) : Int).toNat 1) [C.int .u64 (u : Int)])[mulS ((b : Nat) : Int).toNat 1]? = some (C.u ((t.set a u).getD b 0)) := by
        rw [hs1]; exact uLz rfl (by rw [List.length_set]; omega)
      have hw2 := with_spec ((t.set a u).getD b 0) a hb (by omega)
      have hfin : setL (setL (t.map C.u) (mulS ((a : Nat) : Int).toNat 1) [C.int .u64 (u : Int)]) (mulS ((b : Nat) : Int).toNat 1) [C.int .u64 (((t.set a u).getD b 0 ||| 2 ^ a : Nat) : Int)] = (tabK n qs (k + 1)).map C.u := by
        rw [hs1, setU rfl rfl, hsucc, tab1, ← hu]
      repeat ((conv => whnf); first | (refine And.intro (by first | omega | exact Nat.le_of_ble_eq_true rfl | (dsimp only [inK]; omega) | (simp only [mulS_eq]; omega) | (simp only [mulS_eq, setL_length]; omega) | (simp only [setL_length]; omega) | (simp only [setL_length, List.length_map]; omega) | (exact ⟨by omega, by omega, by first | exact Nat.le_of_ble_eq_true rfl | (dsimp only; omega) | (simp only [setL_length]; omega) | (simp only [setL_length, List.length_map]; omega)⟩) | (exact ⟨by omega, by first | rfl | omega, by omega, Nat.le_of_ble_eq_true rfl, Nat.le_of_ble_eq_true rfl⟩) | (exact ⟨rfl, rfl, rfl, Nat.le_of_ble_eq_true rfl, by first | rfl | omega | exact Nat.le_of_ble_eq_true rfl | (dsimp only; omega) | (simp; done) | (simp; omega), by first | rfl | omega | exact Nat.le_of_ble_eq_true rfl | (dsimp only; omega) | (simp; done) | (simp; omega), by omega, Nat.le_of_ble_eq_true rfl⟩) | exact Eq.refl true) ?_) | with_reducible refine ld (hld) ?_ | with_reducible refine ld (hl1) ?_ | refine Exists.intro _ (And.intro rfl ?_) | refine And.intro (And.intro rfl (chk_rowI _ _ _ _)) ?_ | refine br_t (by omega) ?_ | refine br_f (by omega) ?_ | refine bs_t (by omega) ?_ | refine bs_f (by omega) ?_ | refine fun (K' : K3) hK' => ?_ | (refine hK' _ _ _ ?_; clear hK' K') | refine draw_auto tok mixed (by kernel_rfl) ?_ | refine (ld (hl2) ?_) | refine HD_mk (fun _ h => CallK.val (R := []) hw1 (by kernel_rfl) rfl (by simp [V.wf, A.wf, C.wf, V.i]) trivial rfl rfl trivial h) ?_ | refine HD_mk (fun _ h => CallK.val (R := []) hw2 (by kernel_rfl) rfl (by simp [V.wf, A.wf, C.wf, V.i]) trivial rfl rfl trivial h) ?_ | refine bs_bt (Eq.refl true) ?_ | refine bs_bf (Eq.refl false) ?_ | refine br_bt (Eq.refl true) ?_ | refine br_bf (Eq.refl false) ?_ | refine CallK.m ?_ | refine Two.l ?_ | refine And.intro (And.intro rfl rfl) ?_)
      refine ⟨k + 1, [], by omega, by omega, ?_⟩
      refine ⟨?_, ?_, rfl, rfl, by first | exact Nat.le_of_ble_eq_true rfl | exact Nat.le_refl _ | omega⟩
      · repeat (first | exact trivial | (refine And.intro (covS_syn (by first | rfl | (refine congrArg some (congrArg V.i ?_); omega)) rfl (by first | exact trivial | exact Nat.le_of_ble_eq_true rfl | exact hy | (first | ((show ∀ p ∈ (_ : List (Nat × Nat)), p.1 < _); decide) | exact (fun p hp => nomatch hp)) | (show (_ : Nat) < _; omega))) ?_) | refine And.intro (covS_bool rfl rfl (by rfl)) ?_)
      · repeat (first | exact trivial | (refine And.intro (covE_id (Nat.le_of_ble_eq_true rfl) (by first | exact wf_ints _ _ | exact wf_bools _ _ | first | exact wf_cells _ _ | exact wf_us _ _ | simp [C.wf]) rfl (by first | rfl | exact hfin)) ?_))
    · have hkl : k = qs.length := by omega
      subst hkl
      have hfin : tabK n qs qs.length = tabS n qs := by rw [tabK, List.take_length]
      rw [hfin]
      repeat ((conv => whnf); first | (refine And.intro (by first | omega | exact Nat.le_of_ble_eq_true rfl | (dsimp only [inK]; omega) | (simp only [mulS_eq]; omega) | (simp only [mulS_eq, setL_length]; omega) | (simp only [setL_length]; omega) | (simp only [setL_length, List.length_map]; omega) | (exact ⟨by omega, by omega, by first | exact Nat.le_of_ble_eq_true rfl | (dsimp only; omega) | (simp only [setL_length]; omega) | (simp only [setL_length, List.length_map]; omega)⟩) | (exact ⟨by omega, by first | rfl | omega, by omega, Nat.le_of_ble_eq_true rfl, Nat.le_of_ble_eq_true rfl⟩) | (exact ⟨rfl, rfl, rfl, Nat.le_of_ble_eq_true rfl, by first | rfl | omega | exact Nat.le_of_ble_eq_true rfl | (dsimp only; omega) | (simp; done) | (simp; omega), by first | rfl | omega | exact Nat.le_of_ble_eq_true rfl | (dsimp only; omega) | (simp; done) | (simp; omega), by omega, Nat.le_of_ble_eq_true rfl⟩) | exact Eq.refl true) ?_) | refine Exists.intro _ (And.intro rfl ?_) | refine And.intro (And.intro rfl (chk_rowI _ _ _ _)) ?_ | refine br_t (by omega) ?_ | refine br_f (by omega) ?_ | refine bs_t (by omega) ?_ | refine bs_f (by omega) ?_ | refine fun (K' : K3) hK' => ?_ | (refine hK' _ _ _ ?_; clear hK' K') | refine draw_auto tok mixed (by kernel_rfl) ?_ | refine bs_bt (Eq.refl true) ?_ | refine bs_bf (Eq.refl false) ?_ | refine br_bt (Eq.refl true) ?_ | refine br_bf (Eq.refl false) ?_ | refine CallK.m ?_ | refine Two.l ?_ | refine And.intro (And.intro rfl rfl) ?_)
      rfl
end Go.Proofs.YtijnimgmpocmaaaDoor

/- Waste: the lowest bit of a set. -/
namespace Go.Proofs.YtijnimgmpocmaaaDoor
open Go.RowKit
set_option linter.unusedVariables false
set_option linter.unusedSimpArgs false
set_option maxHeartbeats 1000000 in
theorem tz_core (x k idx : Nat) (w : World) (hx0 : ((x : Int) == 0) = false)
    (key : IntKind.u64.wrap (bits BinOp.and IntKind.u64 (x : Int) (IntKind.u64.wrap (-(x : Int))) * 285870213051353865) / 288230376151711744 = (idx : Int))
    (hi : idx < 64) (hk : k < 64) (hcell : w.cell? ⟨1, idx, none⟩ = some (.int .u8 k)) :
    Calls Tryd.prog 115 #[.int .u64 x] w fun e w' => e = .returned (.int .i64 k) ∧ w' = w := by
  go_enter Tryd.func115, Tryd.ntmps115
  go_wp2_with (simp only [key])
  go_ret
  exact ⟨rfl, rfl⟩
theorem tz64_any (x : Nat) (hx0 : x ≠ 0) (hx : x < 18446744073709551616) (w : World) (hT : ∀ j, j < Lib.deBruijn64tab.length → w.cell? ⟨1, j, none⟩ = some (.int .u8 (Lib.deBruijn64tab.getD j 0))) :
    Calls Tryd.prog 115 #[.int .u64 x] w fun e w' => e = .returned (.int .i64 (Lib.ctz 64 x)) ∧ w' = w := by
  obtain ⟨hlow, hk⟩ := Lib.lowest_bit 64 x hx0 hx
  obtain ⟨hi, htab⟩ := Lib.deBruijn64_at _ hk
  have hcell := hT _ hi
  rw [htab] at hcell
  exact tz_core x _ _ w (by simp; omega) (tz64_key x _ hx hx0 hlow) hi hk hcell
theorem tz_any (x : Nat) (hx0 : x ≠ 0) (hx : x < 18446744073709551616) (w : World) (hT : ∀ j, j < Lib.deBruijn64tab.length → w.cell? ⟨1, j, none⟩ = some (.int .u8 (Lib.deBruijn64tab.getD j 0))) :
    Calls Tryd.prog 101 #[.int .u64 x] w fun e w' => e = .returned (.int .i64 (Lib.ctz 64 x)) ∧ w' = w := by
  go_enter Tryd.func101, Tryd.ntmps101
  go_wp2_with fail
  refine (tz64_any x hx0 hx w hT).mono ?_
  rintro e w1 ⟨rfl, rfl⟩
  go_wp2
  go_ret
  exact ⟨rfl, rfl⟩
theorem tz_k {n0 nx s : Nat} {L : List E} {K : V → List E → Nat → Prop} (h0 : s ≠ 0) (hs : s < 256) (hK : K (V.i (Lib.ctz 64 s : Nat)) [] nx) : CallK Tryd.prog n0 101 [V.u s] L nx K := by
  refine ⟨by kernel_rfl, fun ρ w hp _ => ?_⟩
  obtain ⟨_, cs, t, fr, _, hT⟩ := hp.bs.fct
  refine Calls.mono (show Calls Tryd.prog _ ([V.u s].map (V.den ρ)).toArray w _ from tz_any s h0 (by omega) w hT) ?_
  rintro e w' ⟨rfl, rfl⟩
  exact ⟨V.i (Lib.ctz 64 s : Nat), [], nx, ρ, rfl, Nat.le_refl _, trivial, Agr.refl _ _, Below.refl _ _, News.nil, hK⟩
end Go.Proofs.YtijnimgmpocmaaaDoor

/- Waste: a callee that turns what comes in, told of it under names of its own. -/
namespace Go.Proofs.YtijnimgmpocmaaaDoor
open Go.RowKit
set_option linter.unusedVariables false
set_option linter.unusedSimpArgs false
theorem C.den_chk {p : Nat → Bool} {ρ ρ' : Env} (h : ∀ l, p l = true → ρ' l = ρ l) {c : C} (hc : c.chk p = true) : c.den ρ' = c.den ρ := by
  cases c <;> simp only [C.den, ptrD, C.chk] at *
  case ptr l o => rw [h l hc]
  case sl l n => rw [h l hc]
  case mp l => rw [h l hc]
  case sub l o n k => rw [h l hc]
  case fn f caps =>
    have : caps.map (fun p => (Value.pointer ((ρ' p.1).1.map (·.add p.2)))) = caps.map (fun p => (Value.pointer ((ρ p.1).1.map (·.add p.2)))) := List.map_congr_left fun q hq => by
      rw [h q.1 (List.all_eq_true.1 hc q hq)]
    show Value.func _ _ (caps.map (ptrD ρ')).toArray = Value.func _ _ (caps.map (ptrD ρ)).toArray
    exact congrArg (fun l => Value.func (.func f) #[] (List.toArray l)) this
theorem A.den_chk {p : Nat → Bool} {ρ ρ' : Env} (h : ∀ l, p l = true → ρ' l = ρ l) {c : A} (hc : c.chk p = true) : c.den ρ' = c.den ρ := by
  cases c with
  | c x => exact C.den_chk h hc
  | agg l =>
    show Value.agg (l.map (C.den ρ')).toArray = Value.agg (l.map (C.den ρ)).toArray
    rw [List.map_congr_left fun c hm => C.den_chk h (List.all_eq_true.1 hc c hm)]
theorem V.den_chk {p : Nat → Bool} {ρ ρ' : Env} (h : ∀ l, p l = true → ρ' l = ρ l) {c : V} (hc : c.chk p = true) : c.den ρ' = c.den ρ := by
  cases c with
  | a x => exact A.den_chk h hc
  | tup l => simp only [V.den]; rw [List.map_congr_left fun c hm => A.den_chk h (List.all_eq_true.1 hc c hm)]
/-- The same memory, where the names that are used stand for the same. -/
theorem Hp.envU {n0 nx : Nat} {ρ ρ' : Env} {w : World} {L : List E} (h : Hp n0 ρ w L nx) (ha : ∀ e ∈ L, ρ' e.lab = ρ e.lab ∧ ∀ c ∈ e.cs, c.den ρ' = c.den ρ) : Hp n0 ρ' w L nx := by
  have hb : ∀ e ∈ L, blk ρ' e.lab = blk ρ e.lab := fun e he => by simp only [blk, (ha e he).1]
  refine ⟨h.bs, fun e he => ?_, h.wf, h.fn, fun e he e' he' h1 h2 h3 b h4 h5 => h.apart e he e' he' h1 h2 h3 b (by rw [← hb e he]; exact h4) (by rw [← hb e' he']; exact h5)⟩
  have h2 := h.ok e he
  obtain ⟨h3, h5⟩ := ha e he
  have h4 : e.cs.map (C.den ρ') = e.cs.map (C.den ρ) := List.map_congr_left h5
  obtain ⟨lab, kd, c0⟩ := e
  simp only at h3 h4
  cases kd <;> simp only [EOK] at h2 ⊢ <;> (first | rw [h3, h4] | rw [h3]) <;> exact h2
/-- A name of the caller's that the callee knows, and that stands for what it did. -/
def usedOk (R R2 : Rn) (nac nx l : Nat) : Bool := !(Nat.blt l nx) || (match renL R2 l with | some c => Nat.blt c nac && (match renL R c with | some l' => Nat.beq l' l | none => false) | none => false)
theorem CallM.at {P : Program} {n0 : Nat} {f : FuncId} {vs vsc : List V} {L Lc : List E} {nx nac : Nat} {R : Rn} {Q K : V → List E → Nat → Prop} (hok : callB P f = true) (spec : SpecM P f vsc Lc nac Q)
    (hv : renVs R vsc = some vs) (hvw : ∀ v ∈ vsc, v.wf nac) (hL : covL R nac L Lc) (hin : injB R Lc = true)
    (h : ∀ v L' nx', v.wf nx' → Q v L' nx' → ∃ R2 v1 L1 nx1, nx ≤ nx1 ∧ v1.ren R2 = some v ∧ v1.wf nx1 ∧ covL R2 nx1 L' L1 ∧ injB R2 L1 = true ∧
      (L1.all (fun e => usedOk R R2 nac nx e.lab && e.cs.all (C.chk (usedOk R R2 nac nx))) && v1.chk (usedOk R R2 nac nx)) = true ∧ K v1 L1 nx1) : CallM P n0 f vs L nx K := by
  refine ⟨hok, fun ρ w hp hvv => ?_⟩
  obtain ⟨_, p2, _⟩ := Enter.state (N := 0) (na := 0) (s := []) (s' := []) (a := { tmps := #[], defers := [] }) (ρ := ρ) (w := w) (n0 := n0) ⟨trivial, hL, hin, by simp [fixB], Nat.zero_le _⟩ ⟨rfl, fun t v hv => (by cases hv)⟩ hp
  have hargs : (vs.map (V.den ρ)).toArray = (vsc.map (V.den (renE R ρ))).toArray := by
    congr 1
    have : ∀ {l m : List V}, seqO (l.map (V.ren R)) = some m → m.map (V.den ρ) = l.map (V.den (renE R ρ)) := by
      intro l
      induction l with
      | nil => intro m hm; cases hm; rfl
      | cons x r ih =>
        intro m hm
        simp only [List.map_cons] at hm
        cases hx : V.ren R x with
        | none => rw [hx] at hm; cases hm
        | some y =>
          rw [hx] at hm
          simp only [seqO] at hm
          cases hr : seqO (r.map (V.ren R)) with
          | none => rw [hr] at hm; cases hm
          | some z =>
            rw [hr] at hm; cases hm
            rw [List.map_cons, List.map_cons, ih hr, V.ren_den hx]
    exact this hv
  rw [hargs]
  refine (spec n0 _ w p2 hvw).mono ?_
  rintro e w' ⟨v, ρ', L', nx', rfl, h1, h2, h3, h4, h5, h6⟩
  obtain ⟨R2, v1, L1, nx1, g1, g2, g3, g4, g5, g6, g7⟩ := h v L' nx' h2 h6
  obtain ⟨_, q2, _⟩ := Enter.state (N := 0) (na := 0) (s := []) (s' := []) (a := { tmps := #[], defers := [] }) (ρ := ρ') (w := w') (n0 := n0) ⟨trivial, g4, g5, by simp [fixB], Nat.zero_le _⟩ ⟨rfl, fun t v hv => (by cases hv)⟩ h5
  simp only [Bool.and_eq_true, List.all_eq_true] at g6
  obtain ⟨g8, g9⟩ := g6
  -- the caller's names
  have key : ∀ l, (usedOk R R2 nac nx l && Nat.blt l nx1) = true → (fun l => if nx ≤ l ∧ l < nx1 then renE R2 ρ' l else ρ l) l = renE R2 ρ' l := by
    intro l hl
    simp only [Bool.and_eq_true] at hl
    obtain ⟨hl, hl1⟩ := hl
    have hl1 : l < nx1 := Nat.le_of_ble_eq_true hl1
    simp only
    split
    · rfl
    · rename_i hn
      have hlt : l < nx := by omega
      unfold usedOk at hl
      have : Nat.blt l nx = true := by rw [Nat.blt_eq]; exact hlt
      rw [this] at hl
      simp only [Bool.not_true, Bool.false_or] at hl
      cases hr : renL R2 l with
      | none => rw [hr] at hl; cases hl
      | some c =>
        rw [hr] at hl
        simp only [Bool.and_eq_true] at hl
        obtain ⟨hc, hl⟩ := hl
        have hc : c < nac := Nat.le_of_ble_eq_true hc
        cases hr2 : renL R c with
        | none => rw [hr2] at hl; cases hl
        | some l' =>
          rw [hr2] at hl
          have hll := Nat.eq_of_beq_eq_true hl
          subst hll
          have e1 : renE R2 ρ' l' = ρ' c := by simp only [renE, hr]
          have e2 : renE R ρ c = ρ l' := by simp only [renE, hr2]
          rw [e1, h3 c hc, e2]
  have chkw : ∀ {c : C}, c.chk (usedOk R R2 nac nx) = true → c.wf nx1 → c.chk (fun l => usedOk R R2 nac nx l && Nat.blt l nx1) = true := by
    intro c h1 h2
    cases c <;> simp only [C.chk, C.wf, Bool.and_eq_true, Nat.blt_eq, List.all_eq_true] at *
    case ptr l o => exact ⟨h1, h2⟩
    case sl l n => exact ⟨h1, h2⟩
    case mp l => exact ⟨h1, h2⟩
    case sub l o n k => exact ⟨h1, h2⟩
    case fn f caps => exact fun q hq => ⟨h1 q hq, h2 q hq⟩
  have chka : ∀ {c : A}, c.chk (usedOk R R2 nac nx) = true → c.wf nx1 → c.chk (fun l => usedOk R R2 nac nx l && Nat.blt l nx1) = true := by
    intro c h1 h2
    cases c with
    | c x => exact chkw h1 h2
    | agg l => exact List.all_eq_true.2 fun c hc => chkw (List.all_eq_true.1 h1 c hc) (h2 c hc)
  have hvc : v1.chk (fun l => usedOk R R2 nac nx l && Nat.blt l nx1) = true := by
    cases v1 with
    | a x => exact chka g9 g3
    | tup l => exact List.all_eq_true.2 fun c hc => chka (List.all_eq_true.1 g9 c hc) (g3 c hc)
  refine ⟨v1, L1, nx1, fun l => if nx ≤ l ∧ l < nx1 then renE R2 ρ' l else ρ l, ?_, g1, g3, fun l hl => if_neg hl, h4, q2.envU fun e he => ?_, g7⟩
  · rw [V.den_chk key hvc, V.ren_den g2]
  · have h7 := g8 e he
    obtain ⟨h8, h9⟩ := q2.wf e he
    exact ⟨key _ (by rw [h7.1]; simpa using h8), fun c hc => C.den_chk key (chkw (h7.2 c hc) (h9 c hc))⟩
end Go.Proofs.YtijnimgmpocmaaaDoor

/- Waste: the program's sorts: the closure that puts the kinds into groups. -/
namespace Go.Proofs.YtijnimgmpocmaaaDoor
open Go.RowKit
set_option linter.unusedVariables false
set_option linter.unusedSimpArgs false
theorem wf_1 {c : C} {n : Nat} (h : c.wf n) : ∀ x ∈ [c], x.wf n := fun x hx => by rw [List.mem_singleton.1 hx]; exact h
theorem wf_nx {n : Nat} (h : Nat.ble 6 n = true) : ∀ c ∈ [C.fn 108 [(1, 0), (3, 0), (4, 0), (5, 0)]], c.wf n := fun c hc => by
  have h := Nat.le_of_ble_eq_true h
  rw [List.mem_singleton.1 hc]
  intro p hp; simp only [List.mem_cons, List.not_mem_nil, or_false] at hp; rcases hp with rfl | rfl | rfl | rfl <;> simp only <;> omega
/-- A row of numbers, by a function. -/
def fnL (f : Nat → Int) (n : Nat) : List Int := (List.range n).map f
theorem fnL_len (f : Nat → Int) (n : Nat) : (fnL f n).length = n := by simp [fnL]
theorem fnL_get {f : Nat → Int} {n k : Nat} (h : k < n) : (fnL f n).getD k 0 = f k := by
  simp [fnL, List.getD_eq_getElem?_getD, h]
theorem fnL_set {f : Nat → Int} {n k : Nat} {x : Int} : (fnL f n).set k x = fnL (fun j => if j = k then x else f j) n := by
  apply List.ext_getElem
  · simp [fnL]
  · intro j h1 h2
    rw [List.getElem_set]
    simp only [fnL, List.getElem_map, List.getElem_range]
    by_cases h : k = j
    · rw [if_pos h, if_pos h.symm]
    · rw [if_neg h, if_neg fun e => h e.symm]
theorem fnL_congr {f g : Nat → Int} {n : Nat} (h : ∀ j, j < n → f j = g j) : fnL f n = fnL g n := List.map_congr_left fun j hj => h j (List.mem_range.1 hj)
theorem fnL_zero (n : Nat) : List.replicate n (0 : Int) = fnL (fun _ => 0) n := by
  apply List.ext_getElem <;> simp [fnL]
/-- The memory of next: lab: where the groups lie. -/
def nxL (t : List Nat) (n lab k : Nat) (f : Nat → Int) (gs : List Nat) : List E :=
  [⟨lab, .vec 75 1, gs.map C.u⟩, ⟨5, .own 107, [.fn 108 [(1, 0), (3, 0), (4, 0), (5, 0)]]⟩, ⟨4, .own 60, [.sl lab k]⟩, ⟨3, .own 25, [.sl 2 (n + 1)]⟩,
   ⟨2, .vec 3 1, (fnL f (n + 1)).map C.i⟩, ⟨1, .own 61, [.sl 0 n]⟩, ⟨0, .ro 0, t.map C.u⟩]
theorem beqF {a b : Nat} (h : a ≠ b) : Nat.beq a b = false := by
  cases h1 : Nat.beq a b with
  | false => rfl
  | true => exact absurd (Nat.eq_of_beq_eq_true h1) h
theorem renL_low {a : Nat} {o : Option Nat} (h : Nat.ble 6 a = true) : ∀ l, l < 6 → renL [(a, o)] l = some l := fun l hl => by
  have h := Nat.le_of_ble_eq_true h
  simp only [renL, beqF (show a ≠ l by omega)]; rfl
theorem SpecM.ren {P : Program} {f : FuncId} {vs : List V} {L : List E} {na : Nat} {Q Q' : V → List E → Nat → Prop} (spec : SpecM P f vs L na Q)
    (h : ∀ v L' nx', v.wf nx' → Q v L' nx' → ∃ R v1 L1 nx1, na ≤ nx1 ∧ v1.ren R = some v ∧ v1.wf nx1 ∧ covL R nx1 L' L1 ∧ injB R L1 = true ∧ fixB R na = true ∧ Q' v1 L1 nx1) : SpecM P f vs L na Q' := by
  intro n1 ρ w hp hv
  refine (spec n1 ρ w hp hv).mono ?_
  rintro e w' ⟨v, ρ', L', nx', rfl, h1, h2, h3, h4, h5, h6⟩
  obtain ⟨R, v1, L1, nx1, g1, g2, g3, g4, g5, g6, g7⟩ := h v L' nx' h2 h6
  obtain ⟨_, q2, q3⟩ := Enter.state (N := 0) (na := na) (s := []) (s' := []) (a := { tmps := #[], defers := [] }) (ρ := ρ') (w := w') (n0 := n1) ⟨trivial, g4, g5, g6, g1⟩ ⟨rfl, fun t v hv => (by cases hv)⟩ h5
  exact ⟨v1, renE R ρ', L1, nx1, by rw [V.ren_den g2], g1, g3, fun l hl => (q3 l hl).trans (h3 l hl), h4, q2, g7⟩
theorem nxL_cov {t : List Nat} {n a b k nx : Nat} {f : Nat → Int} {gs : List Nat} {R : Rn} (ha : 5 < a) (hb : 5 < b) (hbn : b < nx) (hR : renL R b = some a) (hR' : ∀ l, l < 6 → renL R l = some l) : covL R nx (nxL t n a k f gs) (nxL t n b k f gs) := by
  have hf : ∀ l, l < 6 → Nat.beq a l = false := fun l hl => by
    cases h : Nat.beq a l with
    | false => rfl
    | true => have := Nat.eq_of_beq_eq_true h; omega
  have h1 : ∀ l (e : E), l < 6 → find (nxL t n a k f gs).tail l = some e → find (nxL t n a k f gs) l = some e := fun l e hl h => by
    unfold nxL find
    rw [hf l hl]; exact h
  refine ⟨covE_some hR hbn (wf_us _ _) ?_ (ren_us _ _), covE_some (hR' 5 (by omega)) (by show 5 < nx; omega) (wf_1 ?_) (h1 5 _ (by omega) rfl) ?_, covE_some (hR' 4 (by omega)) (by show 4 < nx; omega) (wf_1 ?_) (h1 4 _ (by omega) rfl) ?_,
    covE_some (hR' 3 (by omega)) (by show 3 < nx; omega) (wf_1 ?_) (h1 3 _ (by omega) rfl) ?_, covE_some (hR' 2 (by omega)) (by show 2 < nx; omega) (wf_ints _ _) (h1 2 _ (by omega) rfl) (ren_ints _ _),
    covE_some (hR' 1 (by omega)) (by show 1 < nx; omega) (wf_1 ?_) (h1 1 _ (by omega) rfl) ?_, covE_some (hR' 0 (by omega)) (by show 0 < nx; omega) (wf_us _ _) (h1 0 _ (by omega) rfl) (ren_us _ _), trivial⟩
  · unfold nxL find; simp
  · intro p hp; simp only [List.mem_cons, List.not_mem_nil, or_false] at hp; rcases hp with rfl | rfl | rfl | rfl <;> simp only <;> omega
  · simp only [List.map_cons, List.map_nil, C.ren, hR' 1 (by omega), hR' 3 (by omega), hR' 4 (by omega), hR' 5 (by omega), seqO]
    cases R <;> rfl
  · exact hbn
  · simp only [List.map_cons, List.map_nil, C.ren, hR, seqO]
  · show 2 < nx; omega
  · simp only [List.map_cons, List.map_nil, C.ren, hR' 2 (by omega), seqO]
  · show 0 < nx; omega
  · simp only [List.map_cons, List.map_nil, C.ren, hR' 0 (by omega), seqO]
theorem covE_u {R : Rn} {nx lab l : Nat} {L : List E} {us : List Nat} {kd : Kd} {cs' : List C} (hr : renL R lab = some l) (h1 : lab < nx) (h3 : find L l = some ⟨l, kd, cs'⟩) (h4 : cs' = us.map C.u) : covE R nx L ⟨lab, kd, us.map C.u⟩ := by
  subst h4; exact covE_some hr h1 (wf_us _ _) h3 (ren_us _ _)
theorem covE_i {R : Rn} {nx lab l : Nat} {L : List E} {us : List Int} {kd : Kd} {cs' : List C} (hr : renL R lab = some l) (h1 : lab < nx) (h3 : find L l = some ⟨l, kd, cs'⟩) (h4 : cs' = us.map C.i) : covE R nx L ⟨lab, kd, us.map C.i⟩ := by
  subst h4; exact covE_some hr h1 (wf_ints _ _) h3 (ren_ints _ _)
theorem chk_rowU (p : Nat → Bool) (l : List Nat) (z : Int) (lab : Nat) (kd : Kd) : (([⟨lab, kd, l.map C.u ++ [C.int .u64 z]⟩] : List E).all fun e => e.cs.all (C.chk p)) = true := by
  simp only [List.all_cons, List.all_nil, Bool.and_true, List.all_append]
  rw [chk_us]; rfl
theorem nxL_used {p : Nat → Bool} {t : List Nat} {n b k : Nat} {f : Nat → Int} {gs : List Nat} (hb : p b = true) (h : ∀ l, l < 6 → p l = true) : ((nxL t n b k f gs).all (fun e => p e.lab && e.cs.all (C.chk p)) && (V.tup []).chk p) = true := by
  simp only [nxL, List.all_cons, List.all_nil, chk_us, chk_ints, C.chk, hb, h 0 (by omega), h 1 (by omega), h 2 (by omega), h 3 (by omega), h 4 (by omega), h 5 (by omega), V.chk, Bool.and_self]
theorem used_low {a b c d nac nx : Nat} (ha : Nat.ble 6 a = true) (hc : Nat.ble 6 c = true) (hn : Nat.ble 6 nac = true) : ∀ l, l < 6 → usedOk [(a, some b)] [(c, some d)] nac nx l = true := fun l hl => by
  unfold usedOk
  rw [renL_low hc l hl]
  simp only [renL_low ha l hl]
  have := Nat.le_of_ble_eq_true hn
  have h1 : Nat.blt l nac = true := by rw [Nat.blt_eq]; omega
  have h2 : Nat.beq l l = true := Nat.beq_refl l
  rw [h1, h2]; simp
theorem set_back {l : List Nat} {i x : Nat} : (l.set i x).set i (l.getD i 0) = l := by
  rw [List.set_set]
  apply List.ext_getElem
  · simp
  · intro j h1 h2
    rw [List.getElem_set]
    split
    · subst i; simp [List.getD_eq_getElem?_getD, h2]
    · rfl
def nxC (m a n : Nat) (t : List Nat) (f : Nat → Int) (gs : List Nat) : Prop :=
  t.length = n ∧ n ≤ 8 ∧ a + m = n ∧ gs.length ≤ a ∧ (∀ s ∈ t, s < 256) ∧ (∀ g ∈ gs, g < 256) ∧ ∀ j, j ≤ n → 0 ≤ f j ∧ f j + waysB t m a gs j ≤ 1000000000
def clT (t : List Nat) (m a : Nat) (gs : List Nat) (j i : Nat) : Int := if t.getD a 0 &&& gs.getD i 0 = 0 then waysB t m (a + 1) (gs.set i (gs.getD i 0 ||| 2 ^ a)) j else 0
@[reducible] def nxV (a : Nat) : List V := [V.i a, V.c (.ptr 1 0), V.c (.ptr 3 0), V.c (.ptr 4 0), V.c (.ptr 5 0)]
set_option maxRecDepth 10000 in
set_option maxHeartbeats 8000000 in
theorem next_spec (t : List Nat) (n : Nat) : ∀ (m a : Nat) (f : Nat → Int) (gs : List Nat), nxC m a n t f gs →
    SpecM Tryd.prog 108 (nxV a) (nxL t n 6 gs.length f gs) 7 (fun v L' nx' => v = V.tup [] ∧ L' = nxL t n 7 gs.length (fun j => f j + waysB t m a gs j) gs ∧ nx' = 8)
  | 0, a, f, gs, ⟨htl, hn, ha, hg, ht, hgs, hb⟩ => by
    have hm : (t.map C.u).length = n := by rw [List.length_map, htl]
    have hfl : ((fnL f (n + 1)).map C.i).length = n + 1 := by rw [List.length_map, fnL_len]
    have hld : ((fnL f (n + 1)).map C.i)[mulS ((gs.length : Nat) : Int).toNat 1]? = some (C.i (f gs.length)) := by
      rw [intLz rfl (by rw [fnL_len]; omega), fnL_get (by omega)]
    have hbg := hb gs.length (by omega)
    have hwy : waysB t 0 a gs gs.length = 1 := by simp [waysB]
    rw [hwy] at hbg
    have hfin : setL ((fnL f (n + 1)).map C.i) (mulS ((gs.length : Nat) : Int).toNat 1) [C.i (f gs.length + 1)] = (fnL (fun j => f j + waysB t 0 a gs j) (n + 1)).map C.i := by
      rw [setI rfl, fnL_set]
      refine congrArg _ (fnL_congr fun j _ => ?_)
      simp only [waysB]
      by_cases h : j = gs.length
      · subst h; simp
      · rw [if_neg h, if_neg fun e => h e.symm]; omega
    refine SpecM.ren (Q := fun v L' nx' => v = V.tup [] ∧ L' = nxL t n 6 gs.length (fun j => f j + waysB t 0 a gs j) gs ∧ nx' = 7) ?_ ?_
    · refine SpecM.of tok Tryd.func108 rfl rfl rfl fun n0 cx => vc_ok tok ?_
      unfold nxL
      repeat ((conv => whnf); first | (refine And.intro (by first | omega | exact Nat.le_of_ble_eq_true rfl | (dsimp only [inK]; omega) | (simp only [mulS_eq]; omega) | (simp only [mulS_eq, setL_length]; omega) | (simp only [setL_length]; omega) | (simp only [setL_length, List.length_map]; omega) | (exact ⟨by omega, by omega, by first | exact Nat.le_of_ble_eq_true rfl | (dsimp only; omega) | (simp only [setL_length]; omega) | (simp only [setL_length, List.length_map]; omega)⟩) | (exact ⟨by omega, by first | rfl | omega, by omega, Nat.le_of_ble_eq_true rfl, Nat.le_of_ble_eq_true rfl⟩) | (exact ⟨rfl, rfl, rfl, Nat.le_of_ble_eq_true rfl, by first | rfl | omega | exact Nat.le_of_ble_eq_true rfl | (dsimp only; omega) | (simp; done) | (simp; omega), by first | rfl | omega | exact Nat.le_of_ble_eq_true rfl | (dsimp only; omega) | (simp; done) | (simp; omega), by omega, Nat.le_of_ble_eq_true rfl⟩) | exact Eq.refl true) ?_) | with_reducible refine ld (hld) ?_ | refine Exists.intro _ (And.intro rfl ?_) | refine And.intro (And.intro rfl (chk_rowI _ _ _ _)) ?_ | refine br_t (by omega) ?_ | refine br_f (by omega) ?_ | refine bs_t (by omega) ?_ | refine bs_f (by omega) ?_ | refine fun (K' : K3) hK' => ?_ | (refine hK' _ _ _ ?_; clear hK' K') | refine draw_auto tok mixed (by kernel_rfl) ?_ | refine bs_bt (Eq.refl true) ?_ | refine bs_bf (Eq.refl false) ?_ | refine br_bt (Eq.refl true) ?_ | refine br_bf (Eq.refl false) ?_ | refine CallK.m ?_ | refine Two.l ?_ | refine And.intro (And.intro rfl rfl) ?_)
      (conv => whnf)
      refine ⟨rfl, ?_, rfl⟩
      rw [← hfin]; rfl
    · rintro v L' nx' _ ⟨rfl, rfl, rfl⟩
      exact ⟨[(7, some 6)], V.tup [], nxL t n 7 gs.length (fun j => f j + waysB t 0 a gs j) gs, 8, by omega, rfl, by simp [V.wf], nxL_cov (by omega) (by omega) (by omega) rfl (renL_low rfl), rfl, rfl, rfl, rfl, rfl⟩
  | m + 1, a, f, gs, ⟨htl, hn, ha, hg, ht, hgs, hb⟩ => by
    have hm : (t.map C.u).length = n := by rw [List.length_map, htl]
    have hgm : (gs.map C.u).length = gs.length := List.length_map _
    have hta := getD_lt (by omega) ht a
    have hlt : (t.map C.u)[mulS ((a : Nat) : Int).toNat 1]? = some (C.u (t.getD a 0)) := uLz rfl (by omega)
    have hsum : ∀ j, waysB t (m + 1) a gs j = sumN (clT t m a gs j) gs.length + waysB t m (a + 1) (gs ++ [2 ^ a]) j := fun j => rfl
    have hcl0 : ∀ j i, 0 ≤ clT t m a gs j i := fun j i => by
      unfold clT; split
      · exact waysB_nonneg _ _ _ _ _
      · omega
    have hpart : ∀ j i, i ≤ gs.length → sumN (clT t m a gs j) i ≤ sumN (clT t m a gs j) gs.length := fun j i hi => sumN_part (hcl0 j) hi
    have hs0 : ∀ j i, 0 ≤ sumN (clT t m a gs j) i := fun j i => sumN_nonneg fun i _ => hcl0 j i
    have hwn : ∀ j, 0 ≤ waysB t m (a + 1) (gs ++ [2 ^ a]) j := fun j => waysB_nonneg _ _ _ _ _
    have hpa := pow_256 (show a < 8 by omega)
    refine SpecM.ren (Q := fun v L' nx' => v = V.tup [] ∧ L' = nxL t n 11 gs.length (fun j => f j + waysB t (m + 1) a gs j) gs ∧ nx' = 12) ?_ ?_
    · refine SpecM.of tok Tryd.func108 rfl rfl rfl fun n0 cx => vc_ok tok ?_
      repeat ((conv => whnf); first | (refine And.intro (by first | omega | exact Nat.le_of_ble_eq_true rfl | (dsimp only [inK]; omega) | (simp only [mulS_eq]; omega) | (simp only [mulS_eq, setL_length]; omega) | (simp only [setL_length]; omega) | (simp only [setL_length, List.length_map]; omega) | (exact ⟨by omega, by omega, by first | exact Nat.le_of_ble_eq_true rfl | (dsimp only; omega) | (simp only [setL_length]; omega) | (simp only [setL_length, List.length_map]; omega)⟩) | (exact ⟨by omega, by first | rfl | omega, by omega, Nat.le_of_ble_eq_true rfl, Nat.le_of_ble_eq_true rfl⟩) | (exact ⟨rfl, rfl, rfl, Nat.le_of_ble_eq_true rfl, by first | rfl | omega | exact Nat.le_of_ble_eq_true rfl | (dsimp only; omega) | (simp; done) | (simp; omega), by first | rfl | omega | exact Nat.le_of_ble_eq_true rfl | (dsimp only; omega) | (simp; done) | (simp; omega), by omega, Nat.le_of_ble_eq_true rfl⟩) | exact Eq.refl true) ?_) | refine Exists.intro _ (And.intro rfl ?_) | refine And.intro (And.intro rfl (chk_rowI _ _ _ _)) ?_ | refine br_t (by omega) ?_ | refine br_f (by omega) ?_ | refine bs_t (by omega) ?_ | refine bs_f (by omega) ?_ | refine fun (K' : K3) hK' => ?_ | (refine hK' _ _ _ ?_; clear hK' K') | refine draw_auto tok mixed (by kernel_rfl) ?_ | refine bs_bt (Eq.refl true) ?_ | refine bs_bf (Eq.refl false) ?_ | refine br_bt (Eq.refl true) ?_ | refine br_bf (Eq.refl false) ?_ | refine CallK.m ?_ | refine Two.l ?_ | refine And.intro (And.intro rfl rfl) ?_)
      refine Tri.loop (γ := Nat) (fun i => i ≤ gs.length) (fun i => [(0, V.i a), (1, V.c (.ptr 1 0)), (2, V.c (.ptr 3 0)), (3, V.c (.ptr 4 0)), (4, V.c (.ptr 5 0)), (20, V.i gs.length), (21, V.i (i : Nat))])
        (fun i => nxL t n 7 gs.length (fun j => f j + sumN (clT t m a gs j) i) gs) 8 (fun i => gs.length - i) 0 (R0 := [(7, some 6)]) ?_ ?_ ?_
      · omega
      · skip
        refine ⟨?_, ?_, rfl, rfl, by first | exact Nat.le_of_ble_eq_true rfl | exact Nat.le_refl _ | omega⟩
        · repeat (first | exact trivial | (refine And.intro (covS_syn (by rfl) rfl (by first | exact trivial | exact Nat.le_of_ble_eq_true rfl | exact hy | (first | ((show ∀ p ∈ (_ : List (Nat × Nat)), p.1 < _); decide) | exact (fun p hp => nomatch hp)) | (show (_ : Nat) < _; omega))) ?_) | refine And.intro (covS_bool rfl rfl (by rfl)) ?_)
        · repeat (first | exact trivial | refine And.intro (covE_u rfl (Nat.le_of_ble_eq_true rfl) rfl rfl) ?_ | refine And.intro (covE_i rfl (Nat.le_of_ble_eq_true rfl) rfl (congrArg _ (fnL_congr fun j _ => (Int.add_zero _).symm))) ?_ | refine And.intro (covE_nil rfl (Nat.le_of_ble_eq_true rfl) rfl rfl) ?_ | (refine And.intro (covE_some rfl (Nat.le_of_ble_eq_true rfl) (by first | exact wf_ints _ _ | exact wf_bools _ _ | first | exact wf_us _ _ | exact wf_nx rfl | (simp [C.wf]; done) | simp [C.wf]) rfl (by first | exact ren_ints _ _ | exact ren_bools _ _ | exact ren_shares _ _ | rfl)) ?_))
      · intro i hi
        refine vc_ok tok ?_
        by_cases hlen : i < gs.length
        · have hg256 := getD_lt (by omega) hgs i
          have hlg : (gs.map C.u)[mulS ((i : Nat) : Int).toNat 1]? = some (C.u (gs.getD i 0)) := uLz rfl hlen
          obtain ⟨g, hgg⟩ : ∃ g, g = gs.getD i 0 := ⟨_, rfl⟩
          rw [← hgg] at hg256 hlg
          by_cases h : t.getD a 0 &&& g = 0
          · have hbt : bitI .and .u64 ((t.getD a 0 : Nat) : Int) (g : Int) = 0 := by rw [bit_and (by omega) (by omega), h]; rfl
            have hw := with_spec g a hg256 (by omega)
            obtain ⟨u, hu⟩ : ∃ u, u = g ||| 2 ^ a := ⟨_, rfl⟩
            have hu256 : u < 256 := by rw [hu]; exact or_256 hg256 hpa
            rw [← hu] at hw
            have hterm : ∀ j, sumN (clT t m a gs j) (i + 1) = sumN (clT t m a gs j) i + waysB t m (a + 1) (gs.set i u) j := fun j => by
              simp only [sumN]; congr 1; unfold clT; rw [← hgg, if_pos h, ← hu]
            have ih := next_spec t n m (a + 1) (fun j => f j + sumN (clT t m a gs j) i) (gs.set i u) ⟨htl, hn, by omega, by rw [List.length_set]; omega, ht, fun s hs => by
                rcases List.mem_or_eq_of_mem_set hs with h | rfl
                · exact hgs s h
                · exact hu256, fun j hj => by
                have h1 := hb j hj; have h2 := hs0 j i; have h3 := hpart j (i + 1) (by omega); have h4 := hterm j; have h5 := hsum j; have h6 := hwn j
                simp only; omega⟩
            rw [List.length_set] at ih
            repeat ((conv => whnf); first | (refine And.intro (by first | omega | exact Nat.le_of_ble_eq_true rfl | (dsimp only [inK]; omega) | (simp only [mulS_eq]; omega) | (simp only [mulS_eq, setL_length]; omega) | (simp only [setL_length]; omega) | (simp only [setL_length, List.length_map]; omega) | (exact ⟨by omega, by omega, by first | exact Nat.le_of_ble_eq_true rfl | (dsimp only; omega) | (simp only [setL_length]; omega) | (simp only [setL_length, List.length_map]; omega)⟩) | (exact ⟨by omega, by first | rfl | omega, by omega, Nat.le_of_ble_eq_true rfl, Nat.le_of_ble_eq_true rfl⟩) | (exact ⟨rfl, rfl, rfl, Nat.le_of_ble_eq_true rfl, by first | rfl | omega | exact Nat.le_of_ble_eq_true rfl | (dsimp only; omega) | (simp; done) | (simp; omega), by first | rfl | omega | exact Nat.le_of_ble_eq_true rfl | (dsimp only; omega) | (simp; done) | (simp; omega), by omega, Nat.le_of_ble_eq_true rfl⟩) | exact Eq.refl true) ?_) | with_reducible refine ld (hlt) ?_ | with_reducible refine ld (hlg) ?_ | refine Exists.intro _ (And.intro rfl ?_) | refine And.intro (And.intro rfl (chk_rowI _ _ _ _)) ?_ | refine br_t (by omega) ?_ | refine br_f (by omega) ?_ | refine bs_t (by omega) ?_ | refine bs_f (by omega) ?_ | refine fun (K' : K3) hK' => ?_ | (refine hK' _ _ _ ?_; clear hK' K') | refine CallM.at (R := [(6, some 7)]) (by kernel_rfl) ih rfl (by simp [V.wf, A.wf, C.wf, V.i]) ⟨covE_u rfl (Nat.le_of_ble_eq_true rfl) rfl (setU rfl rfl), covE_some rfl (Nat.le_of_ble_eq_true rfl) (wf_nx rfl) rfl rfl, covE_some rfl (Nat.le_of_ble_eq_true rfl) (by simp [C.wf]) rfl rfl, covE_some rfl (Nat.le_of_ble_eq_true rfl) (by simp [C.wf]) rfl rfl, covE_i rfl (Nat.le_of_ble_eq_true rfl) rfl rfl, covE_some rfl (Nat.le_of_ble_eq_true rfl) (by simp [C.wf]) rfl rfl, covE_u rfl (Nat.le_of_ble_eq_true rfl) rfl rfl, trivial⟩ rfl ?_ | refine draw_auto tok mixed (by kernel_rfl) ?_ | refine bs_t hbt ?_ | refine br_t hbt ?_ | refine HD_mk (fun _ h => CallK.val (R := []) hw (by kernel_rfl) rfl (by simp [V.wf, A.wf, C.wf, V.i]) trivial rfl rfl trivial h) ?_ | refine bs_bt (Eq.refl true) ?_ | refine bs_bf (Eq.refl false) ?_ | refine br_bt (Eq.refl true) ?_ | refine br_bf (Eq.refl false) ?_ | refine CallK.m ?_ | refine Two.l ?_ | refine And.intro (And.intro rfl rfl) ?_)
            rintro v L' nx' _ ⟨rfl, rfl, rfl⟩
            refine ⟨[(8, some 7)], V.tup [], nxL t n 8 gs.length (fun j => f j + sumN (clT t m a gs j) i + waysB t m (a + 1) (gs.set i u) j) (gs.set i u), 9, by omega, rfl, by simp [V.wf], nxL_cov (by omega) (by omega) (by omega) rfl (renL_low rfl), rfl, nxL_used rfl (used_low rfl rfl rfl), ?_⟩
            have hsm : ((gs.set i u).map C.u).length = gs.length := by rw [List.length_map, List.length_set]
            repeat ((conv => whnf); first | (refine And.intro (by first | omega | exact Nat.le_of_ble_eq_true rfl | (dsimp only [inK]; omega) | (simp only [mulS_eq]; omega) | (simp only [mulS_eq, setL_length]; omega) | (simp only [setL_length]; omega) | (simp only [setL_length, List.length_map]; omega) | (exact ⟨by omega, by omega, by first | exact Nat.le_of_ble_eq_true rfl | (dsimp only; omega) | (simp only [setL_length]; omega) | (simp only [setL_length, List.length_map]; omega)⟩) | (exact ⟨by omega, by first | rfl | omega, by omega, Nat.le_of_ble_eq_true rfl, Nat.le_of_ble_eq_true rfl⟩) | (exact ⟨rfl, rfl, rfl, Nat.le_of_ble_eq_true rfl, by first | rfl | omega | exact Nat.le_of_ble_eq_true rfl | (dsimp only; omega) | (simp; done) | (simp; omega), by first | rfl | omega | exact Nat.le_of_ble_eq_true rfl | (dsimp only; omega) | (simp; done) | (simp; omega), by omega, Nat.le_of_ble_eq_true rfl⟩) | exact Eq.refl true) ?_) | refine Exists.intro _ (And.intro rfl ?_) | refine And.intro (And.intro rfl (chk_rowI _ _ _ _)) ?_ | refine br_t (by omega) ?_ | refine br_f (by omega) ?_ | refine bs_t (by omega) ?_ | refine bs_f (by omega) ?_ | refine fun (K' : K3) hK' => ?_ | (refine hK' _ _ _ ?_; clear hK' K') | refine draw_auto tok mixed (by kernel_rfl) ?_ | refine bs_bt (Eq.refl true) ?_ | refine bs_bf (Eq.refl false) ?_ | refine br_bt (Eq.refl true) ?_ | refine br_bf (Eq.refl false) ?_ | refine CallK.m ?_ | refine Two.l ?_ | refine And.intro (And.intro rfl rfl) ?_)
            refine ⟨i + 1, [(7, some 8)], by omega, by omega, ?_⟩
            refine ⟨?_, ?_, rfl, rfl, by first | exact Nat.le_of_ble_eq_true rfl | exact Nat.le_refl _ | omega⟩
            · repeat (first | exact trivial | (refine And.intro (covS_syn (by first | rfl | (refine congrArg some (congrArg V.i ?_); omega)) rfl (by first | exact trivial | exact Nat.le_of_ble_eq_true rfl | exact hy | (first | ((show ∀ p ∈ (_ : List (Nat × Nat)), p.1 < _); decide) | exact (fun p hp => nomatch hp)) | (show (_ : Nat) < _; omega))) ?_) | refine And.intro (covS_bool rfl rfl (by rfl)) ?_)
            · repeat (first | exact trivial | (refine And.intro (covE_u rfl (Nat.le_of_ble_eq_true rfl) rfl ((setU rfl rfl).trans (congrArg _ (by rw [hgg]; exact set_back)))) ?_) | refine And.intro (covE_u rfl (Nat.le_of_ble_eq_true rfl) rfl rfl) ?_ | refine And.intro (covE_i rfl (Nat.le_of_ble_eq_true rfl) rfl (congrArg _ (fnL_congr fun j _ => by rw [hterm, Int.add_assoc]))) ?_ | refine And.intro (covE_nil rfl (Nat.le_of_ble_eq_true rfl) rfl rfl) ?_ | (refine And.intro (covE_some rfl (Nat.le_of_ble_eq_true rfl) (by first | exact wf_ints _ _ | exact wf_bools _ _ | first | exact wf_us _ _ | exact wf_nx rfl | (simp [C.wf]; done) | simp [C.wf]) rfl (by first | exact ren_ints _ _ | exact ren_bools _ _ | exact ren_shares _ _ | rfl)) ?_))
          · have hbt : ¬ bitI .and .u64 ((t.getD a 0 : Nat) : Int) (g : Int) = 0 := by rw [bit_and (by omega) (by omega)]; omega
            have hterm : ∀ j, sumN (clT t m a gs j) (i + 1) = sumN (clT t m a gs j) i := fun j => by
              simp only [sumN]; rw [show clT t m a gs j i = 0 by unfold clT; rw [← hgg, if_neg h]]; exact Int.add_zero _
            repeat ((conv => whnf); first | (refine And.intro (by first | omega | exact Nat.le_of_ble_eq_true rfl | (dsimp only [inK]; omega) | (simp only [mulS_eq]; omega) | (simp only [mulS_eq, setL_length]; omega) | (simp only [setL_length]; omega) | (simp only [setL_length, List.length_map]; omega) | (exact ⟨by omega, by omega, by first | exact Nat.le_of_ble_eq_true rfl | (dsimp only; omega) | (simp only [setL_length]; omega) | (simp only [setL_length, List.length_map]; omega)⟩) | (exact ⟨by omega, by first | rfl | omega, by omega, Nat.le_of_ble_eq_true rfl, Nat.le_of_ble_eq_true rfl⟩) | (exact ⟨rfl, rfl, rfl, Nat.le_of_ble_eq_true rfl, by first | rfl | omega | exact Nat.le_of_ble_eq_true rfl | (dsimp only; omega) | (simp; done) | (simp; omega), by first | rfl | omega | exact Nat.le_of_ble_eq_true rfl | (dsimp only; omega) | (simp; done) | (simp; omega), by omega, Nat.le_of_ble_eq_true rfl⟩) | exact Eq.refl true) ?_) | with_reducible refine ld (hlt) ?_ | with_reducible refine ld (hlg) ?_ | refine Exists.intro _ (And.intro rfl ?_) | refine And.intro (And.intro rfl (chk_rowI _ _ _ _)) ?_ | refine br_t (by omega) ?_ | refine br_f (by omega) ?_ | refine bs_t (by omega) ?_ | refine bs_f (by omega) ?_ | refine fun (K' : K3) hK' => ?_ | (refine hK' _ _ _ ?_; clear hK' K') | refine draw_auto tok mixed (by kernel_rfl) ?_ | refine bs_f hbt ?_ | refine br_f hbt ?_ | refine bs_bt (Eq.refl true) ?_ | refine bs_bf (Eq.refl false) ?_ | refine br_bt (Eq.refl true) ?_ | refine br_bf (Eq.refl false) ?_ | refine CallK.m ?_ | refine Two.l ?_ | refine And.intro (And.intro rfl rfl) ?_)
            refine ⟨i + 1, [], by omega, by omega, ?_⟩
            refine ⟨?_, ?_, rfl, rfl, by first | exact Nat.le_of_ble_eq_true rfl | exact Nat.le_refl _ | omega⟩
            · repeat (first | exact trivial | (refine And.intro (covS_syn (by first | rfl | (refine congrArg some (congrArg V.i ?_); omega)) rfl (by first | exact trivial | exact Nat.le_of_ble_eq_true rfl | exact hy | (first | ((show ∀ p ∈ (_ : List (Nat × Nat)), p.1 < _); decide) | exact (fun p hp => nomatch hp)) | (show (_ : Nat) < _; omega))) ?_) | refine And.intro (covS_bool rfl rfl (by rfl)) ?_)
            · repeat (first | exact trivial | refine And.intro (covE_u rfl (Nat.le_of_ble_eq_true rfl) rfl rfl) ?_ | refine And.intro (covE_i rfl (Nat.le_of_ble_eq_true rfl) rfl (congrArg _ (fnL_congr fun j _ => by rw [hterm]))) ?_ | (refine And.intro (covE_id (Nat.le_of_ble_eq_true rfl) (by first | exact wf_ints _ _ | exact wf_bools _ _ | first | exact wf_us _ _ | exact wf_nx rfl | (simp [C.wf]; done) | simp [C.wf]) rfl (by rfl)) ?_))
        · obtain rfl : i = gs.length := by omega
          have hw := with_spec 0 a (by omega) (by omega)
          rw [Nat.zero_or] at hw
          obtain ⟨u, hu⟩ : ∃ u, u = 2 ^ a := ⟨_, rfl⟩
          rw [← hu] at hw hpa
          simp only [← hu] at hwn hsum
          have ih := next_spec t n m (a + 1) (fun j => f j + sumN (clT t m a gs j) gs.length) (gs ++ [u]) ⟨htl, hn, by omega, by rw [List.length_append, List.length_singleton]; omega, ht, fun s hs => by
              rcases List.mem_append.1 hs with h | h
              · exact hgs s h
              · rw [List.mem_singleton.1 h]; exact hpa, fun j hj => by
              have h1 := hb j hj; have h2 := hs0 j gs.length; have h5 := hsum j; have h6 := hwn j
              simp only; omega⟩
          rw [List.length_append, List.length_singleton] at ih
          have happ : gs.map C.u ++ [C.int .u64 (u : Int)] = (gs ++ [u]).map C.u := by simp
          repeat ((conv => whnf); first | (refine And.intro (by first | omega | exact Nat.le_of_ble_eq_true rfl | (dsimp only [inK]; omega) | (simp only [mulS_eq]; omega) | (simp only [mulS_eq, setL_length]; omega) | (simp only [setL_length]; omega) | (simp only [setL_length, List.length_map]; omega) | (exact ⟨by omega, by omega, by first | exact Nat.le_of_ble_eq_true rfl | (dsimp only; omega) | (simp only [setL_length]; omega) | (simp only [setL_length, List.length_map]; omega)⟩) | (exact ⟨by omega, by first | rfl | omega, by omega, Nat.le_of_ble_eq_true rfl, Nat.le_of_ble_eq_true rfl⟩) | (exact ⟨rfl, rfl, rfl, Nat.le_of_ble_eq_true rfl, by first | rfl | omega | exact Nat.le_of_ble_eq_true rfl | (dsimp only; omega) | (simp; done) | (simp; omega), by first | rfl | omega | exact Nat.le_of_ble_eq_true rfl | (dsimp only; omega) | (simp; done) | (simp; omega), by omega, Nat.le_of_ble_eq_true rfl⟩) | exact Eq.refl true) ?_) | refine Exists.intro _ (And.intro rfl ?_) | refine And.intro (And.intro rfl (chk_rowI _ _ _ _)) ?_ | refine br_t (by omega) ?_ | refine br_f (by omega) ?_ | refine bs_t (by omega) ?_ | refine bs_f (by omega) ?_ | refine fun (K' : K3) hK' => ?_ | (refine hK' _ _ _ ?_; clear hK' K') | refine draw_kill [7] tok mixed (by decide +kernel) ?_ | refine CallM.at (R := [(6, some 9)]) (by kernel_rfl) ih rfl (by simp [V.wf, A.wf, C.wf, V.i]) ⟨covE_u rfl (Nat.le_of_ble_eq_true rfl) rfl happ, covE_some rfl (Nat.le_of_ble_eq_true rfl) (wf_nx rfl) rfl rfl, covE_some rfl (Nat.le_of_ble_eq_true rfl) (by simp [C.wf]) rfl rfl, covE_some rfl (Nat.le_of_ble_eq_true rfl) (by simp [C.wf]) rfl rfl, covE_i rfl (Nat.le_of_ble_eq_true rfl) rfl rfl, covE_some rfl (Nat.le_of_ble_eq_true rfl) (by simp [C.wf]) rfl rfl, covE_u rfl (Nat.le_of_ble_eq_true rfl) rfl rfl, trivial⟩ rfl ?_ | refine draw_auto tok mixed (by kernel_rfl) ?_ | refine HD_mk (fun _ h => CallK.val (R := []) hw (by kernel_rfl) rfl (by simp [V.wf, A.wf, C.wf, V.i]) trivial rfl rfl trivial h) ?_ | refine And.intro (And.intro rfl (chk_rowU _ _ _ _ _)) ?_ | refine bs_bt (Eq.refl true) ?_ | refine bs_bf (Eq.refl false) ?_ | refine br_bt (Eq.refl true) ?_ | refine br_bf (Eq.refl false) ?_ | refine CallK.m ?_ | refine Two.l ?_ | refine And.intro (And.intro rfl rfl) ?_)
          rintro v L' nx' _ ⟨rfl, rfl, rfl⟩
          refine ⟨[(10, some 7)], V.tup [], nxL t n 10 (gs.length + 1) (fun j => f j + sumN (clT t m a gs j) gs.length + waysB t m (a + 1) (gs ++ [u]) j) (gs ++ [u]), 11, by omega, rfl, by simp [V.wf], nxL_cov (by omega) (by omega) (by omega) rfl (renL_low rfl), rfl, nxL_used rfl (used_low rfl rfl rfl), ?_⟩
          have hsm : ((gs ++ [u]).map C.u).length = gs.length + 1 := by rw [List.length_map, List.length_append, List.length_singleton]
          repeat ((conv => whnf); first | (refine And.intro (by first | omega | exact Nat.le_of_ble_eq_true rfl | (dsimp only [inK]; omega) | (simp only [mulS_eq]; omega) | (simp only [mulS_eq, setL_length]; omega) | (simp only [setL_length]; omega) | (simp only [setL_length, List.length_map]; omega) | (exact ⟨by omega, by omega, by first | exact Nat.le_of_ble_eq_true rfl | (dsimp only; omega) | (simp only [setL_length]; omega) | (simp only [setL_length, List.length_map]; omega)⟩) | (exact ⟨by omega, by first | rfl | omega, by omega, Nat.le_of_ble_eq_true rfl, Nat.le_of_ble_eq_true rfl⟩) | (exact ⟨rfl, rfl, rfl, Nat.le_of_ble_eq_true rfl, by first | rfl | omega | exact Nat.le_of_ble_eq_true rfl | (dsimp only; omega) | (simp; done) | (simp; omega), by first | rfl | omega | exact Nat.le_of_ble_eq_true rfl | (dsimp only; omega) | (simp; done) | (simp; omega), by omega, Nat.le_of_ble_eq_true rfl⟩) | exact Eq.refl true) ?_) | refine Exists.intro _ (And.intro rfl ?_) | refine And.intro (And.intro rfl (chk_rowI _ _ _ _)) ?_ | refine br_t (by omega) ?_ | refine br_f (by omega) ?_ | refine bs_t (by omega) ?_ | refine bs_f (by omega) ?_ | refine fun (K' : K3) hK' => ?_ | (refine hK' _ _ _ ?_; clear hK' K') | refine draw_auto tok mixed (by kernel_rfl) ?_ | refine Two.r ?_ | refine bs_bt (Eq.refl true) ?_ | refine bs_bf (Eq.refl false) ?_ | refine br_bt (Eq.refl true) ?_ | refine br_bf (Eq.refl false) ?_ | refine CallK.m ?_ | refine Two.l ?_ | refine And.intro (And.intro rfl rfl) ?_)
          (conv => whnf)
          have hk : ((gs.length + 1 : Nat) : Int) - 1 = (gs.length : Nat) := by omega
          refine ⟨rfl, ?_, rfl⟩
          rw [hk]
          simp only [Int.toNat_natCast, mulS_eq, Nat.mul_one]
          have htk : List.take gs.length ((gs ++ [u]).map C.u) = gs.map C.u := by rw [List.map_append, List.take_left' (List.length_map _)]
          rw [htk]
          have hfn : fnL (fun j => f j + sumN (clT t m a gs j) gs.length + waysB t m (a + 1) (gs ++ [u]) j) (n + 1) = fnL (fun j => f j + waysB t (m + 1) a gs j) (n + 1) := fnL_congr fun j _ => by rw [hsum, Int.add_assoc]
          rw [hfn]; rfl
    · rintro v L' nx' _ ⟨rfl, rfl, rfl⟩
      exact ⟨[(7, some 11)], V.tup [], nxL t n 7 gs.length (fun j => f j + waysB t (m + 1) a gs j) gs, 8, by omega, rfl, by simp [V.wf], nxL_cov (by omega) (by omega) (by omega) rfl (renL_low rfl), rfl, rfl, rfl, rfl, rfl⟩
end Go.Proofs.YtijnimgmpocmaaaDoor

/- Waste: sorts. -/
namespace Go.Proofs.YtijnimgmpocmaaaDoor
open Go.RowKit
set_option linter.unusedVariables false
set_option linter.unusedSimpArgs false
theorem nxL_covN {t : List Nat} {n b nx : Nat} {f : Nat → Int} {L : List E} (hb : 5 < b) (hbn : b < nx) (h5 : find L 5 = some ⟨5, .own 107, [.fn 108 [(1, 0), (3, 0), (4, 0), (5, 0)]]⟩) (h4 : find L 4 = some ⟨4, .own 60, [.nil]⟩)
    (h3 : find L 3 = some ⟨3, .own 25, [.sl 2 (n + 1)]⟩) (h2 : find L 2 = some ⟨2, .vec 3 1, (fnL f (n + 1)).map C.i⟩) (h1 : find L 1 = some ⟨1, .own 61, [.sl 0 n]⟩) (h0 : find L 0 = some ⟨0, .ro 0, t.map C.u⟩) :
    covL [(b, none)] nx L (nxL t n b 0 f []) := by
  have hl : ∀ l, l < 6 → renL [(b, none)] l = some l := fun l hl => by
    simp only [renL, beqF (show b ≠ l by omega)]; rfl
  have hb0 : renL [(b, none)] b = none := by simp [renL]
  have hfn : ∀ c ∈ [C.fn 108 [(1, 0), (3, 0), (4, 0), (5, 0)]], c.wf nx := wf_nx (by rw [Nat.ble_eq]; omega)
  refine ⟨⟨hbn, by simp, ?_⟩, covE_some (hl 5 (by omega)) (by show 5 < nx; omega) hfn h5 ?_, ⟨by show 4 < nx; omega, wf_1 hbn, ?_⟩,
    covE_some (hl 3 (by omega)) (by show 3 < nx; omega) (wf_1 (by show 2 < nx; omega)) h3 ?_, covE_some (hl 2 (by omega)) (by show 2 < nx; omega) (wf_ints _ _) h2 (ren_ints _ _),
    covE_some (hl 1 (by omega)) (by show 1 < nx; omega) (wf_1 (by show 0 < nx; omega)) h1 ?_, covE_some (hl 0 (by omega)) (by show 0 < nx; omega) (wf_us _ _) h0 (ren_us _ _), trivial⟩
  · simp only [hb0]; exact ⟨rfl, _, _, rfl⟩
  · simp only [List.map_cons, List.map_nil, C.ren, hl 1 (by omega), hl 3 (by omega), hl 4 (by omega), hl 5 (by omega), seqO]
  · simp only [hl 4 (by omega)]
    refine ⟨_, _, h4, .inl rfl, fun ρ => ?_⟩
    simp [C.den, renE, hb0]
  · simp only [List.map_cons, List.map_nil, C.ren, hl 2 (by omega), seqO]
  · simp only [List.map_cons, List.map_nil, C.ren, hl 0 (by omega), seqO]
/-- Into how many ways, for each number of groups. -/
def srtW (t : List Nat) (j : Nat) : Int := waysB t t.length 0 [] j
theorem srtW_bd (t : List Nat) (h : t.length ≤ 8) (j : Nat) (hj : j ≤ t.length) : 0 ≤ srtW t j ∧ srtW t j ≤ 100000 :=
  ⟨waysB_nonneg _ _ _ _ _, Int.le_trans (waysB_st _ _ _ _ _) (st_le _ h _ (by simp) (by simp; omega) _ (by omega))⟩
set_option maxRecDepth 10000 in
set_option maxHeartbeats 4000000 in
theorem sorts_spec (t : List Nat) (n : Nat) (htl : t.length = n) (hn : n ≤ 8) (ht : ∀ s ∈ t, s < 256) : Spec Tryd.prog 91 [V.c (.sl 0 n)] [⟨0, .ro 0, t.map C.u⟩] 1
    (fun v L' _ => ∃ l, v = V.c (.sl l (n + 1)) ∧ find L' l = some ⟨l, .vec 3 1, (fnL (srtW t) (n + 1)).map C.i⟩) := by
  have hz : ((fnL (fun _ => 0) (n + 1)).map C.i) = repC (n + 1) [C.int .i64 0] := by rw [repI, fnL_zero]
  have hsp := next_spec t n n 0 (fun _ => 0) [] ⟨htl, hn, by omega, by simp, ht, by simp, fun j hj => by
    have := srtW_bd t (by omega) j (by omega)
    unfold srtW at this; rw [htl] at this
    simp only; omega⟩
  have hfin : fnL (fun j => 0 + waysB t n 0 [] j) (n + 1) = fnL (srtW t) (n + 1) := fnL_congr fun j _ => by rw [Int.zero_add, srtW, htl]
  refine Spec.of tok Tryd.func91 rfl rfl rfl fun n0 cx => vc_ok tok ?_
  repeat ((conv => whnf); first | (refine And.intro (by first | omega | exact Nat.le_of_ble_eq_true rfl | (dsimp only [inK]; omega) | (simp only [mulS_eq]; omega) | (simp only [mulS_eq, setL_length]; omega) | (simp only [setL_length]; omega) | (simp only [setL_length, List.length_map]; omega) | (exact ⟨by omega, by omega, by first | exact Nat.le_of_ble_eq_true rfl | (dsimp only; omega) | (simp only [setL_length]; omega) | (simp only [setL_length, List.length_map]; omega)⟩) | (exact ⟨by omega, by first | rfl | omega, by omega, Nat.le_of_ble_eq_true rfl, Nat.le_of_ble_eq_true rfl⟩) | (exact ⟨rfl, rfl, rfl, Nat.le_of_ble_eq_true rfl, by first | rfl | omega | exact Nat.le_of_ble_eq_true rfl | (dsimp only; omega) | (simp; done) | (simp; omega), by first | rfl | omega | exact Nat.le_of_ble_eq_true rfl | (dsimp only; omega) | (simp; done) | (simp; omega), by omega, Nat.le_of_ble_eq_true rfl⟩) | exact Eq.refl true) ?_) | refine Exists.intro _ (And.intro rfl ?_) | refine And.intro (And.intro rfl (chk_rowI _ _ _ _)) ?_ | refine br_t (by omega) ?_ | refine br_f (by omega) ?_ | refine bs_t (by omega) ?_ | refine bs_f (by omega) ?_ | refine fun (K' : K3) hK' => ?_ | (refine hK' _ _ _ ?_; clear hK' K') | refine CallM.at (R := [(6, none)]) (by kernel_rfl) hsp rfl (by simp [V.wf, A.wf, C.wf, V.i]) (nxL_covN (by omega) (by omega) rfl rfl rfl (congrArg some (congrArg (E.mk _ _) hz.symm)) rfl rfl) rfl ?_ | refine draw_auto tok mixed (by kernel_rfl) ?_ | refine bs_bt (Eq.refl true) ?_ | refine bs_bf (Eq.refl false) ?_ | refine br_bt (Eq.refl true) ?_ | refine br_bf (Eq.refl false) ?_ | refine CallK.m ?_ | refine Two.l ?_ | refine And.intro (And.intro rfl rfl) ?_)
  rintro v L' nx' _ ⟨rfl, rfl, rfl⟩
  have hL : nxL t n 7 (List.length ([] : List Nat)) (fun j => 0 + waysB t n 0 [] j) [] = nxL t n 7 0 (srtW t) [] := by unfold nxL; rw [hfin]; rfl
  refine ⟨[(6, some 7)], V.tup [], nxL t n 6 0 (srtW t) [], 7, by omega, rfl, by simp [V.wf], by rw [hL]; exact nxL_cov (by omega) (by omega) (by omega) rfl (renL_low rfl), rfl, ?_, ?_⟩
  · have h6 : usedOk [(6, none)] [(6, some 7)] 7 6 6 = true := rfl
    exact nxL_used h6 fun l hl => by
      match l, hl with
      | 0, _ => rfl
      | 1, _ => rfl
      | 2, _ => rfl
      | 3, _ => rfl
      | 4, _ => rfl
      | 5, _ => rfl
  repeat ((conv => whnf); first | (refine And.intro (by first | omega | exact Nat.le_of_ble_eq_true rfl | (dsimp only [inK]; omega) | (simp only [mulS_eq]; omega) | (simp only [mulS_eq, setL_length]; omega) | (simp only [setL_length]; omega) | (simp only [setL_length, List.length_map]; omega) | (exact ⟨by omega, by omega, by first | exact Nat.le_of_ble_eq_true rfl | (dsimp only; omega) | (simp only [setL_length]; omega) | (simp only [setL_length, List.length_map]; omega)⟩) | (exact ⟨by omega, by first | rfl | omega, by omega, Nat.le_of_ble_eq_true rfl, Nat.le_of_ble_eq_true rfl⟩) | (exact ⟨rfl, rfl, rfl, Nat.le_of_ble_eq_true rfl, by first | rfl | omega | exact Nat.le_of_ble_eq_true rfl | (dsimp only; omega) | (simp; done) | (simp; omega), by first | rfl | omega | exact Nat.le_of_ble_eq_true rfl | (dsimp only; omega) | (simp; done) | (simp; omega), by omega, Nat.le_of_ble_eq_true rfl⟩) | exact Eq.refl true) ?_) | refine Exists.intro _ (And.intro rfl ?_) | refine And.intro (And.intro rfl (chk_rowI _ _ _ _)) ?_ | refine br_t (by omega) ?_ | refine br_f (by omega) ?_ | refine bs_t (by omega) ?_ | refine bs_f (by omega) ?_ | refine fun (K' : K3) hK' => ?_ | (refine hK' _ _ _ ?_; clear hK' K') | refine draw_auto tok mixed (by kernel_rfl) ?_ | refine bs_bt (Eq.refl true) ?_ | refine bs_bf (Eq.refl false) ?_ | refine br_bt (Eq.refl true) ?_ | refine br_bf (Eq.refl false) ?_ | refine CallK.m ?_ | refine Two.l ?_ | refine And.intro (And.intro rfl rfl) ?_)
  rfl
end Go.Proofs.YtijnimgmpocmaaaDoor

/- Waste: callees that give rows of numbers. -/
namespace Go.Proofs.YtijnimgmpocmaaaDoor
open Go.RowKit
set_option linter.unusedVariables false
set_option linter.unusedSimpArgs false
def FlatC (cs : List C) : Prop := ∀ c ∈ cs, ∃ k z, c = C.int k z
theorem flat_i (l : List Int) : FlatC (l.map C.i) := fun c hc => by obtain ⟨x, _, rfl⟩ := List.mem_map.1 hc; exact ⟨_, _, rfl⟩
theorem flat_u (l : List Nat) : FlatC (l.map C.u) := fun c hc => by obtain ⟨x, _, rfl⟩ := List.mem_map.1 hc; exact ⟨_, _, rfl⟩
theorem flat_c (l : List Cell) : FlatC (cellC l) := fun c hc => by obtain ⟨x, rfl⟩ := cellC_mem hc; exact ⟨_, _, rfl⟩
theorem FlatC.wf {cs : List C} (h : FlatC cs) (n : Nat) : ∀ c ∈ cs, c.wf n := fun c hc => by obtain ⟨k, z, rfl⟩ := h c hc; trivial
theorem FlatC.chk {cs : List C} (h : FlatC cs) (p : Nat → Bool) : cs.all (C.chk p) = true := List.all_eq_true.2 fun c hc => by obtain ⟨k, z, rfl⟩ := h c hc; rfl
theorem FlatC.ren {cs : List C} (h : FlatC cs) (R : Rn) : seqO (cs.map (C.ren R)) = some cs := seqO_fix fun c hc => by obtain ⟨k, z, rfl⟩ := h c hc; rfl
theorem roE_f {R : Rn} {nx lab l z : Nat} {k : Kd} {L : List E} {cs : List C} (hfl : FlatC cs) (hr : renL R lab = some l) (h1 : lab < nx) (h3 : find L l = some ⟨l, k, cs⟩) (hz : z = 0 ∨ k.z = some z) : roE R nx L ⟨lab, .ro z, cs⟩ := by
  refine ⟨h1, hfl.wf _, ?_⟩
  show match renL R lab with | some l => _ | none => _
  rw [hr]
  exact ⟨k, _, h3, hz, hfl.ren _⟩
section
variable {P : Program} {n0 nx nac : Nat} {f : FuncId} {vs vs' : List V} {Lc L : List E} {R : Rn} {K : V → List E → Nat → Prop}
theorem CallK.rowF {t z m : Nat} {cs : List C} (hfl : FlatC cs) (spec : Spec P f vs Lc nac (fun v L' _ => ∃ lab, v = V.c (.sl lab m) ∧ find L' lab = some ⟨lab, .vec t z, cs⟩)) (hok : callB P f = true)
    (hv : renVs R vs = some vs') (hvw : ∀ v ∈ vs, v.wf nac) (hL : roL R nac L Lc) (hLc : injB [] Lc = true)
    (hK : K (V.c (.sl nx m)) [⟨nx, .vec t z, cs⟩] (nx + 1)) : CallK P n0 f vs' L nx K := by
  refine CallK.mk' hok spec hv hvw hL hLc ?_
  rintro v L' nx' hw ⟨lab, rfl, hf⟩
  refine ⟨V.c (.sl nx m), [⟨nx, .vec t z, cs⟩], nx + 1, [(nx, some lab)], ⟨Nat.le_succ _, ?_, ?_, ⟨covE_some (renL_one _ _) (Nat.lt_succ_self nx) (hfl.wf _) hf (hfl.ren _), trivial⟩, rfl, ?_⟩, hK⟩
  · simp only [V.ren, A.ren, C.ren, renL_one]
  · simp only [V.chk, A.chk, C.chk]; exact inLab_one nx
  · simp only [List.all_cons, List.all_nil, Bool.and_true, inLab_one, Kd.isRo, Bool.not_false, Bool.true_and]
    exact hfl.chk _
/-- A row and an error. -/
theorem CallK.rowE {t z m : Nat} {Er : Int} {cs : List C} (hfl : FlatC cs) (spec : Spec P f vs Lc nac (fun v L' _ => ∃ lab, v = V.tup [A.c (.sl lab m), A.c (C.i Er)] ∧ find L' lab = some ⟨lab, .vec t z, cs⟩)) (hok : callB P f = true)
    (hv : renVs R vs = some vs') (hvw : ∀ v ∈ vs, v.wf nac) (hL : roL R nac L Lc) (hLc : injB [] Lc = true)
    (hK : K (V.tup [A.c (.sl nx m), A.c (C.i Er)]) [⟨nx, .vec t z, cs⟩] (nx + 1)) : CallK P n0 f vs' L nx K := by
  refine CallK.mk' hok spec hv hvw hL hLc ?_
  rintro v L' nx' hw ⟨lab, rfl, hf⟩
  refine ⟨V.tup [A.c (.sl nx m), A.c (C.i Er)], [⟨nx, .vec t z, cs⟩], nx + 1, [(nx, some lab)], ⟨Nat.le_succ _, ?_, ?_, ⟨covE_some (renL_one _ _) (Nat.lt_succ_self nx) (hfl.wf _) hf (hfl.ren _), trivial⟩, rfl, ?_⟩, hK⟩
  · simp [V.ren, A.ren, C.ren, renL_one, C.i, seqO]
  · simp [V.chk, A.chk, C.chk, inLab_one, C.i]
  · simp only [List.all_cons, List.all_nil, Bool.and_true, inLab_one, Kd.isRo, Bool.not_false, Bool.true_and]
    exact hfl.chk _
end
end Go.Proofs.YtijnimgmpocmaaaDoor

