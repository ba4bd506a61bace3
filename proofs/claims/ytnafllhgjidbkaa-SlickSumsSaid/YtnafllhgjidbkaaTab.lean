/- The types of the program, as the calculus reads them. -/
import Derived.Test.YtnafllhgjidbkaaSB
import Derived.Test.YtnafllhgjidbkaaRows
import Derived.KernelRfl
namespace Go.Proofs.Ytnafllhgjidbkaa
open Go.RowKit
def tab : List (Nat × TD) := [(3, ⟨1, 8, [.int .i64 0], .int .i64⟩),
  (4, ⟨1, 1, [.ff], .bool⟩),
  (5, ⟨1, 1, [.int .u8 0], .int .u8⟩),
  (22, ⟨1, 24, [.nil], .sl 4⟩),
  (23, ⟨1, 24, [.nil], .sl 74⟩),
  (25, ⟨4, 64, [.int .i64 0, .int .i64 0, .nil, .nil], .str [(0, 3), (1, 3), (2, 22), (3, 23)]⟩),
  (26, ⟨1, 24, [.nil], .sl 3⟩),
  (28, ⟨3, 40, [.int .i64 0, .nil, .int .i64 0], .str [(0, 3), (1, 26), (2, 3)]⟩),
  (32, ⟨1, 8, [.int .i64 0], .int .i64⟩),
  (56, ⟨6, 80, [.int .i64 0, .nil, .int .i64 0, .int .i64 0, .nil, .int .i64 0], .arr 2 28⟩),
  (74, ⟨5, 40, [.int .i64 0, .int .i64 0, .int .i64 0, .int .i64 0, .int .i64 0], .arr 5 3⟩),
  (87, ⟨1, 24, [.nil], .sl 28⟩),
  (102, ⟨2, 16, [.int .i64 0, .int .i64 0], .str [(0, 3), (1, 3)]⟩)]
theorem td3 : TDOK Try.prog 3 ⟨1, 8, [.int .i64 0], .int .i64⟩ := ⟨(Try.prog.info? 3).getD default, .int .i64 0, by kernel_rfl, by kernel_rfl, by kernel_rfl, by kernel_rfl, fun ρ => rfl, rfl, by simp [C.wf], show Try.prog.underlying 3 = some (.int .i64) by kernel_rfl⟩
theorem td4 : TDOK Try.prog 4 ⟨1, 1, [.ff], .bool⟩ := ⟨(Try.prog.info? 4).getD default, .bool false, by kernel_rfl, by kernel_rfl, by kernel_rfl, by kernel_rfl, fun ρ => rfl, rfl, by simp [C.wf], show Try.prog.underlying 4 = some (.bool) by kernel_rfl⟩
theorem td5 : TDOK Try.prog 5 ⟨1, 1, [.int .u8 0], .int .u8⟩ := ⟨(Try.prog.info? 5).getD default, .int .u8 0, by kernel_rfl, by kernel_rfl, by kernel_rfl, by kernel_rfl, fun ρ => rfl, rfl, by simp [C.wf], show Try.prog.underlying 5 = some (.int .u8) by kernel_rfl⟩
theorem td22 : TDOK Try.prog 22 ⟨1, 24, [.nil], .sl 4⟩ := ⟨(Try.prog.info? 22).getD default, .slice none 0 0, by kernel_rfl, by kernel_rfl, by kernel_rfl, by kernel_rfl, fun ρ => rfl, rfl, by simp [C.wf], show Try.prog.underlying 22 = some (.slice 4) by kernel_rfl⟩
theorem td23 : TDOK Try.prog 23 ⟨1, 24, [.nil], .sl 74⟩ := ⟨(Try.prog.info? 23).getD default, .slice none 0 0, by kernel_rfl, by kernel_rfl, by kernel_rfl, by kernel_rfl, fun ρ => rfl, rfl, by simp [C.wf], show Try.prog.underlying 23 = some (.slice 74) by kernel_rfl⟩
theorem td25 : TDOK Try.prog 25 ⟨4, 64, [.int .i64 0, .int .i64 0, .nil, .nil], .str [(0, 3), (1, 3), (2, 22), (3, 23)]⟩ := ⟨(Try.prog.info? 25).getD default, .agg #[.int .i64 0, .int .i64 0, .slice none 0 0, .slice none 0 0], by kernel_rfl, by kernel_rfl, by kernel_rfl, by kernel_rfl, fun ρ => rfl, rfl, by simp [C.wf], ⟨(match Try.prog.underlying 25 with | some (.struct F) => F | _ => #[]), by kernel_rfl, by kernel_rfl⟩⟩
theorem td26 : TDOK Try.prog 26 ⟨1, 24, [.nil], .sl 3⟩ := ⟨(Try.prog.info? 26).getD default, .slice none 0 0, by kernel_rfl, by kernel_rfl, by kernel_rfl, by kernel_rfl, fun ρ => rfl, rfl, by simp [C.wf], show Try.prog.underlying 26 = some (.slice 3) by kernel_rfl⟩
theorem td28 : TDOK Try.prog 28 ⟨3, 40, [.int .i64 0, .nil, .int .i64 0], .str [(0, 3), (1, 26), (2, 3)]⟩ := ⟨(Try.prog.info? 28).getD default, .agg #[.int .i64 0, .slice none 0 0, .int .i64 0], by kernel_rfl, by kernel_rfl, by kernel_rfl, by kernel_rfl, fun ρ => rfl, rfl, by simp [C.wf], ⟨(match Try.prog.underlying 28 with | some (.struct F) => F | _ => #[]), by kernel_rfl, by kernel_rfl⟩⟩
theorem td32 : TDOK Try.prog 32 ⟨1, 8, [.int .i64 0], .int .i64⟩ := ⟨(Try.prog.info? 32).getD default, .int .i64 0, by kernel_rfl, by kernel_rfl, by kernel_rfl, by kernel_rfl, fun ρ => rfl, rfl, by simp [C.wf], show Try.prog.underlying 32 = some (.int .i64) by kernel_rfl⟩
theorem td56 : TDOK Try.prog 56 ⟨6, 80, [.int .i64 0, .nil, .int .i64 0, .int .i64 0, .nil, .int .i64 0], .arr 2 28⟩ := ⟨(Try.prog.info? 56).getD default, .agg #[.int .i64 0, .slice none 0 0, .int .i64 0, .int .i64 0, .slice none 0 0, .int .i64 0], by kernel_rfl, by kernel_rfl, by kernel_rfl, by kernel_rfl, fun ρ => rfl, rfl, by simp [C.wf], show Try.prog.underlying 56 = some (.array 2 28) by kernel_rfl⟩
theorem td74 : TDOK Try.prog 74 ⟨5, 40, [.int .i64 0, .int .i64 0, .int .i64 0, .int .i64 0, .int .i64 0], .arr 5 3⟩ := ⟨(Try.prog.info? 74).getD default, .agg #[.int .i64 0, .int .i64 0, .int .i64 0, .int .i64 0, .int .i64 0], by kernel_rfl, by kernel_rfl, by kernel_rfl, by kernel_rfl, fun ρ => rfl, rfl, by simp [C.wf], show Try.prog.underlying 74 = some (.array 5 3) by kernel_rfl⟩
theorem td87 : TDOK Try.prog 87 ⟨1, 24, [.nil], .sl 28⟩ := ⟨(Try.prog.info? 87).getD default, .slice none 0 0, by kernel_rfl, by kernel_rfl, by kernel_rfl, by kernel_rfl, fun ρ => rfl, rfl, by simp [C.wf], show Try.prog.underlying 87 = some (.slice 28) by kernel_rfl⟩
theorem td102 : TDOK Try.prog 102 ⟨2, 16, [.int .i64 0, .int .i64 0], .str [(0, 3), (1, 3)]⟩ := ⟨(Try.prog.info? 102).getD default, .agg #[.int .i64 0, .int .i64 0], by kernel_rfl, by kernel_rfl, by kernel_rfl, by kernel_rfl, fun ρ => rfl, rfl, by simp [C.wf], ⟨(match Try.prog.underlying 102 with | some (.struct F) => F | _ => #[]), by kernel_rfl, by kernel_rfl⟩⟩
theorem tok : TOK Try.prog tab := by
  intro p hp
  simp only [tab, List.mem_cons, List.not_mem_nil, or_false] at hp
  rcases hp with rfl | rfl | rfl | rfl | rfl | rfl | rfl | rfl | rfl | rfl | rfl | rfl | rfl
  · exact td3
  · exact td4
  · exact td5
  · exact td22
  · exact td23
  · exact td25
  · exact td26
  · exact td28
  · exact td32
  · exact td56
  · exact td74
  · exact td87
  · exact td102
theorem mixed : Try.prog.follows .mixedOrders = true := by kernel_rfl
end Go.Proofs.Ytnafllhgjidbkaa
