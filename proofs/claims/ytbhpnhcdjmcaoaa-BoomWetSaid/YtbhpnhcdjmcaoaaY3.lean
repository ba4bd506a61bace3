/- Texts of the proof, part 3: Tab, B1, B2, B3, C1, NR, C2, P1, P2, P3, B5, B6, B7. -/
import Derived.Test.YtbhpnhcdjmcaoaaY2
import Derived.WalkKit
import Derived.Below
import Derived.Laws.OwnMore
import Derived.Maps.AppendAt
import Derived.Laws.IdiomCopy
import Derived.Laws.CopyRow
import Derived.IntWalk
import Derived.StillTail
import Derived.Scope
import Derived.ChangeKeysEq
import Derived.Laws.Small
import Derived.OrdersIn
import Derived.TacticsIn
import Derived.OwnWalkIn
import Derived.RangeFuncNested
import Derived.RangeFuncLeaves
import Derived.RangeFuncRecord
import Derived.Maps.Keyed
import Derived.Maps.RangeRun
import Derived.DeepKeys4
import Derived.Test.YtbhpnhcdjmcaoaaRows
import Derived.KernelRfl
/- The types of the program, as the calculus reads them. -/
namespace Go.Proofs.Ytbhpnhcdjmcaoaa
open Go.RowKit
def tab : List (Nat × TD) := [(3, ⟨1, 8, [.int .i64 0], .int .i64⟩),
  (4, ⟨1, 1, [.ff], .bool⟩),
  (5, ⟨1, 1, [.int .u8 0], .int .u8⟩),
  (22, ⟨1, 24, [.nil], .sl 3⟩),
  (24, ⟨3, 40, [.int .i64 0, .int .i64 0, .nil], .str [(0, 3), (1, 3), (2, 22)]⟩),
  (27, ⟨1, 8, [.int .i64 0], .int .i64⟩),
  (30, ⟨1, 24, [.nil], .sl 57⟩),
  (57, ⟨2, 16, [.int .i64 0, .int .i64 0], .str [(0, 3), (1, 3)]⟩),
  (63, ⟨1, 8, [.v (.map none)], .map 3 4 .int (.b false)⟩),
  (65, ⟨4, 48, [.int .i64 0, .int .i64 0, .nil, .v (.map none)], .str [(0, 24), (3, 63)]⟩),
  (69, ⟨2, 16, [.int .i64 0, .int .i64 0], .str [(0, 3), (1, 3)]⟩),
  (73, ⟨1, 24, [.nil], .sl 77⟩),
  (77, ⟨2, 16, [.int .i64 0, .int .i64 0], .str [(0, 3), (1, 3)]⟩),
  (98, ⟨1, 24, [.nil], .sl 4⟩),
  (108, ⟨1, 8, [.v (.map none)], .map 3 3 .int (.i 0)⟩),
  (112, ⟨1, 8, [.v (.map none)], .map 3 69 .int (.w [0, 0])⟩),
  (124, ⟨1, 8, [.int .u64 0], .int .u64⟩),
  (131, ⟨1, 8, [.int .i64 0], .int .i64⟩),
  (138, ⟨1, 4, [.int .u32 0], .int .u32⟩),
  (140, ⟨1, 8, [.int .u64 0], .int .u64⟩),
  (141, ⟨1, 8, [.int .u64 0], .int .u64⟩)]
theorem td3 : TDOK Try.prog 3 ⟨1, 8, [.int .i64 0], .int .i64⟩ := ⟨(Try.prog.info? 3).getD default, .int .i64 0, by kernel_rfl, by kernel_rfl, by kernel_rfl, by kernel_rfl, fun ρ => rfl, rfl, by simp [C.wf, Value.oneCell'], show Try.prog.underlying 3 = some (.int .i64) by kernel_rfl⟩
theorem td4 : TDOK Try.prog 4 ⟨1, 1, [.ff], .bool⟩ := ⟨(Try.prog.info? 4).getD default, .bool false, by kernel_rfl, by kernel_rfl, by kernel_rfl, by kernel_rfl, fun ρ => rfl, rfl, by simp [C.wf, Value.oneCell'], show Try.prog.underlying 4 = some (.bool) by kernel_rfl⟩
theorem td5 : TDOK Try.prog 5 ⟨1, 1, [.int .u8 0], .int .u8⟩ := ⟨(Try.prog.info? 5).getD default, .int .u8 0, by kernel_rfl, by kernel_rfl, by kernel_rfl, by kernel_rfl, fun ρ => rfl, rfl, by simp [C.wf, Value.oneCell'], show Try.prog.underlying 5 = some (.int .u8) by kernel_rfl⟩
theorem td22 : TDOK Try.prog 22 ⟨1, 24, [.nil], .sl 3⟩ := ⟨(Try.prog.info? 22).getD default, .slice none 0 0, by kernel_rfl, by kernel_rfl, by kernel_rfl, by kernel_rfl, fun ρ => rfl, rfl, by simp [C.wf, Value.oneCell'], show Try.prog.underlying 22 = some (.slice 3) by kernel_rfl⟩
theorem td24 : TDOK Try.prog 24 ⟨3, 40, [.int .i64 0, .int .i64 0, .nil], .str [(0, 3), (1, 3), (2, 22)]⟩ := ⟨(Try.prog.info? 24).getD default, .agg #[.int .i64 0, .int .i64 0, .slice none 0 0], by kernel_rfl, by kernel_rfl, by kernel_rfl, by kernel_rfl, fun ρ => rfl, rfl, by simp [C.wf, Value.oneCell'], ⟨(match Try.prog.underlying 24 with | some (.struct F) => F | _ => #[]), by kernel_rfl, by kernel_rfl, by kernel_rfl, by kernel_rfl⟩⟩
theorem td27 : TDOK Try.prog 27 ⟨1, 8, [.int .i64 0], .int .i64⟩ := ⟨(Try.prog.info? 27).getD default, .int .i64 0, by kernel_rfl, by kernel_rfl, by kernel_rfl, by kernel_rfl, fun ρ => rfl, rfl, by simp [C.wf, Value.oneCell'], show Try.prog.underlying 27 = some (.int .i64) by kernel_rfl⟩
theorem td30 : TDOK Try.prog 30 ⟨1, 24, [.nil], .sl 57⟩ := ⟨(Try.prog.info? 30).getD default, .slice none 0 0, by kernel_rfl, by kernel_rfl, by kernel_rfl, by kernel_rfl, fun ρ => rfl, rfl, by simp [C.wf, Value.oneCell'], show Try.prog.underlying 30 = some (.slice 57) by kernel_rfl⟩
theorem td57 : TDOK Try.prog 57 ⟨2, 16, [.int .i64 0, .int .i64 0], .str [(0, 3), (1, 3)]⟩ := ⟨(Try.prog.info? 57).getD default, .agg #[.int .i64 0, .int .i64 0], by kernel_rfl, by kernel_rfl, by kernel_rfl, by kernel_rfl, fun ρ => rfl, rfl, by simp [C.wf, Value.oneCell'], ⟨(match Try.prog.underlying 57 with | some (.struct F) => F | _ => #[]), by kernel_rfl, by kernel_rfl, by kernel_rfl, by kernel_rfl⟩⟩
theorem td63 : TDOK Try.prog 63 ⟨1, 8, [.v (.map none)], .map 3 4 .int (.b false)⟩ := ⟨(Try.prog.info? 63).getD default, .map none, by kernel_rfl, by kernel_rfl, by kernel_rfl, by kernel_rfl, fun ρ => rfl, rfl, by simp [C.wf, Value.oneCell'], ⟨by kernel_rfl, Go.Maps.int_keyed (q := .i64) (by kernel_rfl), keyInt (by kernel_rfl), (Try.prog.info? 4).getD default, by kernel_rfl, by kernel_rfl⟩⟩
theorem td65 : TDOK Try.prog 65 ⟨4, 48, [.int .i64 0, .int .i64 0, .nil, .v (.map none)], .str [(0, 24), (3, 63)]⟩ := ⟨(Try.prog.info? 65).getD default, .agg #[.int .i64 0, .int .i64 0, .slice none 0 0, .map none], by kernel_rfl, by kernel_rfl, by kernel_rfl, by kernel_rfl, fun ρ => rfl, rfl, by simp [C.wf, Value.oneCell'], ⟨(match Try.prog.underlying 65 with | some (.struct F) => F | _ => #[]), by kernel_rfl, by kernel_rfl, by kernel_rfl, by kernel_rfl⟩⟩
theorem td69 : TDOK Try.prog 69 ⟨2, 16, [.int .i64 0, .int .i64 0], .str [(0, 3), (1, 3)]⟩ := ⟨(Try.prog.info? 69).getD default, .agg #[.int .i64 0, .int .i64 0], by kernel_rfl, by kernel_rfl, by kernel_rfl, by kernel_rfl, fun ρ => rfl, rfl, by simp [C.wf, Value.oneCell'], ⟨(match Try.prog.underlying 69 with | some (.struct F) => F | _ => #[]), by kernel_rfl, by kernel_rfl, by kernel_rfl, by kernel_rfl⟩⟩
theorem td73 : TDOK Try.prog 73 ⟨1, 24, [.nil], .sl 77⟩ := ⟨(Try.prog.info? 73).getD default, .slice none 0 0, by kernel_rfl, by kernel_rfl, by kernel_rfl, by kernel_rfl, fun ρ => rfl, rfl, by simp [C.wf, Value.oneCell'], show Try.prog.underlying 73 = some (.slice 77) by kernel_rfl⟩
theorem td77 : TDOK Try.prog 77 ⟨2, 16, [.int .i64 0, .int .i64 0], .str [(0, 3), (1, 3)]⟩ := ⟨(Try.prog.info? 77).getD default, .agg #[.int .i64 0, .int .i64 0], by kernel_rfl, by kernel_rfl, by kernel_rfl, by kernel_rfl, fun ρ => rfl, rfl, by simp [C.wf, Value.oneCell'], ⟨(match Try.prog.underlying 77 with | some (.struct F) => F | _ => #[]), by kernel_rfl, by kernel_rfl, by kernel_rfl, by kernel_rfl⟩⟩
theorem td98 : TDOK Try.prog 98 ⟨1, 24, [.nil], .sl 4⟩ := ⟨(Try.prog.info? 98).getD default, .slice none 0 0, by kernel_rfl, by kernel_rfl, by kernel_rfl, by kernel_rfl, fun ρ => rfl, rfl, by simp [C.wf, Value.oneCell'], show Try.prog.underlying 98 = some (.slice 4) by kernel_rfl⟩
theorem td108 : TDOK Try.prog 108 ⟨1, 8, [.v (.map none)], .map 3 3 .int (.i 0)⟩ := ⟨(Try.prog.info? 108).getD default, .map none, by kernel_rfl, by kernel_rfl, by kernel_rfl, by kernel_rfl, fun ρ => rfl, rfl, by simp [C.wf, Value.oneCell'], ⟨by kernel_rfl, Go.Maps.int_keyed (q := .i64) (by kernel_rfl), keyInt (by kernel_rfl), (Try.prog.info? 3).getD default, by kernel_rfl, by kernel_rfl⟩⟩
theorem td112 : TDOK Try.prog 112 ⟨1, 8, [.v (.map none)], .map 3 69 .int (.w [0, 0])⟩ := ⟨(Try.prog.info? 112).getD default, .map none, by kernel_rfl, by kernel_rfl, by kernel_rfl, by kernel_rfl, fun ρ => rfl, rfl, by simp [C.wf, Value.oneCell'], ⟨by kernel_rfl, Go.Maps.int_keyed (q := .i64) (by kernel_rfl), keyInt (by kernel_rfl), (Try.prog.info? 69).getD default, by kernel_rfl, by kernel_rfl⟩⟩
theorem td124 : TDOK Try.prog 124 ⟨1, 8, [.int .u64 0], .int .u64⟩ := ⟨(Try.prog.info? 124).getD default, .int .u64 0, by kernel_rfl, by kernel_rfl, by kernel_rfl, by kernel_rfl, fun ρ => rfl, rfl, by simp [C.wf, Value.oneCell'], show Try.prog.underlying 124 = some (.int .u64) by kernel_rfl⟩
theorem td131 : TDOK Try.prog 131 ⟨1, 8, [.int .i64 0], .int .i64⟩ := ⟨(Try.prog.info? 131).getD default, .int .i64 0, by kernel_rfl, by kernel_rfl, by kernel_rfl, by kernel_rfl, fun ρ => rfl, rfl, by simp [C.wf, Value.oneCell'], show Try.prog.underlying 131 = some (.int .i64) by kernel_rfl⟩
theorem td138 : TDOK Try.prog 138 ⟨1, 4, [.int .u32 0], .int .u32⟩ := ⟨(Try.prog.info? 138).getD default, .int .u32 0, by kernel_rfl, by kernel_rfl, by kernel_rfl, by kernel_rfl, fun ρ => rfl, rfl, by simp [C.wf, Value.oneCell'], show Try.prog.underlying 138 = some (.int .u32) by kernel_rfl⟩
theorem td140 : TDOK Try.prog 140 ⟨1, 8, [.int .u64 0], .int .u64⟩ := ⟨(Try.prog.info? 140).getD default, .int .u64 0, by kernel_rfl, by kernel_rfl, by kernel_rfl, by kernel_rfl, fun ρ => rfl, rfl, by simp [C.wf, Value.oneCell'], show Try.prog.underlying 140 = some (.int .u64) by kernel_rfl⟩
theorem td141 : TDOK Try.prog 141 ⟨1, 8, [.int .u64 0], .int .u64⟩ := ⟨(Try.prog.info? 141).getD default, .int .u64 0, by kernel_rfl, by kernel_rfl, by kernel_rfl, by kernel_rfl, fun ρ => rfl, rfl, by simp [C.wf, Value.oneCell'], show Try.prog.underlying 141 = some (.int .u64) by kernel_rfl⟩
theorem tok : TOK Try.prog tab := by
  intro p hp
  simp only [tab, List.mem_cons, List.not_mem_nil, or_false] at hp
  rcases hp with rfl | rfl | rfl | rfl | rfl | rfl | rfl | rfl | rfl | rfl | rfl | rfl | rfl | rfl | rfl | rfl | rfl | rfl | rfl | rfl | rfl
  · exact td3
  · exact td4
  · exact td5
  · exact td22
  · exact td24
  · exact td27
  · exact td30
  · exact td57
  · exact td63
  · exact td65
  · exact td69
  · exact td73
  · exact td77
  · exact td98
  · exact td108
  · exact td112
  · exact td124
  · exact td131
  · exact td138
  · exact td140
  · exact td141
theorem mixed : Try.prog.follows .mixedOrders = true := by kernel_rfl
end Go.Proofs.Ytbhpnhcdjmcaoaa

/- Boom: small functions. -/
namespace Go.Proofs.Ytbhpnhcdjmcaoaa
open Go.RowKit
set_option linter.unusedVariables false
set_option linter.unusedSimpArgs false
theorem between_spec (a b c : Int) : Spec Try.prog 71 [V.i a, V.i b, V.i c] [] 0 (Is (V.c (.bool (decide (a ≤ b ∧ b ≤ c))))) := by
  refine Spec.of tok Try.func71 rfl rfl rfl fun n0 cx => vc_ok tok ?_
  repeat ((conv => whnf); first | refine fun (K' : K3) hK' => ?_ | (refine hK' _ _ _ ?_; clear hK' K'))
  refine br_d (fun h => ?_) (fun h => ?_)
  all_goals
    repeat ((conv => whnf); refine hK' _ _ _ ?_; clear hK' K')
    intro ρ; show Value.bool _ = Value.bool _; simp [h]
/-- A chart as the functions take it: its costs lie at label 0, its booms at label 1. -/
@[reducible] def chV (W H : Int) (n : Nat) : V := V.agg [C.i W, C.i H, C.sl 0 n, C.mp 1]
theorem row_spec (W H : Int) (n : Nat) (i y : Int) (hW : 0 < W) (hi : 0 ≤ i) (hi2 : i ≤ 1000) : Spec Try.prog 74 [chV W H n, V.i i, V.i y] [] 2 (Is (V.c (.bool (decide (i / W = y))))) := by
  have h1 : 0 ≤ i / W := Int.ediv_nonneg hi (by omega)
  have h2 : i / W ≤ i := Int.ediv_le_self _ hi
  refine Spec.of tok Try.func74 rfl rfl rfl fun n0 cx => vc_ok tok ?_
  repeat ((conv => whnf); first | (refine And.intro (by first | omega | exact Nat.le_of_ble_eq_true rfl | (dsimp only [inK]; omega)) ?_) | refine Exists.intro _ (And.intro rfl ?_) | refine fun (K' : K3) hK' => ?_ | (refine hK' _ _ _ ?_; clear hK' K'))
  intro ρ; rfl
def idxI (W H x y : Int) : Int := if (0 ≤ x ∧ x ≤ W - 1) ∧ 0 ≤ y ∧ y ≤ H - 1 then y * W + x else -1
theorem index_spec (W H : Int) (n : Nat) (x y : Int) (hW : 0 < W ∧ W ≤ 10) (hH : 0 < H ∧ H ≤ 10) : Spec Try.prog 90 [chV W H n, V.agg [C.i x, C.i y]] [] 2 (Is (V.i (idxI W H x y))) := by
  refine Spec.of tok Try.func90 rfl rfl rfl fun n0 cx => vc_ok tok ?_
  by_cases h1 : 0 ≤ x ∧ x ≤ W - 1
  · by_cases h2 : 0 ≤ y ∧ y ≤ H - 1
    · have hm : y * W ≤ 9 * 10 := Int.mul_le_mul (by omega) (by omega) (by omega) (by omega)
      have hm0 : 0 ≤ y * W := Int.mul_nonneg (by omega) (by omega)
      repeat ((conv => whnf); first | (refine And.intro (by first | omega | exact Nat.le_of_ble_eq_true rfl | (dsimp only [inK]; omega)) ?_) | refine Exists.intro _ (And.intro rfl ?_) | refine fun (K' : K3) hK' => ?_ | (refine hK' _ _ _ ?_; clear hK' K') | refine CallK.val (R := []) (between_spec _ _ _) (by kernel_rfl) rfl (by simp [V.wf, A.wf, C.wf, V.i]) trivial rfl rfl trivial ?_ | refine bs_bf (by simp [h1]) ?_ | refine br_bf (by simp [h1, h2]) ?_ | refine CallK.m ?_)
      intro ρ; simp only [idxI, h1, h2, and_self, if_true]; rfl
    · repeat ((conv => whnf); first | (refine And.intro (by first | omega | exact Nat.le_of_ble_eq_true rfl | (dsimp only [inK]; omega)) ?_) | refine Exists.intro _ (And.intro rfl ?_) | refine fun (K' : K3) hK' => ?_ | (refine hK' _ _ _ ?_; clear hK' K') | refine CallK.val (R := []) (between_spec _ _ _) (by kernel_rfl) rfl (by simp [V.wf, A.wf, C.wf, V.i]) trivial rfl rfl trivial ?_ | refine bs_bf (by simp [h1]) ?_ | refine br_bt (by simp [h1, h2]) ?_ | refine CallK.m ?_)
      intro ρ; simp only [idxI, h1, h2, and_false, if_false]; rfl
  · repeat ((conv => whnf); first | (refine And.intro (by first | omega | exact Nat.le_of_ble_eq_true rfl | (dsimp only [inK]; omega)) ?_) | refine Exists.intro _ (And.intro rfl ?_) | refine fun (K' : K3) hK' => ?_ | (refine hK' _ _ _ ?_; clear hK' K') | refine CallK.val (R := []) (between_spec _ _ _) (by kernel_rfl) rfl (by simp [V.wf, A.wf, C.wf, V.i]) trivial rfl rfl trivial ?_ | refine bs_bt (by simp [h1]) ?_ | refine CallK.m ?_)
    intro ρ; simp only [idxI, h1, false_and, if_false]; rfl
theorem cell_spec (W H : Int) (n : Nat) (i : Int) (hW : 0 < W) (hi : 0 ≤ i) (hi2 : i ≤ 1000) : Spec Try.prog 101 [chV W H n, V.i i] [] 2 (Is (V.agg [C.i (i % W), C.i (i / W)])) := by
  have h1 : 0 ≤ i / W := Int.ediv_nonneg hi (by omega)
  have h2 : i / W ≤ i := Int.ediv_le_self _ hi
  refine Spec.of tok Try.func101 rfl rfl rfl fun n0 cx => vc_ok tok ?_
  repeat ((conv => whnf); first | (refine And.intro (by first | omega | exact Nat.le_of_ble_eq_true rfl | (dsimp only [inK]; omega)) ?_) | refine Exists.intro _ (And.intro rfl ?_) | refine fun (K' : K3) hK' => ?_ | (refine hK' _ _ _ ?_; clear hK' K') | refine draw_auto tok mixed (by kernel_rfl) ?_)
  intro ρ; rfl
theorem holds_spec (W H : Int) (cs : List Int) (i : Nat) (hi : i < cs.length) : Spec Try.prog 73 [chV W H cs.length, V.i i] [⟨0, .ro 0, cs.map C.i⟩] 2 (Is (V.c (.bool (decide (cs.getD i 0 ≠ 0))))) := by
  have hl : (cs.map C.i).length = cs.length := by simp
  refine Spec.of tok Try.func73 rfl rfl rfl fun n0 cx => vc_ok tok ?_
  repeat ((conv => whnf); first | (refine And.intro (by first | omega | exact Nat.le_of_ble_eq_true rfl | (dsimp only [inK]; omega)) ?_) | with_reducible refine ld (intL hi) ?_ | refine Exists.intro _ (And.intro rfl ?_) | refine fun (K' : K3) hK' => ?_ | (refine hK' _ _ _ ?_; clear hK' K'))
  intro ρ; rfl
theorem cost_spec (W H : Int) (cs : List Int) (i : Nat) (hi : i < cs.length) : Spec Try.prog 75 [chV W H cs.length, V.i i] [⟨0, .ro 0, cs.map C.i⟩] 2 (Is (V.i (if cs.getD i 0 > 0 then cs.getD i 0 else 0))) := by
  have hl : (cs.map C.i).length = cs.length := by simp
  refine Spec.of tok Try.func75 rfl rfl rfl fun n0 cx => vc_ok tok ?_
  repeat ((conv => whnf); first | (refine And.intro (by first | omega | exact Nat.le_of_ble_eq_true rfl | (dsimp only [inK]; omega)) ?_) | with_reducible refine ld (intL hi) ?_ | refine Exists.intro _ (And.intro rfl ?_) | refine fun (K' : K3) hK' => ?_ | (refine hK' _ _ _ ?_; clear hK' K'))
  intro ρ; rfl
/-- Booms, as the map holds them. -/
def bmF (f : Int → Bool) : MF := fun k => match k with
  | [i] => if f i then some (.b true) else none
  | _ => none
theorem bmF_look (f : Int → Bool) (i : Int) : bmF f [i] = if f i then some (.b true) else none := rfl
theorem wet_spec (W H : Int) (cs : List Int) (f : Int → Bool) (i : Nat) (hi : i < cs.length) (h100 : cs.length ≤ 300) : Spec Try.prog 93 [chV W H cs.length, V.i i] [⟨0, .ro 0, cs.map C.i⟩, ⟨1, .mp false .int (bmF f), []⟩] 2 (Is (V.c (.bool (decide (cs.getD i 0 ≠ -1) && !(f i))))) := by
  have hl : (cs.map C.i).length = cs.length := by simp
  refine Spec.of tok Try.func93 rfl rfl rfl fun n0 cx => vc_ok tok ?_
  by_cases h : cs.getD i 0 ≠ -1
  · cases hf : f i with
    | true =>
      have hm : bmF f [(i : Int)] = some (.b true) := by rw [bmF_look, hf]; rfl
      repeat ((conv => whnf); first | (refine And.intro (by first | omega | exact Nat.le_of_ble_eq_true rfl | (dsimp only [inK]; omega)) ?_) | with_reducible refine ld (intL hi) ?_ | with_reducible refine lkm (hm) ?_ | refine Exists.intro _ (And.intro rfl ?_) | refine br_t (by omega) ?_ | refine fun (K' : K3) hK' => ?_ | (refine hK' _ _ _ ?_; clear hK' K'))
      intro ρ; show Value.bool _ = Value.bool _; simp at h; simp [hf, h]
    | false =>
      have hm : bmF f [(i : Int)] = none := by rw [bmF_look, hf]; rfl
      repeat ((conv => whnf); first | (refine And.intro (by first | omega | exact Nat.le_of_ble_eq_true rfl | (dsimp only [inK]; omega)) ?_) | with_reducible refine ld (intL hi) ?_ | with_reducible refine lkm (hm) ?_ | refine Exists.intro _ (And.intro rfl ?_) | refine br_t (by omega) ?_ | refine fun (K' : K3) hK' => ?_ | (refine hK' _ _ _ ?_; clear hK' K'))
      intro ρ; show Value.bool _ = Value.bool _; simp at h; simp [hf, h]
  · repeat ((conv => whnf); first | (refine And.intro (by first | omega | exact Nat.le_of_ble_eq_true rfl | (dsimp only [inK]; omega)) ?_) | with_reducible refine ld (intL hi) ?_ | refine Exists.intro _ (And.intro rfl ?_) | refine br_f (by omega) ?_ | refine fun (K' : K3) hK' => ?_ | (refine hK' _ _ _ ?_; clear hK' K'))
    intro ρ; show Value.bool _ = Value.bool _; simp at h; simp [h]
theorem nan_spec (x : Int) : Spec Try.prog 125 [V.i x] [] 0 (Is (V.c .ff)) := by
  refine Spec.of tok Try.func125 rfl rfl rfl fun n0 cx => vc_ok tok ?_
  repeat ((conv => whnf); first | refine fun (K' : K3) hK' => ?_ | (refine hK' _ _ _ ?_; clear hK' K'))
  intro ρ; show Value.bool _ = Value.bool _; simp
def cmpI (x y : Int) : Int := if x < y then -1 else if x > y then 1 else 0
theorem cmp_spec (x y : Int) : Spec Try.prog 111 [V.i x, V.i y] [] 0 (Is (V.i (cmpI x y))) := by
  refine Spec.of tok Try.func111 rfl rfl rfl fun n0 cx => vc_ok tok ?_
  by_cases h1 : x < y
  · repeat ((conv => whnf); first | refine br_t (by omega) ?_ | refine fun (K' : K3) hK' => ?_ | (refine hK' _ _ _ ?_; clear hK' K') | refine CallK.val (R := []) (nan_spec _) (by kernel_rfl) rfl (by simp [V.wf, A.wf, C.wf, V.i]) trivial rfl rfl trivial ?_ | refine CallK.m ?_)
    intro ρ; simp [cmpI, h1]; rfl
  · by_cases h2 : x > y
    · repeat ((conv => whnf); first | refine br_t (by omega) ?_ | refine br_f (by omega) ?_ | refine fun (K' : K3) hK' => ?_ | (refine hK' _ _ _ ?_; clear hK' K') | refine CallK.val (R := []) (nan_spec _) (by kernel_rfl) rfl (by simp [V.wf, A.wf, C.wf, V.i]) trivial rfl rfl trivial ?_ | refine CallK.m ?_)
      intro ρ; simp [cmpI, h1, h2]; rfl
    · repeat ((conv => whnf); first | refine br_f (by omega) ?_ | refine fun (K' : K3) hK' => ?_ | (refine hK' _ _ _ ?_; clear hK' K') | refine CallK.val (R := []) (nan_spec _) (by kernel_rfl) rfl (by simp [V.wf, A.wf, C.wf, V.i]) trivial rfl rfl trivial ?_ | refine CallK.m ?_)
      intro ρ; simp [cmpI, h1, h2]; rfl
def orI (x y : Int) : Int := if x ≠ 0 then x else y
theorem or_spec (x y : Int) : Spec Try.prog 110 [V.c (.sl 0 2)] [⟨0, .ro 0, [C.i x, C.i y]⟩] 1 (Is (V.i (orI x y))) := by
  refine Spec.of tok Try.func110 rfl rfl rfl fun n0 cx => vc_ok tok ?_
  repeat ((conv => whnf); first | refine fun (K' : K3) hK' => ?_ | (refine hK' _ _ _ ?_; clear hK' K'))
  refine Tri.loop (γ := Nat) (fun k => k ≤ 2 ∧ (1 ≤ k → x = 0) ∧ (2 ≤ k → y = 0)) (fun k => [(3, V.i 0), (6, V.c (.sl 0 2)), (7, V.i 2), (8, V.i (k : Nat))]) (fun k => [⟨0, .ro 0, [C.i x, C.i y]⟩]) 1 (fun k => 2 - k) 0 (R0 := []) ?_ ?_ ?_
  · exact ⟨by omega, by omega, by omega⟩
  · skip
    refine ⟨?_, ?_, rfl, rfl, by exact Nat.le_of_ble_eq_true rfl⟩
    · repeat (first | exact trivial | (refine And.intro (covS_syn (by rfl) rfl (by first | exact trivial | exact Nat.le_of_ble_eq_true rfl)) ?_))
    · repeat (first | exact trivial | refine And.intro (covE_id (Nat.le_of_ble_eq_true rfl) (by simp [C.wf]) rfl (by rfl)) ?_)
  · rintro k ⟨hk, h1, h2⟩
    refine vc_ok tok ?_
    by_cases hk0 : k = 0
    · subst hk0
      by_cases hx : x ≠ 0
      · repeat ((conv => whnf); first | (refine And.intro (by first | omega | exact ⟨by omega, by omega, by exact Nat.le_of_ble_eq_true rfl⟩) ?_) | refine Exists.intro _ (And.intro rfl ?_) | refine br_t (by omega) ?_ | refine fun (K' : K3) hK' => ?_ | (refine hK' _ _ _ ?_; clear hK' K'))
        intro ρ; simp [orI, hx]; rfl
      · repeat ((conv => whnf); first | (refine And.intro (by first | omega | (dsimp only [inK]; omega) | exact ⟨by omega, by omega, by exact Nat.le_of_ble_eq_true rfl⟩) ?_) | refine Exists.intro _ (And.intro rfl ?_) | refine br_t (by omega) ?_ | refine br_f (by omega) ?_ | refine fun (K' : K3) hK' => ?_ | (refine hK' _ _ _ ?_; clear hK' K'))
        refine ⟨0 + 1, [], ⟨by omega, fun _ => by omega, by omega⟩, by omega, ?_⟩
        refine ⟨?_, ?_, rfl, rfl, by exact Nat.le_of_ble_eq_true rfl⟩
        · repeat (first | exact trivial | (refine And.intro (covS_syn (by rfl) rfl (by first | exact trivial | exact Nat.le_of_ble_eq_true rfl)) ?_))
        · repeat (first | exact trivial | refine And.intro (covE_id (Nat.le_of_ble_eq_true rfl) (by simp [C.wf]) rfl (by rfl)) ?_)
    · by_cases hk1 : k = 1
      · subst hk1
        have hx := h1 (by omega)
        by_cases hy : y ≠ 0
        · repeat ((conv => whnf); first | (refine And.intro (by first | omega | exact ⟨by omega, by omega, by exact Nat.le_of_ble_eq_true rfl⟩) ?_) | refine Exists.intro _ (And.intro rfl ?_) | refine br_t (by omega) ?_ | refine fun (K' : K3) hK' => ?_ | (refine hK' _ _ _ ?_; clear hK' K'))
          intro ρ; simp [orI, hx]; rfl
        · repeat ((conv => whnf); first | (refine And.intro (by first | omega | (dsimp only [inK]; omega) | exact ⟨by omega, by omega, by exact Nat.le_of_ble_eq_true rfl⟩) ?_) | refine Exists.intro _ (And.intro rfl ?_) | refine br_t (by omega) ?_ | refine br_f (by omega) ?_ | refine fun (K' : K3) hK' => ?_ | (refine hK' _ _ _ ?_; clear hK' K'))
          refine ⟨1 + 1, [], ⟨by omega, fun _ => by omega, by omega⟩, by omega, ?_⟩
          refine ⟨?_, ?_, rfl, rfl, by exact Nat.le_of_ble_eq_true rfl⟩
          · repeat (first | exact trivial | (refine And.intro (covS_syn (by rfl) rfl (by first | exact trivial | exact Nat.le_of_ble_eq_true rfl)) ?_))
          · repeat (first | exact trivial | refine And.intro (covE_id (Nat.le_of_ble_eq_true rfl) (by simp [C.wf]) rfl (by rfl)) ?_)
      · have : k = 2 := by omega
        subst this
        repeat ((conv => whnf); first | refine br_f (by omega) ?_ | refine fun (K' : K3) hK' => ?_ | (refine hK' _ _ _ ?_; clear hK' K'))
        intro ρ; simp [orI, h1 (by omega), h2 (by omega)]; rfl
def cmpC (p q : Int × Int) : Int := orI (cmpI p.2 q.2) (cmpI p.1 q.1)
theorem compare_spec (p q : Int × Int) : Spec Try.prog 98 [V.agg [C.i p.1, C.i p.2], V.agg [C.i q.1, C.i q.2]] [] 0 (Is (V.i (cmpC p q))) := by
  refine Spec.of tok Try.func98 rfl rfl rfl fun n0 cx => vc_ok tok ?_
  repeat ((conv => whnf); first | (refine And.intro (by first | omega | exact Nat.le_of_ble_eq_true rfl | (dsimp only [inK]; omega) | exact ⟨by omega, by omega, by exact Nat.le_of_ble_eq_true rfl⟩) ?_) | refine Exists.intro _ (And.intro rfl ?_) | refine fun (K' : K3) hK' => ?_ | (refine hK' _ _ _ ?_; clear hK' K') | refine draw_auto tok mixed (by kernel_rfl) ?_ | refine HD_mk (fun _ h => CallK.val (R := []) (cmp_spec _ _) (by kernel_rfl) rfl (by simp [V.wf, A.wf, C.wf, V.i]) trivial rfl rfl trivial h) ?_ | refine HD_mk (fun _ h => CallK.val (R := [(0, some 2)]) (or_spec (cmpI p.2 q.2) (cmpI p.1 q.1)) (by kernel_rfl) rfl (by simp [V.wf, A.wf, C.wf, V.i]) ⟨⟨Nat.le_of_ble_eq_true rfl, by simp [C.wf], _, _, rfl, .inl rfl, rfl⟩, trivial⟩ rfl rfl trivial h) ?_ | refine And.intro (And.intro rfl rfl) ?_)
  intro ρ; rfl
abbrev Way := Int × Int
def lessW (a b : Way) : Bool := decide (a.1 < b.1) || (decide (a.1 = b.1) && decide (a.2 < b.2))
theorem less_spec (a b : Way) : Spec Try.prog 100 [V.agg [C.i a.1, C.i a.2], V.agg [C.i b.1, C.i b.2]] [] 0 (Is (V.c (.bool (lessW a b)))) := by
  refine Spec.of tok Try.func100 rfl rfl rfl fun n0 cx => vc_ok tok ?_
  by_cases h1 : a.1 < b.1
  · repeat ((conv => whnf); first | (refine And.intro (by first | omega | exact Nat.le_of_ble_eq_true rfl) ?_) | refine Exists.intro _ (And.intro rfl ?_) | refine bs_t (by omega) ?_ | refine fun (K' : K3) hK' => ?_ | (refine hK' _ _ _ ?_; clear hK' K'))
    intro ρ; show Value.bool _ = Value.bool _; simp [lessW, h1]
  · by_cases h2 : a.1 = b.1
    · repeat ((conv => whnf); first | (refine And.intro (by first | omega | exact Nat.le_of_ble_eq_true rfl) ?_) | refine Exists.intro _ (And.intro rfl ?_) | refine br_t (by omega) ?_ | refine bs_f (by omega) ?_ | refine fun (K' : K3) hK' => ?_ | (refine hK' _ _ _ ?_; clear hK' K'))
      intro ρ; show Value.bool _ = Value.bool _; simp [lessW, h2]
    · repeat ((conv => whnf); first | (refine And.intro (by first | omega | exact Nat.le_of_ble_eq_true rfl) ?_) | refine Exists.intro _ (And.intro rfl ?_) | refine br_f (by omega) ?_ | refine bs_f (by omega) ?_ | refine fun (K' : K3) hK' => ?_ | (refine hK' _ _ _ ?_; clear hK' K'))
      intro ρ; show Value.bool _ = Value.bool _; simp [lessW, h1, h2]
end Go.Proofs.Ytbhpnhcdjmcaoaa

/- Boom: IndexFunc and ContainsFunc, whatever is asked; Valid. -/
namespace Go.Proofs.Ytbhpnhcdjmcaoaa
open Go.RowKit
set_option linter.unusedVariables false
set_option linter.unusedSimpArgs false
/-- Memory that stays as it is. -/
theorem covL_same {nx : Nat} : ∀ {L L0 : List E}, (∀ e ∈ L, e.lab < nx ∧ ∀ c ∈ e.cs, c.wf nx) → (∀ e ∈ L, find L0 e.lab = some e) → covL [] nx L0 L
  | [], _, _, _ => trivial
  | e :: r, L0, h, hf => by
    refine ⟨covE_id (h e (by simp)).1 (h e (by simp)).2 ?_ rfl, covL_same (fun x hx => h x (by simp [hx])) (fun x hx => hf x (by simp [hx]))⟩
    exact hf e (by simp)
theorem find_self : ∀ {L : List E}, injB [] L = true → ∀ e ∈ L, find L e.lab = some e
  | [], _, e, he => by cases he
  | ⟨lab, kd, cs⟩ :: r, h, e, he => by
    rcases List.mem_cons.1 he with rfl | he
    · simp [find]
    · have hne : lab ≠ e.lab := fun hh => by
        have := injB_spec h ⟨lab, kd, cs⟩ (by simp) e (by simp [he]) (.inl hh.symm)
        simp only [injB, Bool.and_eq_true] at h
        have h1 := List.all_eq_true.1 h.1 e he
        simp only [Bool.and_eq_true] at h1
        rw [← hh] at h1; simp at h1
      have hb : Nat.beq lab e.lab = false := by
        cases hb : Nat.beq lab e.lab with
        | false => rfl
        | true => exact absurd (Nat.eq_of_beq_eq_true hb) hne
      rw [find, hb]
      simp only [injB, Bool.and_eq_true] at h
      exact find_self h.2 e he
theorem cov_refl {nx : Nat} {L : List E} (h : ∀ e ∈ L, e.lab < nx ∧ ∀ c ∈ e.cs, c.wf nx) (hi : injB [] L = true) : covL [] nx L L := covL_same h (find_self hi)
theorem find_num {l : List Int} {p : Int → Bool} {k : Nat} (hlt : k < l.length) (hbad : p (l.getD k 0) = true) (hb : ∀ i, i < k → p (l.getD i 0) = false) : l.findIdx? p = some k := by
  rw [List.findIdx?_eq_some_iff_getElem]
  refine ⟨hlt, by simpa [List.getD_eq_getElem?_getD, hlt] using hbad, fun i hi => ?_⟩
  have := hb i hi
  simpa [List.getD_eq_getElem?_getD, show i < l.length by omega] using this
theorem find_not {l : List Int} {p : Int → Bool} (hb : ∀ i, i < l.length → p (l.getD i 0) = false) : l.findIdx? p = none := by
  rw [List.findIdx?_eq_none_iff]
  intro x hx
  obtain ⟨i, hi, rfl⟩ := List.mem_iff_getElem.1 hx
  have := hb i (by omega)
  simpa [List.getD_eq_getElem?_getD, hi] using this
def idxV (l : List Int) (p : Int → Bool) : Int := match l.findIdx? p with | some k => (k : Int) | none => -1
theorem index_any {f : FuncId} {caps : List (Nat × Nat)} {Lc : List E} {na : Nat} {p : Int → Bool} {l : List Int} (hl : l.length ≤ 300) (hcb : callB Try.prog f = true)
    (hsp : ∀ i, i < l.length → Spec Try.prog f ([V.i (l.getD i 0)] ++ caps.map ptrV) Lc na (Is (V.c (.bool (p (l.getD i 0)))))) (hcaps : ∀ q ∈ caps, q.1 < na) (h0 : 0 < na)
    (hw : ∀ e ∈ Lc, e.lab < na ∧ ∀ c ∈ e.cs, c.wf na) (hro : ∀ L, (∀ e ∈ Lc, find L e.lab = some e) → roL [] na L Lc) (hin : injB [] (⟨0, .ro 0, l.map C.i⟩ :: Lc) = true) :
    Spec Try.prog 105 [V.c (.sl 0 l.length), V.c (.fn f caps)] (⟨0, .ro 0, l.map C.i⟩ :: Lc) na (Is (V.i (idxV l p))) := by
  have hlm : (l.map C.i).length = l.length := by simp
  have hwL : ∀ e ∈ ((⟨0, .ro 0, l.map C.i⟩ : E) :: Lc), e.lab < na ∧ ∀ c ∈ e.cs, c.wf na := fun e he => by
    rcases List.mem_cons.1 he with rfl | he
    · exact ⟨h0, wf_ints _ _⟩
    · exact hw e he
  have hro' : roL [] na (⟨0, .ro 0, l.map C.i⟩ :: Lc) Lc := hro _ fun e he => find_self hin e (by simp [he])
  have hin' : injB [] Lc = true := by simp only [injB, Bool.and_eq_true] at hin; exact hin.2
  have hfn : (V.c (.fn f caps)).wf na := hcaps
  have hvw : ∀ i, ∀ v ∈ ([V.i (l.getD i 0)] ++ caps.map ptrV), v.wf na := fun i v hv => by
    rcases List.mem_append.1 hv with hv | hv
    · rw [List.mem_singleton.1 hv]; trivial
    · obtain ⟨q, hq, rfl⟩ := List.mem_map.1 hv; exact hcaps q hq
  have hren : ∀ i, renVs [] ([V.i (l.getD i 0)] ++ caps.map ptrV) = some ([V.i (l.getD i 0)] ++ caps.map ptrV) := fun i => by
    have : ∀ m : List (Nat × Nat), seqO ((m.map ptrV).map (V.ren [])) = some (m.map ptrV) := by
      intro m
      induction m with
      | nil => rfl
      | cons q r ih => simp only [List.map_cons, V.ren, A.ren, C.ren, renL, ptrV, V.c] at *; simp only [seqO, ih]
    simp only [renVs, List.singleton_append, List.map_cons, V.ren, A.ren, C.ren, V.i, V.c]
    simp only [seqO, this]
  refine Spec.of tok Try.func105 rfl rfl rfl fun n0 cx => vc_ok tok ?_
  repeat ((conv => whnf); first | refine fun (K' : K3) hK' => ?_ | (refine hK' _ _ _ ?_; clear hK' K'))
  refine Tri.loop (γ := Nat) (fun k => k ≤ l.length ∧ ∀ i, i < k → p (l.getD i 0) = false) (fun k => [(0, V.c (.sl 0 l.length)), (1, V.c (.fn f caps)), (7, V.i l.length), (8, V.i (k : Nat))]) (fun k => ⟨0, .ro 0, l.map C.i⟩ :: Lc) na (fun k => l.length - k) 0 (R0 := []) ?_ ?_ ?_
  · exact ⟨by omega, by omega⟩
  · refine ⟨?_, cov_refl hwL hin, hin, rfl, Nat.le_refl _⟩
    repeat (first | exact trivial | refine And.intro (covS_syn (by first | rfl) rfl (by first | exact trivial | exact h0 | exact hcaps)) ?_)
  · rintro k ⟨hk, hb⟩
    refine vc_ok tok ?_
    by_cases hlt : k < l.length
    · cases hbad : p (l.getD k 0) with
      | true =>
        repeat ((conv => whnf); first | (refine And.intro (by first | omega | (dsimp only [inK]; omega)) ?_) | with_reducible refine ld (intL hlt) ?_ | refine br_t (by omega) ?_ | refine fun (K' : K3) hK' => ?_ | (refine hK' _ _ _ ?_; clear hK' K') | refine CallK.val (R := []) (hsp k hlt) hcb (hren k) (hvw k) hro' hin' rfl trivial ?_ | refine br_bt hbad ?_ | refine CallK.m ?_)
        intro ρ
        rw [idxV, find_num hlt hbad hb]; rfl
      | false =>
        repeat ((conv => whnf); first | (refine And.intro (by first | omega | (dsimp only [inK]; omega)) ?_) | with_reducible refine ld (intL hlt) ?_ | refine br_t (by omega) ?_ | refine fun (K' : K3) hK' => ?_ | (refine hK' _ _ _ ?_; clear hK' K') | refine CallK.val (R := []) (hsp k hlt) hcb (hren k) (hvw k) hro' hin' rfl trivial ?_ | refine br_bf hbad ?_ | refine CallK.m ?_)
        refine ⟨k + 1, [], ⟨by omega, fun i hi => ?_⟩, by omega, ?_⟩
        · by_cases h : i = k
          · rw [h]; exact hbad
          · exact hb i (by omega)
        refine ⟨?_, cov_refl hwL hin, hin, rfl, Nat.le_refl _⟩
        repeat (first | exact trivial | refine And.intro (covS_syn (by first | rfl | (refine congrArg some (congrArg V.i ?_); omega)) rfl (by first | exact trivial | exact h0 | exact hcaps)) ?_)
    · have hkl : k = l.length := by omega
      repeat ((conv => whnf); first | refine br_f (by omega) ?_ | refine fun (K' : K3) hK' => ?_ | (refine hK' _ _ _ ?_; clear hK' K'))
      intro ρ
      rw [idxV, find_not (fun i hi => hb i (by omega))]; rfl
theorem any_idx (l : List Int) (p : Int → Bool) : (decide (idxV l p ≥ 0)) = l.any p := by
  unfold idxV
  cases h : l.findIdx? p with
  | none =>
    have : l.any p = false := by simpa [List.any_eq_false] using List.findIdx?_eq_none_iff.1 h
    simp [this]
  | some k =>
    have : l.any p = true := by
      obtain ⟨h1, h2, _⟩ := List.findIdx?_eq_some_iff_getElem.1 h
      exact List.any_eq_true.2 ⟨_, List.getElem_mem h1, h2⟩
    simp [this]
theorem contains_any {f : FuncId} {caps : List (Nat × Nat)} {Lc : List E} {na : Nat} {p : Int → Bool} {l : List Int} (hl : l.length ≤ 300) (hcb : callB Try.prog f = true)
    (hsp : ∀ i, i < l.length → Spec Try.prog f ([V.i (l.getD i 0)] ++ caps.map ptrV) Lc na (Is (V.c (.bool (p (l.getD i 0)))))) (hcaps : ∀ q ∈ caps, q.1 < na) (h0 : 0 < na)
    (hw : ∀ e ∈ Lc, e.lab < na ∧ ∀ c ∈ e.cs, c.wf na) (hro : ∀ L, (∀ e ∈ Lc, find L e.lab = some e) → roL [] na L Lc) (hin : injB [] (⟨0, .ro 0, l.map C.i⟩ :: Lc) = true) (hro0 : roL [] na (⟨0, .ro 0, l.map C.i⟩ :: Lc) (⟨0, .ro 0, l.map C.i⟩ :: Lc)) :
    Spec Try.prog 77 [V.c (.sl 0 l.length), V.c (.fn f caps)] (⟨0, .ro 0, l.map C.i⟩ :: Lc) na (Is (V.c (.bool (l.any p)))) := by
  have hfn : (V.c (.fn f caps)).wf na := hcaps
  refine Spec.of tok Try.func77 rfl rfl rfl fun n0 cx => vc_ok tok ?_
  repeat ((conv => whnf); first | refine fun (K' : K3) hK' => ?_ | (refine hK' _ _ _ ?_; clear hK' K') | (refine CallK.val (R := []) (index_any hl hcb hsp hcaps h0 hw hro hin) (by kernel_rfl) rfl (fun v hv => by simp only [List.mem_cons, List.not_mem_nil, or_false] at hv; rcases hv with rfl | rfl; exact h0; exact hcaps) hro0 hin rfl trivial ?_) | refine CallK.m ?_)
  intro ρ
  show Value.bool _ = Value.bool _
  rw [← any_idx]
def costBad (x : Int) : Bool := !decide (-1 ≤ x ∧ x ≤ 100)
theorem bad_spec (x : Int) : Spec Try.prog 82 [V.i x] [] 1 (Is (V.c (.bool (costBad x)))) := by
  refine Spec.of tok Try.func82 rfl rfl rfl fun n0 cx => vc_ok tok ?_
  by_cases h1 : -1 ≤ x ∧ x ≤ 100
  · repeat ((conv => whnf); first | refine fun (K' : K3) hK' => ?_ | (refine hK' _ _ _ ?_; clear hK' K') | refine CallK.val (R := []) (between_spec _ _ _) (by kernel_rfl) rfl (by simp [V.wf, A.wf, C.wf, V.i]) trivial rfl rfl trivial ?_ | refine CallK.m ?_)
    intro ρ; show Value.bool _ = Value.bool _; simp [costBad]
  · repeat ((conv => whnf); first | refine fun (K' : K3) hK' => ?_ | (refine hK' _ _ _ ?_; clear hK' K') | refine CallK.val (R := []) (between_spec _ _ _) (by kernel_rfl) rfl (by simp [V.wf, A.wf, C.wf, V.i]) trivial rfl rfl trivial ?_ | refine CallK.m ?_)
    intro ρ; show Value.bool _ = Value.bool _; simp [costBad]
theorem cbad_spec (cs : List Int) (hl : cs.length ≤ 300) : Spec Try.prog 77 [V.c (.sl 0 cs.length), V.c (.fn 82 [])] [⟨0, .ro 0, cs.map C.i⟩] 1 (Is (V.c (.bool (cs.any costBad)))) :=
  contains_any (Lc := []) hl (by kernel_rfl) (fun i hi => bad_spec _) (by simp) (by omega) (by simp) (fun _ _ => trivial) rfl ⟨roE_id (by omega) (wf_ints _ _) rfl (.inl rfl) rfl, trivial⟩
/-- A chart is valid. -/
structure CO (W H : Int) (cs : List Int) : Prop where
  w : 1 ≤ W ∧ W ≤ 10
  h : 1 ≤ H ∧ H ≤ 10
  len : (cs.length : Int) = W * H
  cost : ∀ x ∈ cs, -1 ≤ x ∧ x ≤ 100
def okC (W H : Int) (cs : List Int) : Bool := decide (1 ≤ W ∧ W ≤ 10) && decide (1 ≤ H ∧ H ≤ 10) && decide ((cs.length : Int) = W * H) && !(cs.any costBad)
theorem okC_iff {W H : Int} {cs : List Int} : okC W H cs = true ↔ CO W H cs := by
  simp only [okC, Bool.and_eq_true, decide_eq_true_eq, Bool.not_eq_true', List.any_eq_false]
  constructor
  · rintro ⟨⟨⟨h1, h2⟩, h3⟩, h4⟩
    exact ⟨h1, h2, h3, fun x hx => by have := h4 x hx; simpa [costBad] using this⟩
  · rintro ⟨h1, h2, h3, h4⟩
    exact ⟨⟨⟨h1, h2⟩, h3⟩, fun x hx => by have := h4 x hx; simpa [costBad] using this⟩
theorem valid_spec (W H : Int) (cs : List Int) (hl : cs.length ≤ 300) : Spec Try.prog 41 [V.agg [C.i W, C.i H, C.sl 0 cs.length]] [⟨0, .ro 0, cs.map C.i⟩] 1 (Is (V.c (.bool (okC W H cs)))) := by
  refine Spec.of tok Try.func41 rfl rfl rfl fun n0 cx => vc_ok tok ?_
  by_cases h1 : 1 ≤ W ∧ W ≤ 10
  · by_cases h2 : 1 ≤ H ∧ H ≤ 10
    · have hm : W * H ≤ 10 * 10 := Int.mul_le_mul (by omega) (by omega) (by omega) (by omega)
      have hm0 : 0 ≤ W * H := Int.mul_nonneg (by omega) (by omega)
      by_cases h3 : (cs.length : Int) = W * H
      · repeat ((conv => whnf); first | (refine And.intro (by first | omega | exact Nat.le_of_ble_eq_true rfl | (dsimp only [inK]; omega)) ?_) | refine Exists.intro _ (And.intro rfl ?_) | refine br_t (by omega) ?_ | refine fun (K' : K3) hK' => ?_ | (refine hK' _ _ _ ?_; clear hK' K') | refine CallK.val (R := []) (between_spec _ _ _) (by kernel_rfl) rfl (by simp [V.wf, A.wf, C.wf, V.i]) trivial rfl rfl trivial ?_ | refine CallK.val (R := []) (cbad_spec cs hl) (by kernel_rfl) rfl (by simp [V.wf, A.wf, C.wf]) ⟨roE_id (by omega) (wf_ints _ _) rfl (.inl rfl) rfl, trivial⟩ rfl rfl trivial ?_ | refine CallK.m ?_)
        intro ρ; show Value.bool _ = Value.bool _; simp only [okC, h1, h2, h3]; simp
      · repeat ((conv => whnf); first | (refine And.intro (by first | omega | exact Nat.le_of_ble_eq_true rfl | (dsimp only [inK]; omega)) ?_) | refine Exists.intro _ (And.intro rfl ?_) | refine br_t (by omega) ?_ | refine br_f (by omega) ?_ | refine fun (K' : K3) hK' => ?_ | (refine hK' _ _ _ ?_; clear hK' K') | refine CallK.val (R := []) (between_spec _ _ _) (by kernel_rfl) rfl (by simp [V.wf, A.wf, C.wf, V.i]) trivial rfl rfl trivial ?_ | refine CallK.m ?_)
        intro ρ; show Value.bool _ = Value.bool _; simp only [okC, h1, h2, h3]; simp
    · repeat ((conv => whnf); first | (refine And.intro (by first | omega | exact Nat.le_of_ble_eq_true rfl) ?_) | refine Exists.intro _ (And.intro rfl ?_) | refine br_t (by omega) ?_ | refine br_f (by omega) ?_ | refine fun (K' : K3) hK' => ?_ | (refine hK' _ _ _ ?_; clear hK' K') | refine CallK.val (R := []) (between_spec _ _ _) (by kernel_rfl) rfl (by simp [V.wf, A.wf, C.wf, V.i]) trivial rfl rfl trivial ?_ | refine CallK.m ?_)
      intro ρ; show Value.bool _ = Value.bool _; simp only [okC, h1, h2]; simp
  · repeat ((conv => whnf); first | (refine And.intro (by first | omega | exact Nat.le_of_ble_eq_true rfl) ?_) | refine Exists.intro _ (And.intro rfl ?_) | refine br_f (by omega) ?_ | refine fun (K' : K3) hK' => ?_ | (refine hK' _ _ _ ?_; clear hK' K') | refine CallK.val (R := []) (between_spec _ _ _) (by kernel_rfl) rfl (by simp [V.wf, A.wf, C.wf, V.i]) trivial rfl rfl trivial ?_ | refine CallK.m ?_)
    intro ρ; show Value.bool _ = Value.bool _; simp only [okC, h1]; simp
end Go.Proofs.Ytbhpnhcdjmcaoaa

/- Boom: neighbours, in order; a list each of whose cells is a neighbour of the one in front of it. -/
namespace Go.Proofs.Ytbhpnhcdjmcaoaa
open Go.RowKit
set_option linter.unusedVariables false
set_option linter.unusedSimpArgs false
theorem near_spec (cs : List C) (i b : C) (nx : Nat) : SpecM Try.prog 76 [V.agg cs, V.c i, V.c b] [] nx (fun v L' nx' => v = V.c (.fn 104 [(nx, 0), (nx + 1, 0), (nx + 1 + 1, 0)]) ∧ L' = [⟨nx + 1 + 1, .own 4, [b]⟩, ⟨nx + 1, .own 3, [i]⟩, ⟨nx, .own 65, cs⟩] ∧ nx' = nx + 1 + 1 + 1) := by
  refine SpecM.of tok Try.func76 rfl rfl rfl fun n0 cx => vc_ok tok ?_
  repeat ((conv => whnf); first | (refine And.intro (by first | omega | exact Nat.le_of_ble_eq_true rfl | (dsimp only [inK]; omega) | (simp only [mulS_eq]; omega) | (simp only [mulS_eq, setL_length]; omega) | (simp only [setL_length]; omega) | (simp only [setL_length, List.length_map]; omega) | (exact ⟨by omega, by omega, by first | exact Nat.le_of_ble_eq_true rfl | (dsimp only; omega) | (simp only [setL_length]; omega) | (simp only [setL_length, List.length_map]; omega)⟩) | (exact ⟨by omega, by first | rfl | omega, by omega, Nat.le_of_ble_eq_true rfl, Nat.le_of_ble_eq_true rfl⟩) | (exact ⟨rfl, rfl, rfl, Nat.le_of_ble_eq_true rfl, by first | rfl | omega | exact Nat.le_of_ble_eq_true rfl | (dsimp only; omega) | (simp; done) | (simp; omega), by first | rfl | omega | exact Nat.le_of_ble_eq_true rfl | (dsimp only; omega) | (simp; done) | (simp; omega), by omega, Nat.le_of_ble_eq_true rfl⟩) | exact Eq.refl true) ?_) | refine Exists.intro _ (And.intro rfl ?_) | refine And.intro (And.intro rfl (chk_rowI _ _ _ _)) ?_ | refine br_t (by omega) ?_ | refine br_f (by omega) ?_ | refine bs_t (by omega) ?_ | refine bs_f (by omega) ?_ | refine fun (K' : K3) hK' => ?_ | (refine hK' _ _ _ ?_; clear hK' K') | refine draw_auto tok mixed (by kernel_rfl) ?_ | refine bs_bt (Eq.refl true) ?_ | refine bs_bf (Eq.refl false) ?_ | refine br_bt (Eq.refl true) ?_ | refine br_bf (Eq.refl false) ?_ | refine CallK.m ?_ | refine Two.l ?_ | refine And.intro (And.intro rfl rfl) ?_)
  exact ⟨rfl, rfl, rfl⟩
/-- A candidate for a neighbour: row a - 1 of three, column b - 1. -/
def cand (W H : Int) (e : Bool) (x y : Int) (a b : Nat) : Option Int :=
  if (b = 1 ∧ a = 1) ∨ (e = false ∧ b ≠ 1 ∧ a ≠ 1) then none else
  if idxI W H (x + ((b : Int) - 1)) (y + ((a : Int) - 1)) ≥ 0 then some (idxI W H (x + ((b : Int) - 1)) (y + ((a : Int) - 1))) else none
def candJ (W H : Int) (e : Bool) (i : Int) (j : Nat) : Option Int := cand W H e (i % W) (i / W) (j / 3) (j % 3)
def nearL (W H : Int) (e : Bool) (i : Int) : List Int := (List.range 9).filterMap (candJ W H e i)
/-- What comes about, candidate by candidate. -/
def foldC {α : Type} (f : α → Int → α) (W H : Int) (e : Bool) (i : Int) (a0 : α) : Nat → α
  | 0 => a0
  | j + 1 => match candJ W H e i j with
    | none => foldC f W H e i a0 j
    | some k => f (foldC f W H e i a0 j) k
theorem foldC_eq {α : Type} (f : α → Int → α) (W H : Int) (e : Bool) (i : Int) (a0 : α) : ∀ j, foldC f W H e i a0 j = ((List.range j).filterMap (candJ W H e i)).foldl f a0
  | 0 => rfl
  | j + 1 => by
    rw [List.range_succ, List.filterMap_append, List.foldl_append, ← foldC_eq f W H e i a0 j]
    simp only [foldC, List.filterMap_cons, List.filterMap_nil]
    cases candJ W H e i j <;> rfl
theorem foldC_near {α : Type} (f : α → Int → α) (W H : Int) (e : Bool) (i : Int) (a0 : α) : foldC f W H e i a0 9 = (nearL W H e i).foldl f a0 := foldC_eq _ _ _ _ _ _ _
theorem foldC_none {α : Type} {f : α → Int → α} {W H : Int} {e : Bool} {i : Int} {a0 : α} {a b : Nat} (hb : b < 3) (h : cand W H e (i % W) (i / W) a b = none) : foldC f W H e i a0 (3 * a + (b + 1)) = foldC f W H e i a0 (3 * a + b) := by
  have h1 : (3 * a + b) / 3 = a := by omega
  have h2 : (3 * a + b) % 3 = b := by omega
  show foldC f W H e i a0 ((3 * a + b) + 1) = _
  simp only [foldC, candJ, h1, h2, h]
theorem foldC_some {α : Type} {f : α → Int → α} {W H : Int} {e : Bool} {i : Int} {a0 : α} {a b : Nat} {k : Int} (hb : b < 3) (h : cand W H e (i % W) (i / W) a b = some k) : foldC f W H e i a0 (3 * a + (b + 1)) = f (foldC f W H e i a0 (3 * a + b)) k := by
  have h1 : (3 * a + b) / 3 = a := by omega
  have h2 : (3 * a + b) % 3 = b := by omega
  show foldC f W H e i a0 ((3 * a + b) + 1) = _
  simp only [foldC, candJ, h1, h2, h]
theorem cand_skip {W H : Int} {e : Bool} {x y : Int} {a b : Nat} (h : (b = 1 ∧ a = 1) ∨ (e = false ∧ b ≠ 1 ∧ a ≠ 1)) : cand W H e x y a b = none := if_pos h
theorem cand_out {W H : Int} {e : Bool} {x y : Int} {a b : Nat} (h2 : ¬ idxI W H (x + ((b : Int) - 1)) (y + ((a : Int) - 1)) ≥ 0) : cand W H e x y a b = none := by
  unfold cand; rw [if_neg h2]; split <;> rfl
theorem cand_in {W H : Int} {e : Bool} {x y : Int} {a b : Nat} (h : ¬ ((b = 1 ∧ a = 1) ∨ (e = false ∧ b ≠ 1 ∧ a ≠ 1))) (h2 : idxI W H (x + ((b : Int) - 1)) (y + ((a : Int) - 1)) ≥ 0) : cand W H e x y a b = some (idxI W H (x + ((b : Int) - 1)) (y + ((a : Int) - 1))) := by
  unfold cand; rw [if_neg h, if_pos h2]
theorem idxI_lt {W H x y : Int} (hW : 0 < W) (h : idxI W H x y ≥ 0) : idxI W H x y < W * H ∧ 0 ≤ x ∧ x < W ∧ 0 ≤ y ∧ y < H ∧ idxI W H x y = y * W + x := by
  unfold idxI at h ⊢
  split at h
  · rename_i hh
    rw [if_pos hh]
    refine ⟨?_, by omega, by omega, by omega, by omega, rfl⟩
    have : (y + 1) * W ≤ H * W := Int.mul_le_mul_of_nonneg_right (by omega) (by omega)
    rw [Int.add_mul, Int.mul_comm H W] at this
    omega
  · omega
theorem cand_lt {W H : Int} {e : Bool} {x y : Int} {a b : Nat} {k : Int} (hW : 0 < W) (h : cand W H e x y a b = some k) : 0 ≤ k ∧ k < W * H := by
  unfold cand at h
  split at h
  · cases h
  · split at h
    · rename_i h2; cases h; exact ⟨h2, (idxI_lt hW h2).1⟩
    · cases h
end Go.Proofs.Ytbhpnhcdjmcaoaa

/- Boom: lists of cells in memory; new charts; cells of indexes. -/
namespace Go.Proofs.Ytbhpnhcdjmcaoaa
open Go.RowKit
set_option linter.unusedVariables false
set_option linter.unusedSimpArgs false
theorem Tri.opq {P : Program} {n0 : Nat} {cx : Cx} {N na : Nat} {code : Code} {K : Kt} {s : S} {L : List E} {nx : Nat} (h : ∀ K' : Kt, (∀ e s L nx, K e s L nx → K' e s L nx) → Tri P n0 cx N na code K' s L nx) : Tri P n0 cx N na code K s L nx :=
  h K fun _ _ _ _ hk => hk
abbrev Cell := Int × Int
def cellC (l : List Cell) : List C := l.flatMap fun j => [C.i j.1, C.i j.2]
theorem cellC_cons (x : Cell) (l : List Cell) : cellC (x :: l) = C.i x.1 :: C.i x.2 :: cellC l := rfl
theorem cellC_len (l : List Cell) : (cellC l).length = 2 * l.length := by
  induction l with
  | nil => rfl
  | cons x l ih => simp only [cellC_cons, List.length_cons]; omega
theorem cellC_app (a b : List Cell) : cellC (a ++ b) = cellC a ++ cellC b := List.flatMap_append
theorem cellC_0 : ∀ {l : List Cell} {k : Nat}, k < l.length → (cellC l)[k * 2]? = some (C.i (l.getD k (0, 0)).1)
  | x :: l, 0, _ => rfl
  | x :: l, k + 1, h => by
    have := cellC_0 (l := l) (k := k) (by simpa using h)
    rw [cellC_cons, show (k + 1) * 2 = k * 2 + 1 + 1 by omega]
    simpa using this
theorem cellC_1 : ∀ {l : List Cell} {k : Nat}, k < l.length → (cellC l)[k * 2 + 1]? = some (C.i (l.getD k (0, 0)).2)
  | x :: l, 0, _ => rfl
  | x :: l, k + 1, h => by
    have := cellC_1 (l := l) (k := k) (by simpa using h)
    rw [cellC_cons, show (k + 1) * 2 + 1 = k * 2 + 1 + 1 + 1 by omega]
    simpa using this
theorem cellC_mem {l : List Cell} {c : C} (h : c ∈ cellC l) : ∃ n, c = C.i n := by
  simp only [cellC, List.mem_flatMap] at h
  obtain ⟨j, _, h⟩ := h
  simp only [List.mem_cons, List.not_mem_nil, or_false] at h
  rcases h with rfl | rfl <;> exact ⟨_, rfl⟩
theorem wf_cells (n : Nat) (l : List Cell) : ∀ c ∈ cellC l, c.wf n := fun c hc => by
  obtain ⟨n, rfl⟩ := cellC_mem hc; trivial
theorem chk_cells (p : Nat → Bool) (l : List Cell) : (cellC l).all (C.chk p) = true := List.all_eq_true.2 fun c hc => by
  obtain ⟨n, rfl⟩ := cellC_mem hc; rfl
theorem ren_cells (R : Rn) (l : List Cell) : seqO ((cellC l).map (C.ren R)) = some (cellC l) := seqO_fix fun c hc => by
  obtain ⟨n, rfl⟩ := cellC_mem hc; rfl
theorem cellT {l : List Cell} {k : Nat} {z : Int} (hz : z = k) (h : k < l.length) : takeC (cellC l) (mulS z.toNat 2) 2 = some [C.i (l.getD k (0, 0)).1, C.i (l.getD k (0, 0)).2] := by
  subst hz
  rw [mulS_eq]
  have h0 := cellC_0 h
  have h1 := cellC_1 h
  simp only [takeC, Int.toNat_natCast]
  rw [h0, h1]
theorem cellL0 {l : List Cell} {k : Nat} {z : Int} (hz : z = k) (h : k < l.length) : (cellC l)[addO (mulS z.toNat 2) 0]? = some (C.i (l.getD k (0, 0)).1) := by
  subst hz; rw [addO_eq, mulS_eq]; exact cellC_0 h
theorem cellL1 {l : List Cell} {k : Nat} {z : Int} (hz : z = k) (h : k < l.length) : (cellC l)[addO (mulS z.toNat 2) 1]? = some (C.i (l.getD k (0, 0)).2) := by
  subst hz; rw [addO_eq, mulS_eq]; exact cellC_1 h
/-- Cells that a callee reads. -/
theorem roE_ints {R : Rn} {nx lab l z : Nat} {k : Kd} {L : List E} {is : List Int} (hr : renL R lab = some l) (h1 : lab < nx) (h3 : find L l = some ⟨l, k, is.map C.i⟩) (hz : z = 0 ∨ k.z = some z) : roE R nx L ⟨lab, .ro z, is.map C.i⟩ := by
  refine ⟨h1, wf_ints _ _, ?_⟩
  show match renL R lab with | some l => _ | none => _
  rw [hr]
  exact ⟨k, _, h3, hz, ren_ints _ _⟩
theorem roE_cells {R : Rn} {nx lab l z : Nat} {k : Kd} {L : List E} {is : List Cell} (hr : renL R lab = some l) (h1 : lab < nx) (h3 : find L l = some ⟨l, k, cellC is⟩) (hz : z = 0 ∨ k.z = some z) : roE R nx L ⟨lab, .ro z, cellC is⟩ := by
  refine ⟨h1, wf_cells _ _, ?_⟩
  show match renL R lab with | some l => _ | none => _
  rw [hr]
  exact ⟨k, _, h3, hz, ren_cells _ _⟩
theorem roE_none {R : Rn} {nx lab z : Nat} {L : List E} (hr : renL R lab = none) (h1 : lab < nx) : roE R nx L ⟨lab, .ro z, []⟩ := by
  refine ⟨h1, fun c hc => (by cases hc), ?_⟩
  show match renL R lab with | some l => _ | none => _
  rw [hr]
theorem roE_map {R : Rn} {nx lab l : Nat} {own : Bool} {ks : KS} {f : MF} {L : List E} (hr : renL R lab = some l) (h1 : lab < nx) (h3 : find L l = some ⟨l, .mp own ks f, []⟩) : roE R nx L ⟨lab, .mp false ks f, []⟩ := by
  refine ⟨h1, rfl, ?_⟩
  show match renL R lab with | some l => _ | none => _
  rw [hr]
  exact ⟨own, h3⟩
/-- The cell of an index. -/
def cellI (W : Int) (i : Int) : Cell := (i % W, i / W)
def cellsL (W : Int) (l : List Int) : List Cell := l.map (cellI W)
/-- A row of cells that has come about, or none. -/
def cellsX (l : List Cell) (v : V) (L : List E) : Prop := (l = [] ∧ v = V.c .nil) ∨ ∃ lab, v = V.c (.sl lab l.length) ∧ find L lab = some ⟨lab, .vec 57 2, cellC l⟩
theorem cells_spec (W H : Int) (n : Nat) (l : List Int) (hW : 0 < W) (hl : l.length ≤ 300) (hin : ∀ k, k < l.length → 0 ≤ l.getD k 0 ∧ l.getD k 0 ≤ 1000) :
    Spec Try.prog 59 [chV W H n, V.c (.sl 2 l.length)] [⟨2, .ro 0, l.map C.i⟩] 3 (fun v L' _ => cellsX (cellsL W l) v L') := by
  have hlm : (l.map C.i).length = l.length := by simp
  refine Spec.of tok Try.func59 rfl rfl rfl fun n0 cx => vc_ok tok ?_
  by_cases h0 : l.length = 0
  · repeat ((conv => whnf); first | refine fun (K' : K3) hK' => ?_ | (refine hK' _ _ _ ?_; clear hK' K'))
    refine Tri.loop (γ := Nat) (fun k => k = 0) (fun k => [(5, V.c .nil), (8, V.c (.sl 2 l.length)), (9, V.i l.length), (10, V.i 0)]) (fun k => []) 4 (fun k => 0) 0 (R0 := []) ?_ ?_ ?_
    · rfl
    · skip
      refine ⟨?_, ?_, rfl, rfl, by exact Nat.le_of_ble_eq_true rfl⟩
      · repeat (first | exact trivial | (refine And.intro (covS_syn (by rfl) rfl (by first | exact trivial | exact Nat.le_of_ble_eq_true rfl)) ?_))
      · repeat (exact trivial)
    · rintro k rfl
      refine vc_ok tok ?_
      repeat ((conv => whnf); first | refine br_f (by omega) ?_ | refine fun (K' : K3) hK' => ?_ | (refine hK' _ _ _ ?_; clear hK' K'))
      exact .inl ⟨by rw [List.length_eq_zero_iff.1 h0]; rfl, rfl⟩
  · repeat ((conv => whnf); first | refine fun (K' : K3) hK' => ?_ | (refine hK' _ _ _ ?_; clear hK' K'))
    refine Tri.loop (γ := Nat) (fun k => k ≤ l.length) (fun k => [(2, V.c (.ptr 3 0)), (5, V.c (.sl 4 k)), (8, V.c (.sl 2 l.length)), (9, V.i l.length), (10, V.i (k : Nat))]) (fun k => [⟨4, .vec 57 2, cellC (cellsL W (l.take k))⟩, ⟨3, .own 65, [C.i W, C.i H, .sl 0 n, .mp 1]⟩, ⟨2, .ro 0, l.map C.i⟩]) 5 (fun k => l.length - k) 0 (R0 := [(4, none)]) ?_ ?_ ?_
    · omega
    · skip
      refine ⟨?_, ?_, rfl, rfl, by exact Nat.le_of_ble_eq_true rfl⟩
      · repeat (first | exact trivial | (refine And.intro (covS_syn (by rfl) rfl (by first | exact trivial | exact Nat.le_of_ble_eq_true rfl)) ?_))
      · repeat (first | exact trivial | refine And.intro (covE_nil rfl (Nat.le_of_ble_eq_true rfl) rfl rfl) ?_ | (refine And.intro (covE_some rfl (Nat.le_of_ble_eq_true rfl) (by first | exact wf_ints _ _ | simp [C.wf]) rfl (by first | exact ren_ints _ _ | rfl)) ?_))
    · intro k hk
      refine vc_ok tok ?_
      by_cases hlt : k < l.length
      · have hk1 := hin k hlt
        have hcl := cellC_len (cellsL W (l.take k))
        have hcl2 : (cellsL W (l.take k)).length = k := by simp [cellsL]; omega
        repeat ((conv => whnf); first | (refine And.intro (by first | omega | (dsimp only [inK]; omega) | (exact ⟨rfl, rfl, rfl, Nat.le_of_ble_eq_true rfl, by dsimp only; omega, by exact Nat.le_of_ble_eq_true rfl, by omega, Nat.le_of_ble_eq_true rfl⟩)) ?_) | with_reducible refine ld (intL hlt) ?_ | refine Exists.intro _ (And.intro rfl ?_) | refine br_t (by omega) ?_ | refine fun (K' : K3) hK' => ?_ | (refine hK' _ _ _ ?_; clear hK' K') | refine CallK.val (R := []) (cell_spec W H n (l.getD k 0) hW hk1.1 hk1.2) (by kernel_rfl) rfl (by simp [V.wf, A.wf, C.wf]) trivial rfl rfl (by simp [V.wf, A.wf, C.wf]) ?_ | refine CallK.m ?_)
        refine ⟨k + 1, [(4, some 6)], by omega, by omega, ?_⟩
        have hnew : cellC (cellsL W (l.take (k + 1))) = cellC (cellsL W (l.take k)) ++ [C.i (l.getD k 0 % W), C.i (l.getD k 0 / W)] := by
          rw [List.take_add_one, show l[k]?.toList = [l.getD k 0] by rw [List.getElem?_eq_getElem hlt, List.getD_eq_getElem?_getD, List.getElem?_eq_getElem hlt]; rfl]
          simp only [cellsL, List.map_append, cellC_app]; rfl
        refine ⟨?_, ?_, rfl, rfl, by exact Nat.le_of_ble_eq_true rfl⟩
        · repeat (first | exact trivial | (refine And.intro (covS_syn (by rfl) rfl (by first | exact trivial | exact Nat.le_of_ble_eq_true rfl)) ?_))
        · repeat (first | exact trivial | (refine And.intro (covE_some rfl (Nat.le_of_ble_eq_true rfl) (wf_cells _ _) rfl ((ren_cells _ _).trans (congrArg some (by rw [hnew]; rfl)))) ?_) | (refine And.intro (covE_some rfl (Nat.le_of_ble_eq_true rfl) (by first | exact wf_ints _ _ | simp [C.wf]) rfl (by first | exact ren_ints _ _ | rfl)) ?_))
      · have hkl : k = l.length := by omega
        subst hkl
        have hcl2 : (cellsL W (l.take l.length)).length = l.length := by simp [cellsL]
        repeat ((conv => whnf); first | refine br_f (by omega) ?_ | refine fun (K' : K3) hK' => ?_ | (refine hK' _ _ _ ?_; clear hK' K'))
        refine .inr ⟨4, ?_, ?_⟩
        · rw [List.take_length] at hcl2; rw [hcl2]; rfl
        · rw [List.take_length]; rfl
end Go.Proofs.Ytbhpnhcdjmcaoaa

/- Boom: a range over the neighbours of a cell: the law, once for all. -/
namespace Go.Proofs.Ytbhpnhcdjmcaoaa
open Go.RowKit
set_option linter.unusedVariables false
set_option linter.unusedSimpArgs false
theorem hasO.imp {L : List E} {lr : Nat} {o : Obj} {A B : Prop} (h : hasO L lr o A) (f : A → B) : hasO L lr o B := by
  unfold hasO at h ⊢
  split at h
  · exact ⟨h.1, f h.2⟩
  · exact h.elim
theorem updO.imp {L : List E} {lr : Nat} {o : Obj} {A B : List E → Prop} (h : updO lr o L A) (f : ∀ L, A L → B L) : updO lr o L B := by
  rw [updO_eq] at h ⊢; exact f _ h
theorem Rnd.mono {P : Program} {n0 : Nat} {cx : Cx} {N : Nat} {s : S} {ps : Array Tmp} {asg bd : Code} {lr : Nat} {o ob : Obj} {od : Code → Obj} {vs : List V} {L : List E} {nx : Nat} {K K' : V → List E → Nat → Prop}
    (h : Rnd P n0 cx N s ps asg bd lr o ob od vs L nx K) (hk : ∀ v L nx, K v L nx → K' v L nx) : Rnd P n0 cx N s ps asg bd lr o ob od vs L nx K' := by
  intro cxb hcx
  refine (h cxb hcx).mono ?_
  rintro e s1 L1 nx1 h1
  cases e with
  | normal =>
    refine hasO.imp h1 fun h2 => updO.imp h2 fun L2 h3 => h3.mono ?_
    rintro e s2 L3 nx2 h4
    cases e with
    | normal => exact hasO.imp h4 fun h5 => updO.imp h5 fun _ h6 => hk _ _ _ h6
    | ret => exact hasO.imp h4 fun h5 => updO.imp h5 fun _ h6 => hk _ _ _ h6
    | exit id => exact hasO.imp h4 fun h5 => updO.imp h5 fun _ h6 => hk _ _ _ h6
    | _ => exact h4.elim
  | _ => exact h1.elim
theorem injB_nil {R : Rn} : ∀ {L : List E}, injB R L = true → injB [] L = true
  | [], _ => rfl
  | e :: r, h => by
    simp only [injB, Bool.and_eq_true] at h ⊢
    refine ⟨List.all_eq_true.2 fun x hx => ?_, injB_nil h.2⟩
    have := List.all_eq_true.1 h.1 x hx
    simp only [Bool.and_eq_true, renL] at this ⊢
    refine ⟨this.1, ?_⟩
    have h1 := this.1
    cases hb : Nat.beq e.lab x.lab with
    | false => rfl
    | true =>
      have := Nat.eq_of_beq_eq_true hb
      rw [this] at h1; simp at h1
/-- Memory in which all labels are known, each once. -/
def MOK (nx : Nat) (L : List E) : Prop := (∀ e ∈ L, e.lab < nx ∧ ∀ c ∈ e.cs, c.wf nx) ∧ injB [] L = true
theorem Enter.mok {R : Rn} {na nx : Nat} {s s' : S} {L L' : List E} (h : Enter R na nx s L s' L') : MOK nx L' := ⟨fun e he => ⟨(covL_mem h.l e he).1, (covL_mem h.l e he).2.1⟩, injB_nil h.inj⟩
theorem MOK.cov {nx : Nat} {L : List E} (h : MOK nx L) : covL [] nx L L := cov_refl h.1 h.2
theorem updL_no {l o : Nat} {vs : List C} : ∀ {L : List E}, (∀ e ∈ L, e.lab ≠ l) → updL L l o vs = L
  | [], _ => rfl
  | e :: r, h => by
    have h1 : Nat.beq e.lab l = false := by
      cases hb : Nat.beq e.lab l with
      | false => rfl
      | true => exact absurd (Nat.eq_of_beq_eq_true hb) (h e (by simp))
    have h2 := updL_no (o := o) (vs := vs) (L := r) (fun x hx => h x (List.mem_cons_of_mem _ hx))
    simp only [updL, h1, cond_false, h2]
theorem updK_no {l o : Nat} {vs : List C} {L : List E} {K : List E → Prop} (h : ∀ e ∈ L, e.lab ≠ l) (hk : K L) : updK l o vs L K := by
  rw [updK_eq, updL_no h]; exact hk
/-- What lies there within the range: the cell, the record, what the neighbours were asked with, and the caller's. -/
abbrev ownN (W H : Int) (n : Nat) (i : Int) (e : Bool) (oo : Obj) (L : List E) : List E :=
  ⟨40, .own 57, [C.i (i % W), C.i (i / W)]⟩ :: ⟨16, .obj oo, []⟩ :: ⟨15, .own 4, [.bool e]⟩ :: ⟨14, .own 3, [C.i i]⟩ :: ⟨13, .own 65, [C.i W, C.i H, .sl 0 n, .mp 1]⟩ :: L
abbrev ownS (W H : Int) (n : Nat) (i : Int) (e : Bool) (oo : Obj) (L : List E) : List E :=
  ⟨16, .obj oo, []⟩ :: ⟨15, .own 4, [.bool e]⟩ :: ⟨14, .own 3, [C.i i]⟩ :: ⟨13, .own 65, [C.i W, C.i H, .sl 0 n, .mp 1]⟩ :: L
theorem MOK.own {W H : Int} {n : Nat} {i : Int} {e : Bool} {oo : Obj} {L : List E} (h : MOK 40 (ownS W H n i e oo L)) : MOK 41 (ownN W H n i e oo L) := by
  refine ⟨fun x hx => ?_, ?_⟩
  · rcases List.mem_cons.1 hx with rfl | hx
    · exact ⟨by show 40 < 41; omega, fun c hc => by simp only [List.mem_cons, List.not_mem_nil, or_false] at hc; rcases hc with rfl | rfl <;> trivial⟩
    · have := h.1 x hx; exact ⟨by omega, fun c hc => C.wf_mono (by omega) (this.2 c hc)⟩
  · show injB [] (_ :: ownS W H n i e oo L) = true
    rw [injB, Bool.and_eq_true]
    refine ⟨List.all_eq_true.2 fun x hx => ?_, h.2⟩
    have h1 : x.lab < 40 := (h.1 x hx).1
    have h2 : Nat.beq x.lab 40 = false := by
      cases hb : Nat.beq x.lab 40 with
      | false => rfl
      | true => have := Nat.eq_of_beq_eq_true hb; omega
    have h3 : Nat.beq 40 x.lab = false := by
      cases hb : Nat.beq 40 x.lab with
      | false => rfl
      | true => have := Nat.eq_of_beq_eq_true hb; omega
    simp only [renL, h2, h3]; rfl
/-- The neighbours among the first so many candidates. -/
def candP (W H : Int) (e : Bool) (i : Int) (m : Nat) : List Int := (List.range m).filterMap (candJ W H e i)
theorem candP_none {W H : Int} {e : Bool} {i : Int} {a b : Nat} (hb : b < 3) (h : cand W H e (i % W) (i / W) a b = none) : candP W H e i (3 * a + (b + 1)) = candP W H e i (3 * a + b) := by
  have h1 : (3 * a + b) / 3 = a := by omega
  have h2 : (3 * a + b) % 3 = b := by omega
  show (List.range ((3 * a + b) + 1)).filterMap _ = _
  rw [List.range_succ, List.filterMap_append]
  simp [candP, candJ, h1, h2, h]
theorem candP_some {W H : Int} {e : Bool} {i k : Int} {a b : Nat} (hb : b < 3) (h : cand W H e (i % W) (i / W) a b = some k) : candP W H e i (3 * a + (b + 1)) = candP W H e i (3 * a + b) ++ [k] := by
  have h1 : (3 * a + b) / 3 = a := by omega
  have h2 : (3 * a + b) % 3 = b := by omega
  show (List.range ((3 * a + b) + 1)).filterMap _ = _
  rw [List.range_succ, List.filterMap_append]
  simp [candP, candJ, h1, h2, h]
theorem candP_split {W H : Int} {e : Bool} {i k : Int} {a b : Nat} (ha : a < 3) (hb : b < 3) (h : cand W H e (i % W) (i / W) a b = some k) : ∃ post, nearL W H e i = candP W H e i (3 * a + b) ++ k :: post := by
  have h0 := candP_some hb h
  refine ⟨((List.range (9 - (3 * a + (b + 1)))).map ((3 * a + (b + 1)) + ·)).filterMap (candJ W H e i), ?_⟩
  have : nearL W H e i = candP W H e i (3 * a + (b + 1)) ++ ((List.range (9 - (3 * a + (b + 1)))).map ((3 * a + (b + 1)) + ·)).filterMap (candJ W H e i) := by
    unfold candP nearL
    rw [← List.filterMap_append, ← List.range_add]
    congr 2; omega
  rw [this, h0]; simp
set_option maxRecDepth 10000 in
set_option maxHeartbeats 4000000 in
theorem Tri.near {n0 : Nat} {cx : Cx} {N na : Nat} {W H : Int} {n : Nat} {i : Int} {e : Bool} {g : Operand} {ps : Array Tmp} {asg bd : Code} {K : Kt} {s : S} {Ls : List E} {R0 : Rn} (I : List Int → Prop) (L' : List Int → List E) (hI0 : I [])
    (hW : 0 < W ∧ W ≤ 10) (hH : 0 < H ∧ H ≤ 10) (hi : 0 ≤ i ∧ i ≤ 1000)
    (hg : ev s g = some (V.c (.fn 104 [(13, 0), (14, 0), (15, 0)]))) (hps : (ps.toList.all fun p => Nat.blt p N) = true) (hp1 : ps.toList.length = 1)
    (h0 : ∀ oo : Obj, Enter R0 17 40 [] (⟨16, .obj oo, []⟩ :: Ls) [] (ownS W H n i e oo (L' [])))
    (body : ∀ (oo ob : Obj) (od : Code → Obj) (pre post : List Int) (k : Int), nearL W H e i = pre ++ k :: post → 0 ≤ k → k < W * H → I pre →
      Rnd Try.prog n0 cx N s ps asg bd 16 oo ob od [V.i k] (ownN W H n i e oo (L' pre)) 41 (fun v L2 nx2 => (v = V.c .tt ∧ I (pre ++ [k]) ∧ ∃ R, renL R 40 = some 40 ∧ Enter R 17 41 [] L2 [] (ownN W H n i e oo (L' (pre ++ [k])))) ∨ (v = V.c .ff ∧ EndK 16 oo od K s L2 nx2)))
    (hend : ∀ (oo : Obj) (od : Code → Obj), I (nearL W H e i) → EndK 16 oo od K s (ownN W H n i e oo (L' (nearL W H e i))) 41) :
    Tri Try.prog n0 cx N na (.rangeFunc g ps asg bd) K s Ls 16 := by
  refine Tri.rangeFunc tok hg (by kernel_rfl) (by exact rfl) (by exact rfl) (by exact rfl) (by exact rfl) (by exact rfl) hps ?_
  intro y cxi oo ob od hy hY
  have hfix : ∀ {R : Rn} {l : Nat}, fixB R 17 = true → l < 17 → renL R l = some l := fun h hl => fixB_spec h hl
  have hptr : ∀ {R : Rn} {l o : Nat}, renL R l = some l → V.ren R (V.c (.ptr l o)) = some (V.c (.ptr l o)) := fun {R l o} h => by simp only [V.ren, A.ren, C.ren, V.c, h]
  have hE0 := h0 oo
  refine Tri.enter (R := R0) (nx' := 40) (s' := enterS (V.c (.v y) :: [(13, 0), (14, 0), (15, 0)].map ptrV) 0) (L' := ownS W H n i e oo (L' [])) ?_ ⟨?_, hE0.l, hE0.inj, hE0.fix, hE0.na⟩
  rotate_left
  · refine And.intro (covS_syn rfl rfl hy) (And.intro (covS_syn (hptr (hfix hE0.fix (by omega))).symm rfl (by show 13 < 40; omega)) (And.intro (covS_syn (hptr (hfix hE0.fix (by omega))).symm rfl (by show 14 < 40; omega)) (And.intro (covS_syn (hptr (hfix hE0.fix (by omega))).symm rfl (by show 15 < 40; omega)) trivial)))
  have hm0 : MOK 41 (ownN W H n i e oo (L' [])) := hE0.mok.own
  have hx0 : 0 ≤ i % W := Int.emod_nonneg _ (by omega)
  have hx1 : i % W < W := Int.emod_lt_of_pos _ (by omega)
  have hy0 : 0 ≤ i / W := Int.ediv_nonneg hi.1 (by omega)
  have hy1 : i / W ≤ 1000 := Int.le_trans (Int.ediv_le_self _ hi.1) (by omega)
  have hWH : W * H ≤ 100 := by have := Int.mul_le_mul hW.2 hH.2 (by omega) (by omega : (0:Int) ≤ 10); omega
  have hno : ∀ x ∈ L' [], x.lab ≠ 40 := fun x hx => by have := (hE0.mok.1 x (by simp [hx])).1; omega
  clear h0 hE0
  refine vc_ok tok ?_
  repeat ((conv => whnf); first | (refine And.intro (by first | omega | exact Nat.le_of_ble_eq_true rfl) ?_) | refine Exists.intro _ (And.intro rfl ?_) | refine fun (K' : K3) hK' => ?_ | (refine hK' _ _ _ ?_; clear hK' K') | refine CallK.val (R := []) (cell_spec W H n i (by omega) (by omega) (by omega)) (by kernel_rfl) rfl (by simp [V.wf, A.wf, C.wf]) trivial rfl rfl (by simp [V.wf, A.wf, C.wf]) ?_ | with_reducible refine updK_no hno ?_ | refine CallK.m ?_)
  refine Tri.loop (γ := Nat) (fun a => a ≤ 3 ∧ MOK 41 (ownN W H n i e oo (L' (candP W H e i (3 * a)))) ∧ I (candP W H e i (3 * a))) (fun a => [(0, V.c (.v y)), (1, V.c (.ptr 13 0)), (2, V.c (.ptr 14 0)), (3, V.c (.ptr 15 0)), (5, V.c (.ptr 40 0)), (6, V.i ((a : Int) - 1))])
    (fun a => ownN W H n i e oo (L' (candP W H e i (3 * a)))) 41 (fun a => 3 - a) 0 (R0 := []) ?_ ?_ ?_
  · exact ⟨by omega, hm0, hI0⟩
  · refine ⟨?_, hm0.cov, hm0.2, rfl, Nat.le_of_ble_eq_true rfl⟩
    repeat (first | exact trivial | refine And.intro (covS_syn (by first | rfl) rfl (by first | exact trivial | exact Nat.le_of_ble_eq_true rfl | exact hy)) ?_)
  · rintro a ⟨ha, hma, hIa⟩
    refine vc_ok tok ?_
    by_cases ha3 : a < 3
    · repeat ((conv => whnf); first | refine br_t (by omega) ?_ | refine fun (K' : K3) hK' => ?_ | (refine hK' _ _ _ ?_; clear hK' K'))
      refine Tri.loop (γ := Nat) (fun b => b ≤ 3 ∧ MOK 41 (ownN W H n i e oo (L' (candP W H e i (3 * a + b)))) ∧ I (candP W H e i (3 * a + b))) (fun b => [(0, V.c (.v y)), (1, V.c (.ptr 13 0)), (2, V.c (.ptr 14 0)), (3, V.c (.ptr 15 0)), (5, V.c (.ptr 40 0)), (6, V.i ((a : Int) - 1)), (7, V.i ((b : Int) - 1))])
        (fun b => ownN W H n i e oo (L' (candP W H e i (3 * a + b)))) 41 (fun b => 3 - b) 0 (R0 := []) ?_ ?_ ?_
      · exact ⟨by omega, hma, hIa⟩
      · refine ⟨?_, hma.cov, hma.2, rfl, Nat.le_of_ble_eq_true rfl⟩
        repeat (first | exact trivial | refine And.intro (covS_syn (by first | rfl) rfl (by first | exact trivial | exact Nat.le_of_ble_eq_true rfl | exact hy)) ?_)
      · rintro b ⟨hb, hmb, hIb⟩
        refine vc_ok tok ?_
        by_cases hb3 : b < 3
        · -- the round's end where nothing was handed out
          have stay : ∀ {s2 : S}, candP W H e i (3 * a + (b + 1)) = candP W H e i (3 * a + b) → covS [] 41 s2 [(0, V.c (.v y)), (1, V.c (.ptr 13 0)), (2, V.c (.ptr 14 0)), (3, V.c (.ptr 15 0)), (5, V.c (.ptr 40 0)), (6, V.i ((a : Int) - 1)), (7, V.i (((b + 1 : Nat) : Int) - 1))] →
              ∃ g' R, (g' ≤ 3 ∧ MOK 41 (ownN W H n i e oo (L' (candP W H e i (3 * a + g')))) ∧ I (candP W H e i (3 * a + g'))) ∧ 3 - g' < 3 - b ∧ Enter R 17 41 s2 (ownN W H n i e oo (L' (candP W H e i (3 * a + b)))) [(0, V.c (.v y)), (1, V.c (.ptr 13 0)), (2, V.c (.ptr 14 0)), (3, V.c (.ptr 15 0)), (5, V.c (.ptr 40 0)), (6, V.i ((a : Int) - 1)), (7, V.i ((g' : Int) - 1))] (ownN W H n i e oo (L' (candP W H e i (3 * a + g')))) := fun {s2} hst hS => by
            refine ⟨b + 1, [], ⟨by omega, by rw [hst]; exact hmb, by rw [hst]; exact hIb⟩, by omega, ⟨hS, by rw [hst]; exact hmb.cov, by rw [hst]; exact hmb.2, rfl, Nat.le_of_ble_eq_true rfl⟩⟩
          by_cases hs : (b = 1 ∧ a = 1) ∨ (e = false ∧ b ≠ 1 ∧ a ≠ 1)
          · have hst := candP_none hb3 (cand_skip (W := W) (H := H) (e := e) (x := i % W) (y := i / W) hs)
            rcases hs with ⟨hb1, ha1⟩ | ⟨he, hb1, ha1⟩
            · repeat ((conv => whnf); first | (refine And.intro (by first | omega | (dsimp only [inK]; omega)) ?_) | refine br_t (by omega) ?_ | refine bs_t (by omega) ?_ | refine fun (K' : K3) hK' => ?_ | (refine hK' _ _ _ ?_; clear hK' K'))
              refine stay hst ?_
              repeat (first | exact trivial | refine And.intro (covS_syn (by first | rfl | (refine congrArg some (congrArg V.i ?_); omega)) rfl (by first | exact trivial | exact Nat.le_of_ble_eq_true rfl | exact hy)) ?_)
            · repeat ((conv => whnf); first | (refine And.intro (by first | omega | (dsimp only [inK]; omega)) ?_) | refine Exists.intro _ (And.intro rfl ?_) | refine br_t (by omega) ?_ | refine br_f (by omega) ?_ | refine fun (K' : K3) hK' => ?_ | (refine hK' _ _ _ ?_; clear hK' K') | refine br_bt (by simp [he]) ?_)
              refine stay hst ?_
              repeat (first | exact trivial | refine And.intro (covS_syn (by first | rfl | (refine congrArg some (congrArg V.i ?_); omega)) rfl (by first | exact trivial | exact Nat.le_of_ble_eq_true rfl | exact hy)) ?_)
          · obtain ⟨kk, hkk⟩ : ∃ kk, kk = idxI W H (i % W + ((b : Int) - 1)) (i / W + ((a : Int) - 1)) := ⟨_, rfl⟩
            have hcase : (b = 1 ∧ a ≠ 1) ∨ (b ≠ 1 ∧ (e = true ∨ a = 1)) := by
              by_cases q : b = 1
              · exact .inl ⟨q, fun q2 => hs (.inl ⟨q, q2⟩)⟩
              · refine .inr ⟨q, ?_⟩
                cases e with
                | true => exact .inl rfl
                | false => exact .inr (Classical.byContradiction fun q3 => hs (.inr ⟨rfl, q, q3⟩))
            have hix := index_spec W H n (i % W + ((b : Int) - 1)) (i / W + ((a : Int) - 1)) (by omega) (by omega)
            rw [← hkk] at hix
            have hk100 : kk ≤ 1000 := by
              by_cases hq : kk ≥ 0
              · have := (idxI_lt hW.1 (hkk ▸ hq)).1; rw [hkk]; omega
              · omega
            by_cases hin2 : kk ≥ 0
            · have hc := cand_in (x := i % W) (y := i / W) hs (by rw [← hkk]; exact hin2)
              rw [← hkk] at hc
              obtain ⟨post, hsp⟩ := candP_split ha3 hb3 hc
              have hnew := candP_some hb3 hc
              have hkl : kk < W * H := by rw [hkk] at hin2 ⊢; exact (idxI_lt hW.1 hin2).1
              have hbody := body oo ob od _ post kk hsp hin2 hkl hIb
              rw [← hnew] at hbody
              have go : ∀ {s2 : S} {L2 : List E} {R : Rn}, I (candP W H e i (3 * a + (b + 1))) → renL R 40 = some 40 → Enter R 17 41 [] L2 [] (ownN W H n i e oo (L' (candP W H e i (3 * a + (b + 1))))) → (fixB R 17 = true → covS R 41 s2 [(0, V.c (.v y)), (1, V.c (.ptr 13 0)), (2, V.c (.ptr 14 0)), (3, V.c (.ptr 15 0)), (5, V.c (.ptr 40 0)), (6, V.i ((a : Int) - 1)), (7, V.i (((b + 1 : Nat) : Int) - 1))]) →
                  ∃ g' R, (g' ≤ 3 ∧ MOK 41 (ownN W H n i e oo (L' (candP W H e i (3 * a + g')))) ∧ I (candP W H e i (3 * a + g'))) ∧ 3 - g' < 3 - b ∧ Enter R 17 41 s2 L2 [(0, V.c (.v y)), (1, V.c (.ptr 13 0)), (2, V.c (.ptr 14 0)), (3, V.c (.ptr 15 0)), (5, V.c (.ptr 40 0)), (6, V.i ((a : Int) - 1)), (7, V.i ((g' : Int) - 1))] (ownN W H n i e oo (L' (candP W H e i (3 * a + g')))) := fun {s2 L2 R} hI h1 h2 h3 =>
                ⟨b + 1, R, ⟨by omega, h2.mok, hI⟩, by omega, ⟨h3 h2.fix, h2.l, h2.inj, h2.fix, h2.na⟩⟩
              clear body hend hma hmb stay hm0 hsp hnew hc hkk
              cases e <;> rcases hcase with ⟨q1, q2⟩ | ⟨q1, q2 | q2⟩ <;> (try cases q2)
              all_goals
                repeat ((conv => whnf); first | (refine And.intro (by first | omega | exact Nat.le_of_ble_eq_true rfl | (dsimp only [inK]; omega)) ?_) | refine Exists.intro _ (And.intro rfl ?_) | refine br_t (by omega) ?_ | refine br_f (by omega) ?_ | refine bs_f (by omega) ?_ | refine fun (K' : K3) hK' => ?_ | (refine hK' _ _ _ ?_; clear hK' K') | refine CallK.val (R := []) hix (by kernel_rfl) rfl (by simp [V.wf, A.wf, C.wf]) trivial rfl rfl trivial ?_ | refine br_bt (Eq.refl true) ?_ | refine br_bf (Eq.refl false) ?_ | refine CallK.m ?_)
                refine hY _ _ _ _ (Nat.le_of_ble_eq_true rfl) hp1.symm ⟨rfl, trivial⟩ (hbody.mono ?_)
                rintro v L2 nx2 (⟨rfl, hI, R, hR40, hE⟩ | ⟨rfl, hE⟩)
                · repeat ((conv => whnf); first | (refine And.intro (by first | omega | (dsimp only [inK]; omega)) ?_) | refine fun (K' : K3) hK' => ?_ | (refine hK' _ _ _ ?_; clear hK' K'))
                  refine go hI hR40 hE fun hf => ?_
                  repeat (first | exact trivial | refine And.intro (covS_syn (by first | rfl | exact (hptr (hfix hf (by omega))).symm | exact (hptr hR40).symm | (refine congrArg some (congrArg V.i ?_); omega)) rfl (by first | exact trivial | exact Nat.le_of_ble_eq_true rfl | exact hy)) ?_)
                · repeat ((conv => whnf); refine hK' _ _ _ ?_; clear hK' K')
                  exact hE
            · have hst := candP_none hb3 (cand_out (e := e) (x := i % W) (y := i / W) (by rw [← hkk]; exact hin2))
              clear body hend hma hm0
              cases e <;> rcases hcase with ⟨q1, q2⟩ | ⟨q1, q2 | q2⟩ <;> (try cases q2)
              all_goals
                repeat ((conv => whnf); first | (refine And.intro (by first | omega | exact Nat.le_of_ble_eq_true rfl | (dsimp only [inK]; omega)) ?_) | refine Exists.intro _ (And.intro rfl ?_) | refine br_t (by omega) ?_ | refine br_f (by omega) ?_ | refine bs_f (by omega) ?_ | refine fun (K' : K3) hK' => ?_ | (refine hK' _ _ _ ?_; clear hK' K') | refine CallK.val (R := []) hix (by kernel_rfl) rfl (by simp [V.wf, A.wf, C.wf]) trivial rfl rfl trivial ?_ | refine br_bt (Eq.refl true) ?_ | refine br_bf (Eq.refl false) ?_ | refine CallK.m ?_)
                refine stay hst ?_
                repeat (first | exact trivial | refine And.intro (covS_syn (by first | rfl | (refine congrArg some (congrArg V.i ?_); omega)) rfl (by first | exact trivial | exact Nat.le_of_ble_eq_true rfl | exact hy)) ?_)
        · have hb3' : b = 3 := by omega
          subst hb3'
          have h3 : 3 * a + 3 = 3 * (a + 1) := by omega
          repeat ((conv => whnf); first | (refine And.intro (by first | omega | (dsimp only [inK]; omega)) ?_) | refine br_f (by omega) ?_ | refine fun (K' : K3) hK' => ?_ | (refine hK' _ _ _ ?_; clear hK' K'))
          refine ⟨a + 1, [], ⟨by omega, h3 ▸ hmb, h3 ▸ hIb⟩, by omega, ?_, h3 ▸ hmb.cov, h3 ▸ hmb.2, rfl, Nat.le_of_ble_eq_true rfl⟩
          repeat (first | exact trivial | refine And.intro (covS_syn (by first | rfl | (refine congrArg some (congrArg V.i ?_); omega)) rfl (by first | exact trivial | exact Nat.le_of_ble_eq_true rfl | exact hy)) ?_)
    · have ha3' : a = 3 := by omega
      subst ha3'
      repeat ((conv => whnf); first | refine br_f (by omega) ?_ | refine fun (K' : K3) hK' => ?_ | (refine hK' _ _ _ ?_; clear hK' K'))
      exact hend oo od hIa
end Go.Proofs.Ytbhpnhcdjmcaoaa

/- Boom: results that are rows or maps. -/
namespace Go.Proofs.Ytbhpnhcdjmcaoaa
open Go.RowKit
set_option linter.unusedVariables false
set_option linter.unusedSimpArgs false
theorem renL_one (nx : Nat) (o : Option Nat) : renL [(nx, o)] nx = o := by simp [renL]
theorem inLab_one (nx : Nat) : inLab nx (nx + 1) nx = true := by simp [inLab, Nat.ble_eq, Nat.blt_eq]
/-- A callee that gives a map of its own. -/
theorem CallK.mapR {P : Program} {n0 nx nac : Nat} {f : FuncId} {vs vs' : List V} {Lc L : List E} {R : Rn} {K : V → List E → Nat → Prop} {ks : KS} {m : MF} (spec : Spec P f vs Lc nac (fun v L' _ => ∃ l, v = V.c (.mp l) ∧ find L' l = some ⟨l, .mp true ks m, []⟩)) (hok : callB P f = true)
    (hv : renVs R vs = some vs') (hvw : ∀ v ∈ vs, v.wf nac) (hL : roL R nac L Lc) (hLc : injB [] Lc = true)
    (hK : K (V.c (.mp nx)) [⟨nx, .mp true ks m, []⟩] (nx + 1)) : CallK P n0 f vs' L nx K := by
  refine CallK.mk' hok spec hv hvw hL hLc ?_
  rintro v L' nx' hw ⟨lab, rfl, hf⟩
  refine ⟨V.c (.mp nx), [⟨nx, .mp true ks m, []⟩], nx + 1, [(nx, some lab)], ⟨Nat.le_succ _, ?_, ?_, ⟨covE_mp (renL_one _ _) (Nat.lt_succ_self nx) hf rfl, trivial⟩, rfl, ?_⟩, hK⟩
  · simp only [V.ren, A.ren, C.ren, renL_one]
  · simp only [V.chk, A.chk, C.chk]; exact inLab_one nx
  · simp [inLab_one, Kd.isRo]
/-- A label that a callee made, or one of those that came in with names known. -/
def inOr (ins : List (Nat × Nat)) (nx nx2 l : Nat) : Bool := inLab nx nx2 l || ins.any fun q => Nat.beq q.1 l
/-- A callee whose result may name what came in. -/
theorem CallK.mkIn {P : Program} {n0 : Nat} {f : FuncId} {vs vs' : List V} {Lc L : List E} {nac nx : Nat} {R : Rn} {K Q : V → List E → Nat → Prop} (hok : callB P f = true) (spec : Spec P f vs Lc nac Q) (hv : renVs R vs = some vs') (hvw : ∀ v ∈ vs, v.wf nac) (hL : roL R nac L Lc) (hLc : injB [] Lc = true)
    (ins : List (Nat × Nat)) (hins : ∀ q ∈ ins, q.2 < nac ∧ renL R q.2 = some q.1 ∧ q.1 < nx)
    (hQ : ∀ v L' nx', v.wf nx' → Q v L' nx' → ∃ v' new nx2 Rr, (nx ≤ nx2 ∧ v'.ren Rr = some v ∧ v'.chk (inOr ins nx nx2) = true ∧ covL Rr nx2 L' new ∧ injB Rr new = true ∧ (new.all fun e => inLab nx nx2 e.lab && !e.kd.isRo && e.cs.all (C.chk (inOr ins nx nx2))) = true ∧ ∀ q ∈ ins, renL Rr q.1 = some q.2) ∧ K v' new nx2) : CallK P n0 f vs' L nx K := by
  refine ⟨hok, fun ρ w hp hvw' => ?_⟩
  refine (callee_run spec hv hvw hL hLc hp).mono ?_
  rintro e w' ⟨v, ρ', L', nx', rfl, h1, h2, h3, h4, h5, h6⟩
  obtain ⟨v', new, nx2, Rr, ⟨hle, hv', hvc, hcov, hinj, hlc, hRr⟩, hK⟩ := hQ v L' nx' h2 h6
  have hin : ∀ {l : Nat}, inLab nx nx2 l = true → nx ≤ l ∧ l < nx2 := fun h => by
    simp only [inLab, Bool.and_eq_true] at h
    exact ⟨Nat.le_of_ble_eq_true h.1, Nat.le_of_ble_eq_true h.2⟩
  let ρ2 : Env := fun l => bif inLab nx nx2 l then renE Rr ρ' l else ρ l
  have hρ2 : ∀ l, inLab nx nx2 l = true → ρ2 l = renE Rr ρ' l := fun l hl => by simp only [ρ2, hl, cond_true]
  have hagr : Agr nx nx2 ρ ρ2 := fun l hl => by
    have : inLab nx nx2 l = false := by
      cases hb : inLab nx nx2 l with
      | false => rfl
      | true => exact absurd (hin hb) hl
    simp only [ρ2, this, cond_false]
  have hρ3 : ∀ l, inOr ins nx nx2 l = true → ρ2 l = renE Rr ρ' l := fun l hl => by
    simp only [inOr, Bool.or_eq_true] at hl
    rcases hl with hl | hl
    · exact hρ2 l hl
    · obtain ⟨q, hq, hql⟩ := List.any_eq_true.1 hl
      have hql' := Nat.eq_of_beq_eq_true hql
      subst hql'
      obtain ⟨g1, g2, g3⟩ := hins q hq
      have hno : ¬ (nx ≤ q.1 ∧ q.1 < nx2) := fun hh => by omega
      rw [hagr q.1 hno]
      have h7 := h3 q.2 g1
      simp only [renE, g2] at h7
      simp only [renE, hRr q hq, h7]
  have hlt3 : ∀ l, inOr ins nx nx2 l = true → l < nx2 := fun l hl => by
    simp only [inOr, Bool.or_eq_true] at hl
    rcases hl with hl | hl
    · exact (hin hl).2
    · obtain ⟨q, hq, hql⟩ := List.any_eq_true.1 hl
      have hql' := Nat.eq_of_beq_eq_true hql
      have := (hins q hq).2.2
      omega
  have hden : ∀ c : C, c.chk (inOr ins nx nx2) = true → c.den ρ2 = c.den (renE Rr ρ') := fun c hc => C.den_labs (q := fun l => inOr ins nx nx2 l = true) hρ3 (C.labs_of_chk (fun l hl => hl) hc)
  have hnew : ∀ e ∈ new, inLab nx nx2 e.lab = true ∧ e.kd.isRo = false ∧ ∀ c ∈ e.cs, c.chk (inOr ins nx nx2) = true := by
    intro e he
    have h := List.all_eq_true.1 hlc e he
    simp only [Bool.and_eq_true, Bool.not_eq_true'] at h
    exact ⟨h.1.1, h.1.2, fun c hc => List.all_eq_true.1 h.2 c hc⟩
  have hEn : ∀ e ∈ new, EOK w.heap.size ρ2 w' e ∧ ((∃ l e0, renL Rr e.lab = some l ∧ e0 ∈ L' ∧ e0.lab = l ∧ e0.kd = e.kd) ∨ renL Rr e.lab = none) := by
    intro e he
    obtain ⟨q1, q2, q3⟩ := hnew e he
    obtain ⟨g1, g2, g3⟩ := covL_mem hcov e he
    have hl2 : ρ2 e.lab = renE Rr ρ' e.lab := hρ2 _ q1
    have hc2 : e.cs.map (C.den ρ2) = e.cs.map (C.den (renE Rr ρ')) := List.map_congr_left fun c hc => hden c (q3 c hc)
    cases hr : renL Rr e.lab with
    | none =>
      rw [hr] at g3
      obtain ⟨g4, t, z, g5⟩ := g3
      refine ⟨?_, .inr rfl⟩
      obtain ⟨lab, kd, cs⟩ := e
      simp only at g4 g5 hr hl2
      subst g4 g5
      refine ⟨0, ?_⟩
      rw [hl2]
      have : (renE Rr ρ') lab = (none, 0) := by simp only [renE, hr]
      rw [this]
      exact rowO_nil w' _ t z
    | some l =>
      rw [hr] at g3
      obtain ⟨k, cs', g4, gk, g5⟩ := g3
      have hke : e.kd = k := by
        rcases gk with gk | ⟨z, gk, _⟩ | ⟨own, ks, f, gk⟩
        · exact gk
        · rw [gk] at q2; cases q2
        · rw [gk.2] at q2; cases q2
      subst hke
      have hm := find_mem g4
      have hok := h5.ok _ hm.1
      have hl : (renE Rr ρ') e.lab = ρ' l := by simp only [renE, hr]
      refine ⟨?_, .inl ⟨l, _, rfl, hm.1, rfl, rfl⟩⟩
      have hc := g5 ρ'
      obtain ⟨lab, kd, cs⟩ := e
      simp only at hok hl hc hl2 hc2 q2
      cases kd with
      | ro z => cases q2
      | own t => simp only [EOK] at hok ⊢; rw [hl2, hc2, hl, hc]; exact hok
      | vec t z => simp only [EOK] at hok ⊢; rw [hl2, hc2, hl, hc]; exact hok
      | obj o =>
        simp only [EOK] at hok ⊢; rw [hl2, hl]
        obtain ⟨b, e1, e2, e3, e4, e5⟩ := hok
        subst e5
        exact ⟨b, e1, e2, e3, e4, by simpa using hc⟩
      | mp own ks f =>
        simp only [EOK] at hok ⊢; rw [hl2, hl]
        obtain ⟨b, es, ck, e1, e2, e3, e4, e5⟩ := hok
        subst e5
        exact ⟨b, es, ck, e1, e2, e3, e4, by simpa using hc⟩
  refine ⟨v', new, nx2, ρ2, ?_, hle, ?_, hagr, h4, ?_, hK⟩
  · rw [V.den_labs (q := fun l => inOr ins nx nx2 l = true) hρ3 (V.labs_of_chk (fun l hl => hl) hvc), V.ren_den hv' ρ']
  · exact V.wf_of_ren hv' h2 hvc hlt3
  · refine ⟨fun e he => (hEn e he).1.base hp.base, fun e he => ⟨hin (hnew e he).1, (covL_mem hcov e he).2.1⟩, fun e he e' he' hl => injB_spec hinj e he e' he' (.inl hl), ?_, fun e he => .inl (fun b hb => (hEn e he).1.blk_ge (hnew e he).2.1 b hb)⟩
    intro e he e' he' hro hne hcs b hb hb'
    have hbl : ∀ x : E, x ∈ new → ∀ l, renL Rr x.lab = some l → blk ρ2 x.lab = blk ρ' l := fun x hx l hl => by simp only [blk]; rw [hρ2 _ (hnew x hx).1]; simp only [renE, hl]
    have hbn : ∀ x : E, x ∈ new → renL Rr x.lab = none → blk ρ2 x.lab = none := fun x hx hl => by simp only [blk]; rw [hρ2 _ (hnew x hx).1]; simp only [renE, hl]; rfl
    rcases (hEn e he).2 with ⟨l, e0, g1, g2, g3, g4⟩ | g1
    · rcases (hEn e' he').2 with ⟨l', e0', k1, k2, k3, k4⟩ | k1
      · rw [hbl e he l g1, ← g3] at hb
        rw [hbl e' he' l' k1, ← k3] at hb'
        refine h5.apart e0 g2 e0' k2 (by rw [g4]; exact hro) ?_ (fun hr0 => (Kd.ro_fl (by rw [k4]; exact (hnew e' he').2.1) hr0).elim) b hb hb'
        intro heq
        have := injB_spec hinj e he e' he' (.inr ⟨l, g1, by rw [k1, ← k3, heq, g3]⟩)
        exact hne (by rw [this])
      · rw [hbn e' he' k1] at hb'; cases hb'
    · rw [hbn e he g1] at hb; cases hb
theorem nd_t {p : Prop} [Decidable p] (h : ¬ p) : (!decide p) = true := by simp [h]
theorem nd_f {p : Prop} [Decidable p] (h : p) : (!decide p) = false := by simp [h]
theorem dd_t {p : Prop} [Decidable p] (h : p) : decide p = true := decide_eq_true h
theorem dd_f {p : Prop} [Decidable p] (h : ¬ p) : decide p = false := decide_eq_false h
end Go.Proofs.Ytbhpnhcdjmcaoaa

/- Boom, plain: least ways by passes over all cells. -/
namespace Go.Proofs.Ytbhpnhcdjmcaoaa
open Go.RowKit
set_option linter.unusedVariables false
set_option linter.unusedSimpArgs false
def leW (a b : Way) : Prop := a.1 < b.1 ∨ (a.1 = b.1 ∧ a.2 ≤ b.2)
theorem leW_refl (a : Way) : leW a a := .inr ⟨rfl, Int.le_refl _⟩
theorem leW_trans {a b c : Way} (h : leW a b) (h' : leW b c) : leW a c := by unfold leW at *; omega
theorem leW_anti {a b : Way} (h : leW a b) (h' : leW b a) : a = b := by unfold leW at *; exact Prod.ext (by omega) (by omega)
theorem lessW_iff {a b : Way} : lessW a b = true ↔ ¬ leW b a := by unfold lessW leW; simp; omega
theorem lessW_false {a b : Way} : lessW a b = false ↔ leW b a := by
  have := @lessW_iff a b
  cases h : lessW a b with
  | true => rw [h] at this; simp at this; simp [this]
  | false => rw [h] at this; simp at this; simp [this]
theorem leW_total (a b : Way) : leW a b ∨ leW b a := by unfold leW; omega
def updD (d : Int → Option Way) (i : Int) (w : Way) : Int → Option Way := fun j => if j = i then some w else d j
def addW (c : Int) (w : Way) : Way := (w.1 + c, w.2 + 1)
theorem addW_le {c : Int} {a b : Way} (h : leW a b) : leW (addW c a) (addW c b) := by unfold leW addW at *; simp only; omega
/-- One neighbour looked at, for a cell. -/
def relG (cost : Int → Int) (i : Int) (st : (Int → Option Way) × Bool) (k : Int) : (Int → Option Way) × Bool :=
  match st.1 k with
  | none => st
  | some w => match st.1 i with
    | none => (updD st.1 i (addW (cost i) w), true)
    | some old => if lessW (addW (cost i) w) old then (updD st.1 i (addW (cost i) w), true) else st
def roundG (cost : Int → Int) (nb : Int → List Int) (st : (Int → Option Way) × Bool) (i : Int) : (Int → Option Way) × Bool := (nb i).foldl (relG cost i) st
def passG (cost : Int → Int) (nb : Int → List Int) (d : Int → Option Way) (k : Nat) : (Int → Option Way) × Bool := ((List.range k).map (Nat.cast : Nat → Int)).foldl (roundG cost nb) (d, false)
def iterG (cost : Int → Int) (nb : Int → List Int) (n : Nat) (d0 : Int → Option Way) : Nat → (Int → Option Way) × Bool
  | 0 => (d0, true)
  | t + 1 => passG cost nb (iterG cost nb n d0 t).1 n
/-- A way over cells: the last one ends it, each next one is a neighbour. -/
def isWalk (ini : Int → Bool) (nb : Int → List Int) : List Int → Prop
  | [] => False
  | [i] => ini i = true
  | i :: k :: r => k ∈ nb i ∧ isWalk ini nb (k :: r)
def valW (cost : Int → Int) : List Int → Way
  | [] => (0, 0)
  | i :: r => addW (cost i) (valW cost r)
theorem valW_cells (cost : Int → Int) : ∀ l : List Int, (valW cost l).2 = l.length
  | [] => rfl
  | i :: r => by simp [valW, addW, valW_cells cost r]
/-- At least as good. -/
def leD (d d' : Int → Option Way) : Prop := ∀ i w, d' i = some w → ∃ w', d i = some w' ∧ leW w' w
theorem leD_refl (d : Int → Option Way) : leD d d := fun i w h => ⟨w, h, leW_refl w⟩
theorem leD_trans {a b c : Int → Option Way} (h : leD a b) (h' : leD b c) : leD a c := fun i w hw => by
  obtain ⟨w1, h1, h2⟩ := h' i w hw
  obtain ⟨w2, h3, h4⟩ := h i w1 h1
  exact ⟨w2, h3, leW_trans h4 h2⟩
section
variable {cost : Int → Int} {ini : Int → Bool} {nb : Int → List Int} {n : Nat}
def Sound (cost : Int → Int) (ini : Int → Bool) (nb : Int → List Int) (d : Int → Option Way) : Prop := ∀ i w, d i = some w → ∃ l, isWalk ini nb (i :: l) ∧ valW cost (i :: l) = w
def Comp (cost : Int → Int) (ini : Int → Bool) (nb : Int → List Int) (m : Nat) (d : Int → Option Way) : Prop := ∀ i l, isWalk ini nb (i :: l) → l.length + 1 ≤ m → ∃ w, d i = some w ∧ leW w (valW cost (i :: l))
/-- From st to st': sound, no worse, and if anything has turned it is said, and something is better. -/
structure Goes (cost : Int → Int) (ini : Int → Bool) (nb : Int → List Int) (st st' : (Int → Option Way) × Bool) : Prop where
  sound : Sound cost ini nb st.1 → Sound cost ini nb st'.1
  le : leD st'.1 st.1
  keep : st.2 = true → st'.2 = true
  same : st'.2 = false → st'.1 = st.1 ∧ st.2 = false
  more : st'.2 = true → st.2 = true ∨ ∃ i w, st'.1 i = some w ∧ ∀ w0, st.1 i = some w0 → ¬ leW w0 w
theorem Goes.refl (st : (Int → Option Way) × Bool) : Goes cost ini nb st st := ⟨id, leD_refl _, id, fun h => ⟨rfl, h⟩, fun h => .inl h⟩
theorem Goes.trans {a b c : (Int → Option Way) × Bool} (h : Goes cost ini nb a b) (h' : Goes cost ini nb b c) : Goes cost ini nb a c := by
  refine ⟨fun hs => h'.sound (h.sound hs), leD_trans h'.le h.le, fun hk => h'.keep (h.keep hk), fun hf => ?_, fun ht => ?_⟩
  · obtain ⟨h1, h2⟩ := h'.same hf
    obtain ⟨h3, h4⟩ := h.same h2
    exact ⟨h1.trans h3, h4⟩
  · rcases h'.more ht with h1 | ⟨i, w, h1, h2⟩
    · rcases h.more h1 with h2 | ⟨i, w, h2, h3⟩
      · exact .inl h2
      · right
        obtain ⟨w', h4, h5⟩ := h'.le i w h2
        exact ⟨i, w', h4, fun w0 h6 h7 => h3 w0 h6 (leW_trans h7 h5)⟩
    · right
      refine ⟨i, w, h1, fun w0 h3 h4 => ?_⟩
      obtain ⟨w', h5, h6⟩ := h.le i w0 h3
      exact h2 w' h5 (leW_trans h6 h4)
theorem relG_goes {i k : Int} (hk : k ∈ nb i) (st : (Int → Option Way) × Bool) : Goes cost ini nb st (relG cost i st k) := by
  unfold relG
  split
  · exact Goes.refl _
  · rename_i w hw
    have sound : Sound cost ini nb st.1 → Sound cost ini nb (updD st.1 i (addW (cost i) w)) := fun hs j v hv => by
      unfold updD at hv
      split at hv
      · rename_i hj
        cases hv
        obtain ⟨l, h1, h2⟩ := hs k w hw
        rw [hj]
        exact ⟨k :: l, ⟨hk, h1⟩, by rw [← h2]; rfl⟩
      · exact hs j v hv
    split
    · rename_i hi
      refine ⟨sound, fun j v hv => ?_, fun _ => rfl, fun h => (by cases h), fun _ => .inr ⟨i, addW (cost i) w, by simp [updD], fun w0 h => by rw [hi] at h; cases h⟩⟩
      have : j ≠ i := fun e => by rw [e, hi] at hv; cases hv
      exact ⟨v, by simp [updD, this, hv], leW_refl _⟩
    · rename_i old hi
      split
      · rename_i hl
        have hl' := lessW_iff.1 hl
        refine ⟨sound, fun j v hv => ?_, fun _ => rfl, fun h => (by cases h), fun _ => .inr ⟨i, addW (cost i) w, by simp [updD], fun w0 h => by rw [hi] at h; cases h; exact hl'⟩⟩
        by_cases hj : j = i
        · subst hj
          rw [hi] at hv; cases hv
          exact ⟨_, by simp [updD], (leW_total _ _).resolve_right hl'⟩
        · exact ⟨v, by simp [updD, hj, hv], leW_refl _⟩
      · exact Goes.refl _
theorem relG_done {i k : Int} {st : (Int → Option Way) × Bool} {w : Way} (hw : st.1 k = some w) : ∃ w', (relG cost i st k).1 i = some w' ∧ leW w' (addW (cost i) w) := by
  unfold relG
  rw [hw]
  simp only
  split
  · exact ⟨_, by simp [updD], leW_refl _⟩
  · rename_i old hi
    split
    · exact ⟨_, by simp [updD], leW_refl _⟩
    · rename_i hl
      exact ⟨old, hi, lessW_false.1 (by simpa using hl)⟩
theorem fold_goes {i : Int} : ∀ (l : List Int) (st : (Int → Option Way) × Bool), (∀ k ∈ l, k ∈ nb i) → Goes cost ini nb st (l.foldl (relG cost i) st)
  | [], st, _ => Goes.refl _
  | k :: r, st, h => (relG_goes (h k (by simp)) st).trans (fold_goes r _ (fun x hx => h x (by simp [hx])))
theorem fold_done {i k : Int} : ∀ (l : List Int) (st : (Int → Option Way) × Bool), (∀ x ∈ l, x ∈ nb i) → k ∈ l → ∀ w, st.1 k = some w → ∃ w', (l.foldl (relG cost i) st).1 i = some w' ∧ leW w' (addW (cost i) w)
  | x :: r, st, h, hk, w, hw => by
    rw [List.foldl_cons]
    rcases List.mem_cons.1 hk with rfl | hk
    · obtain ⟨w1, h1, h2⟩ := relG_done (cost := cost) (i := i) hw
      obtain ⟨w2, h3, h4⟩ := (fold_goes (cost := cost) (ini := fun _ => true) r (relG cost i st k) (fun x hx => h x (by simp [hx]))).le i w1 h1
      exact ⟨w2, h3, leW_trans h4 h2⟩
    · obtain ⟨w1, h1, h2⟩ := (relG_goes (cost := cost) (ini := fun _ => true) (h x (by simp)) st).le k w hw
      obtain ⟨w2, h3, h4⟩ := fold_done r _ (fun x hx => h x (by simp [hx])) hk w1 h1
      exact ⟨w2, h3, leW_trans h4 (addW_le h2)⟩
theorem rounds_goes : ∀ (l : List Int) (st : (Int → Option Way) × Bool), Goes cost ini nb st (l.foldl (roundG cost nb) st)
  | [], st => Goes.refl _
  | i :: r, st => (fold_goes (nb i) st (fun _ h => h)).trans (rounds_goes r _)
theorem rounds_done {i k : Int} (hk : k ∈ nb i) : ∀ (l : List Int) (st : (Int → Option Way) × Bool), i ∈ l → ∀ w, st.1 k = some w → ∃ w', (l.foldl (roundG cost nb) st).1 i = some w' ∧ leW w' (addW (cost i) w)
  | x :: r, st, hi, w, hw => by
    rw [List.foldl_cons]
    rcases List.mem_cons.1 hi with rfl | hi
    · obtain ⟨w1, h1, h2⟩ := fold_done (nb := nb) (nb i) st (fun _ h => h) hk w hw
      obtain ⟨w2, h3, h4⟩ := (rounds_goes (cost := cost) (ini := fun _ => true) (nb := nb) r (roundG cost nb st i)).le i w1 h1
      exact ⟨w2, h3, leW_trans h4 h2⟩
    · obtain ⟨w1, h1, h2⟩ := (fold_goes (cost := cost) (ini := fun _ => true) (nb := nb) (i := x) (nb x) st (fun _ h => h)).le k w hw
      obtain ⟨w2, h3, h4⟩ := rounds_done hk r _ hi w1 h1
      exact ⟨w2, h3, leW_trans h4 (addW_le h2)⟩
theorem passG_goes (d : Int → Option Way) (k : Nat) : Goes cost ini nb (d, false) (passG cost nb d k) := rounds_goes _ _
theorem walk_rng (hn : ∀ i, ini i = true → 0 ≤ i ∧ i < n) (hnb : ∀ i k, k ∈ nb i → (0 ≤ i ∧ i < n) ∧ 0 ≤ k ∧ k < n) : ∀ {l : List Int}, isWalk ini nb l → ∀ x ∈ l, 0 ≤ x ∧ x < n
  | [i], h, x, hx => by rw [List.mem_singleton.1 hx]; exact hn i h
  | i :: k :: r, h, x, hx => by
    rcases List.mem_cons.1 hx with rfl | hx
    · exact (hnb x k h.1).1
    · exact walk_rng hn hnb h.2 x hx
theorem pass_comp (hn : ∀ i, ini i = true → 0 ≤ i ∧ i < n) (hnb : ∀ i k, k ∈ nb i → (0 ≤ i ∧ i < n) ∧ 0 ≤ k ∧ k < n) {d : Int → Option Way} {m : Nat} (h0 : 1 ≤ m) (hc : Comp cost ini nb m d) : Comp cost ini nb (m + 1) (passG cost nb d n).1 := by
  intro i l hw hl
  match l, hw, hl with
  | [], hw, hl =>
    obtain ⟨w, h1, h2⟩ := hc i [] hw (by simpa using h0)
    obtain ⟨w', h3, h4⟩ := (passG_goes (cost := cost) (ini := ini) (nb := nb) d n).le i w h1
    exact ⟨w', h3, leW_trans h4 h2⟩
  | k :: r, hw, hl =>
    obtain ⟨w, h1, h2⟩ := hc k r hw.2 (by simp at hl; omega)
    have hi := (hnb i k hw.1).1
    have hmem : i ∈ (List.range n).map (Nat.cast : Nat → Int) := List.mem_map.2 ⟨i.toNat, List.mem_range.2 (by omega), by simp; omega⟩
    obtain ⟨w', h3, h4⟩ := rounds_done (cost := cost) hw.1 _ (d, false) hmem w h1
    exact ⟨w', h3, leW_trans h4 (addW_le h2)⟩
/-- What stands in front of a walk's member, and from it on. -/
theorem walk_suffix : ∀ {a : List Int} {x : Int} {b : List Int}, isWalk ini nb (a ++ x :: b) → isWalk ini nb (x :: b)
  | [], x, b, h => h
  | [i], x, b, h => h.2
  | i :: j :: a, x, b, h => walk_suffix (a := j :: a) h.2
theorem walk_cut : ∀ {a : List Int} {x : Int} {b c : List Int}, isWalk ini nb (a ++ x :: b) → isWalk ini nb (x :: c) → isWalk ini nb (a ++ x :: c)
  | [], x, b, c, h, h' => h'
  | [i], x, b, c, h, h' => ⟨h.1, h'⟩
  | i :: j :: a, x, b, c, h, h' => ⟨h.1, walk_cut (a := j :: a) h.2 h'⟩
theorem valW_app (a b : List Int) : valW cost (a ++ b) = ((valW cost a).1 + (valW cost b).1, (valW cost a).2 + (valW cost b).2) := by
  induction a with
  | nil => simp [valW]
  | cons i r ih => simp only [List.cons_append, valW, addW, ih]; exact Prod.ext (by simp only; omega) (by simp only; omega)
theorem valW_pos (hc : ∀ i, 0 ≤ cost i) : ∀ l : List Int, 0 ≤ (valW cost l).1
  | [] => by simp [valW]
  | i :: r => by have := valW_pos hc r; have := hc i; simp only [valW, addW]; omega
theorem nodup_len : ∀ (n : Nat) (l : List Int), l.Nodup → (∀ x ∈ l, 0 ≤ x ∧ x < n) → l.length ≤ n
  | 0, [], _, _ => by simp
  | 0, x :: r, _, h => by have := h x (by simp); omega
  | n + 1, l, hd, h => by
    have h1 : (l.filter (· ≠ (n : Int))).length ≤ n := nodup_len n _ (List.Pairwise.filter _ hd) (fun x hx => by
      obtain ⟨hx1, hx2⟩ := List.mem_filter.1 hx
      have := h x hx1
      have hx3 : x ≠ (n : Int) := by simpa using hx2
      omega)
    have h2 : l.length ≤ (l.filter (· ≠ (n : Int))).length + 1 := by
      clear h h1
      induction l with
      | nil => simp
      | cons x r ih =>
        have hd' := List.nodup_cons.1 hd
        by_cases hx : x = (n : Int)
        · subst hx
          have : r.filter (fun y => decide (y ≠ (n : Int))) = r := List.filter_eq_self.2 (fun y hy => by
            have : y ≠ (n : Int) := fun e => hd'.1 (e ▸ hy)
            simpa using this)
          have hz : ((n : Int) :: r).filter (fun y => decide (y ≠ (n : Int))) = r.filter (fun y => decide (y ≠ (n : Int))) := by simp
          rw [hz, this]; simp
        · have hz : (x :: r).filter (fun y => decide (y ≠ (n : Int))) = x :: r.filter (fun y => decide (y ≠ (n : Int))) := by simp [hx]
          rw [hz]
          have := ih hd'.2
          simp only [List.length_cons]; omega
    omega
theorem not_nodup : ∀ {l : List Int}, ¬ l.Nodup → ∃ a x b c, l = a ++ x :: b ++ x :: c
  | [], h => absurd List.nodup_nil h
  | x :: r, h => by
    by_cases hx : x ∈ r
    · obtain ⟨b, c, rfl⟩ := List.append_of_mem hx
      exact ⟨[], x, b, c, rfl⟩
    · have : ¬ r.Nodup := fun hr => h (List.nodup_cons.2 ⟨hx, hr⟩)
      obtain ⟨a, y, b, c, rfl⟩ := not_nodup this
      exact ⟨x :: a, y, b, c, rfl⟩
/-- A walk without a cell twice that is no worse. -/
theorem walk_short (hc : ∀ i, 0 ≤ cost i) : ∀ (m : Nat) {l : List Int} {i : Int}, l.length ≤ m → isWalk ini nb (i :: l) → ∃ l', isWalk ini nb (i :: l') ∧ (i :: l').Nodup ∧ leW (valW cost (i :: l')) (valW cost (i :: l)) ∧ ∀ x ∈ l', x ∈ l
  | 0, [], i, _, h => ⟨[], h, by simp, leW_refl _, fun x hx => hx⟩
  | m + 1, l, i, hl, h => by
    by_cases hd : (i :: l).Nodup
    · exact ⟨l, h, hd, leW_refl _, fun x hx => hx⟩
    · obtain ⟨a, x, b, c, hab⟩ := not_nodup hd
      have hab : i :: l = a ++ x :: (b ++ x :: c) := by rw [hab]; simp
      have h1 : isWalk ini nb (x :: c) := by
        have h2 := walk_suffix (hab ▸ h)
        exact walk_suffix (a := x :: b) h2
      have h3 : isWalk ini nb (a ++ x :: c) := walk_cut (hab ▸ h) h1
      have hle : leW (valW cost (a ++ x :: c)) (valW cost (i :: l)) := by
        rw [hab, valW_app, valW_app]
        have e1 : valW cost (x :: (b ++ x :: c)) = addW (cost x) (valW cost (b ++ x :: c)) := rfl
        rw [e1, valW_app]
        have := valW_pos hc b
        have := valW_cells cost b
        have := hc x
        have e2 : valW cost (x :: c) = addW (cost x) (valW cost c) := rfl
        simp only [leW, addW, e2]
        omega
      match a, hab, h3, hle with
      | [], hab, h3, hle =>
        simp only [List.nil_append, List.cons.injEq] at hab h3 hle
        obtain ⟨rfl, rfl⟩ := hab
        obtain ⟨l', g1, g2, g3, g4⟩ := walk_short hc m (l := c) (by simp at hl; omega) h3
        exact ⟨l', g1, g2, leW_trans g3 hle, fun y hy => by simp [g4 y hy]⟩
      | j :: a', hab, h3, hle =>
        simp only [List.cons_append, List.cons.injEq] at hab h3 hle
        obtain ⟨rfl, rfl⟩ := hab
        obtain ⟨l', g1, g2, g3, g4⟩ := walk_short hc m (l := a' ++ x :: c) (by simp at hl ⊢; omega) h3
        refine ⟨l', g1, g2, leW_trans g3 hle, fun y hy => ?_⟩
        have := g4 y hy
        simp only [List.mem_append, List.mem_cons] at this ⊢
        rcases this with h | h | h <;> simp [h]
/-- The least of all. -/
structure OptD (cost : Int → Int) (ini : Int → Bool) (nb : Int → List Int) (d : Int → Option Way) : Prop where
  sound : Sound cost ini nb d
  comp : ∀ i l, isWalk ini nb (i :: l) → ∃ w, d i = some w ∧ leW w (valW cost (i :: l))
theorem OptD.unique {d d' : Int → Option Way} (h : OptD cost ini nb d) (h' : OptD cost ini nb d') : d = d' := by
  funext i
  cases hd : d i with
  | none =>
    cases hd' : d' i with
    | none => rfl
    | some w' =>
      obtain ⟨l, h1, h2⟩ := h'.sound i w' hd'
      obtain ⟨w, h3, _⟩ := h.comp i l h1
      rw [hd] at h3; cases h3
  | some w =>
    obtain ⟨l, h1, h2⟩ := h.sound i w hd
    obtain ⟨w', h3, h4⟩ := h'.comp i l h1
    obtain ⟨l', g1, g2⟩ := h'.sound i w' h3
    obtain ⟨w2, g3, g4⟩ := h.comp i l' g1
    rw [hd] at g3; cases g3
    rw [g2] at g4
    rw [h2] at h4
    rw [h3, leW_anti g4 h4]
theorem comp_opt (hc : ∀ i, 0 ≤ cost i) (hn : ∀ i, ini i = true → 0 ≤ i ∧ i < n) (hnb : ∀ i k, k ∈ nb i → (0 ≤ i ∧ i < n) ∧ 0 ≤ k ∧ k < n) {d : Int → Option Way} {m : Nat} (hm : n ≤ m) (hs : Sound cost ini nb d) (h : Comp cost ini nb m d) : OptD cost ini nb d := by
  refine ⟨hs, fun i l hl => ?_⟩
  obtain ⟨l', g1, g2, g3, _⟩ := walk_short hc l.length (Nat.le_refl _) hl
  have := nodup_len n _ g2 (walk_rng hn hnb g1)
  obtain ⟨w, h1, h2⟩ := h i l' g1 (by simpa using Nat.le_trans this hm)
  exact ⟨w, h1, leW_trans h2 g3⟩
theorem opt_still {d : Int → Option Way} (h : OptD cost ini nb d) (k : Nat) : (passG cost nb d k).2 = false := by
  cases hb : (passG cost nb d k).2 with
  | false => rfl
  | true =>
    have hg := passG_goes (cost := cost) (ini := ini) (nb := nb) d k
    rcases hg.more hb with h1 | ⟨i, w, h1, h2⟩
    · cases h1
    · obtain ⟨l, g1, g2⟩ := hg.sound h.sound i w h1
      obtain ⟨w0, g3, g4⟩ := h.comp i l g1
      exact absurd (g2 ▸ g4) (h2 w0 g3)
/-- All passes. -/
theorem iter_comp (hn : ∀ i, ini i = true → 0 ≤ i ∧ i < n) (hnb : ∀ i k, k ∈ nb i → (0 ≤ i ∧ i < n) ∧ 0 ≤ k ∧ k < n) {d0 : Int → Option Way} (hs : Sound cost ini nb d0) (hc : Comp cost ini nb 1 d0) : ∀ t, Sound cost ini nb (iterG cost nb n d0 t).1 ∧ Comp cost ini nb (t + 1) (iterG cost nb n d0 t).1
  | 0 => ⟨hs, hc⟩
  | t + 1 => by
    obtain ⟨h1, h2⟩ := iter_comp hn hnb hs hc t
    exact ⟨(passG_goes _ n).sound h1, pass_comp hn hnb (by omega) h2⟩
theorem iter_opt (hp : ∀ i, 0 ≤ cost i) (hn : ∀ i, ini i = true → 0 ≤ i ∧ i < n) (hnb : ∀ i k, k ∈ nb i → (0 ≤ i ∧ i < n) ∧ 0 ≤ k ∧ k < n) {d0 : Int → Option Way} (hs : Sound cost ini nb d0) (hc : Comp cost ini nb 1 d0) {t : Nat} (ht : n ≤ t) : OptD cost ini nb (iterG cost nb n d0 t).1 := by
  obtain ⟨h1, h2⟩ := iter_comp (cost := cost) hn hnb hs hc t
  exact comp_opt hp hn hnb (by omega) h1 h2
/-- Beyond so many passes nothing is said to have turned. -/
theorem iter_end (hp : ∀ i, 0 ≤ cost i) (hn : ∀ i, ini i = true → 0 ≤ i ∧ i < n) (hnb : ∀ i k, k ∈ nb i → (0 ≤ i ∧ i < n) ∧ 0 ≤ k ∧ k < n) {d0 : Int → Option Way} (hs : Sound cost ini nb d0) (hc : Comp cost ini nb 1 d0) : (iterG cost nb n d0 (n + 1)).2 = false :=
  opt_still (iter_opt hp hn hnb hs hc (Nat.le_refl n)) n
/-- Where a pass has turned nothing, all is done. -/
theorem iter_fix (hp : ∀ i, 0 ≤ cost i) (hn : ∀ i, ini i = true → 0 ≤ i ∧ i < n) (hnb : ∀ i k, k ∈ nb i → (0 ≤ i ∧ i < n) ∧ 0 ≤ k ∧ k < n) {d0 : Int → Option Way} (hs : Sound cost ini nb d0) (hc : Comp cost ini nb 1 d0) {t : Nat} (h : (iterG cost nb n d0 t).2 = false) : OptD cost ini nb (iterG cost nb n d0 t).1 := by
  match t, h with
  | t + 1, h =>
    have hsame : (iterG cost nb n d0 (t + 1)).1 = (iterG cost nb n d0 t).1 := ((passG_goes (cost := cost) (ini := ini) (nb := nb) _ n).same h).1
    have hfix : ∀ s, (iterG cost nb n d0 (t + s)).1 = (iterG cost nb n d0 t).1 := by
      intro s
      induction s with
      | zero => rfl
      | succ s ih =>
        show (passG cost nb (iterG cost nb n d0 (t + s)).1 n).1 = _
        rw [ih]; exact hsame
    have := iter_opt hp hn hnb hs hc (t := t + n) (by omega)
    rw [hfix n] at this
    rw [hsame]; exact this
end
end Go.Proofs.Ytbhpnhcdjmcaoaa

/- Boom, plain: ways down to the last row. -/
namespace Go.Proofs.Ytbhpnhcdjmcaoaa
open Go.RowKit
set_option linter.unusedVariables false
set_option linter.unusedSimpArgs false
theorem covE_bR {R : Rn} {nx l l' t : Nat} {L : List E} {c : C} {b b' : Bool} (hr : renL R l = some l') (h1 : l < nx) (h3 : find L l' = some ⟨l', .own t, [c]⟩) (hc : c.toB = some b') (he : b' = b) : covE R nx L ⟨l, .own t, [.bool b]⟩ :=
  covE_sem hr h1 (fun x hx => by rw [List.mem_singleton.1 hx]; trivial) h3 (.inl rfl) (fun ρ => by subst he; simp only [List.map_cons, List.map_nil]; rw [C.toB_den hc ρ]; rfl)
def cstI (cs : List Int) (i : Int) : Int := if cs.getD i.toNat 0 > 0 then cs.getD i.toNat 0 else 0
def hldI (cs : List Int) (i : Int) : Bool := decide (cs.getD i.toNat 0 ≠ 0)
def inR (cs : List Int) (i : Int) : Bool := decide (0 ≤ i ∧ i < cs.length)
def iniB (W H : Int) (cs : List Int) (i : Int) : Bool := inR cs i && (hldI cs i && decide (i / W = H - 1))
/-- The neighbours by which a cell's way goes on. -/
def nbB (W H : Int) (cs : List Int) (i : Int) : List Int := if inR cs i && (hldI cs i && !decide (i / W = H - 1)) then (nearL W H true i).filter (fun k => !decide (k / W = 0)) else []
def d0P (W H : Int) (cs : List Int) (k : Nat) (i : Int) : Option Way := if (decide (i < k) && iniB W H cs i) then some (cstI cs i, 1) else none
def wayF (d : Int → Option Way) : MF := fun k => match k with
  | [i] => (match d i with | some w => some (.w [w.1, w.2]) | none => none)
  | _ => none
theorem wayF_some {d : Int → Option Way} {i : Int} {w : Way} (h : d i = some w) : wayF d [i] = some (.w [w.1, w.2]) := by simp only [wayF, h]
theorem wayF_none {d : Int → Option Way} {i : Int} (h : d i = none) : wayF d [i] = none := by simp only [wayF, h]
theorem wayF_upd (d : Int → Option Way) (i a b : Int) : updF (wayF d) [i] (.w [a, b]) = wayF (updD d i (a, b)) := by
  funext k
  unfold updF
  match k with
  | [] => rfl
  | [j] =>
    by_cases h : j = i
    · subst h; simp [wayF, updD]
    · have : ¬ ([j] : List Int) = [i] := by simpa using h
      simp only [this, if_false, wayF, updD, h]
  | _ :: _ :: _ => simp [wayF]
theorem d0P_zero (W H : Int) (cs : List Int) : (fun _ => none : MF) = wayF (d0P W H cs 0) := by
  funext k
  match k with
  | [] => rfl
  | [j] =>
    have : d0P W H cs 0 j = none := by
      unfold d0P
      rw [if_neg]
      simp [iniB, inR]
      omega
    simp only [wayF, this]
  | _ :: _ :: _ => rfl
theorem d0P_skip {W H : Int} {cs : List Int} {k : Nat} (h : iniB W H cs k = false) : d0P W H cs (k + 1) = d0P W H cs k := by
  funext i
  unfold d0P
  by_cases hi : i = k
  · subst hi; rw [h]; simp
  · have : decide (i < ((k + 1 : Nat) : Int)) = decide (i < (k : Int)) := by
      rw [decide_eq_decide]; omega
    rw [this]
theorem d0P_put {W H : Int} {cs : List Int} {k : Nat} (h : iniB W H cs k = true) : d0P W H cs (k + 1) = updD (d0P W H cs k) k (cstI cs k, 1) := by
  funext i
  unfold d0P updD
  by_cases hi : i = k
  · subst hi; rw [h]; simp; omega
  · have : decide (i < ((k + 1 : Nat) : Int)) = decide (i < (k : Int)) := by
      rw [decide_eq_decide]; omega
    rw [this, if_neg hi]
/-- Bounds. -/
def bndD (B : Int) (d : Int → Option Way) : Prop := ∀ i w, d i = some w → 0 ≤ w.1 ∧ w.1 ≤ 100 * w.2 ∧ 1 ≤ w.2 ∧ w.2 ≤ B
theorem bndD.mono {B B' : Int} {d : Int → Option Way} (h : bndD B d) (hb : B ≤ B') : bndD B' d := fun i w hw => by have := h i w hw; omega
theorem bnd_rel {cost : Int → Int} (hc : ∀ i, 0 ≤ cost i ∧ cost i ≤ 100) {B : Int} {st : (Int → Option Way) × Bool} (h : bndD B st.1) (i k : Int) : bndD (B + 1) (relG cost i st k).1 := by
  unfold relG
  split
  · exact h.mono (by omega)
  · rename_i w hw
    have hu : bndD (B + 1) (updD st.1 i (addW (cost i) w)) := fun j v hv => by
      unfold updD at hv
      split at hv
      · cases hv
        have := h k w hw
        have := hc i
        simp only [addW]; omega
      · have := h j v hv; omega
    split
    · exact hu
    · split
      · exact hu
      · exact h.mono (by omega)
theorem bnd_fold {cost : Int → Int} (hc : ∀ i, 0 ≤ cost i ∧ cost i ≤ 100) (i : Int) : ∀ (l : List Int) {B : Int} {st : (Int → Option Way) × Bool}, bndD B st.1 → bndD (B + l.length) (l.foldl (relG cost i) st).1
  | [], B, st, h => by simpa using h
  | k :: r, B, st, h => by
    have := bnd_fold hc i r (bnd_rel hc h i k)
    simp only [List.foldl_cons, List.length_cons]
    exact this.mono (by omega)
theorem bnd_rounds {cost : Int → Int} {nb : Int → List Int} (hc : ∀ i, 0 ≤ cost i ∧ cost i ≤ 100) (hnb : ∀ i, (nb i).length ≤ 9) : ∀ (l : List Int) {B : Int} {st : (Int → Option Way) × Bool}, bndD B st.1 → bndD (B + 9 * l.length) (l.foldl (roundG cost nb) st).1
  | [], B, st, h => by simpa using h
  | i :: r, B, st, h => by
    have h1 := bnd_fold hc i (nb i) h
    have h2 := hnb i
    have := bnd_rounds hc hnb r (st := roundG cost nb st i) h1
    simp only [List.foldl_cons, List.length_cons]
    exact this.mono (by omega)
theorem bnd_pass {cost : Int → Int} {nb : Int → List Int} (hc : ∀ i, 0 ≤ cost i ∧ cost i ≤ 100) (hnb : ∀ i, (nb i).length ≤ 9) {B : Int} {d : Int → Option Way} (h : bndD B d) (k : Nat) : bndD (B + 9 * k) (passG cost nb d k).1 := by
  have := bnd_rounds hc hnb ((List.range k).map (Nat.cast : Nat → Int)) (st := (d, false)) h
  rw [List.length_map, List.length_range] at this
  exact this
theorem bnd_iter {cost : Int → Int} {nb : Int → List Int} {n : Nat} (hc : ∀ i, 0 ≤ cost i ∧ cost i ≤ 100) (hnb : ∀ i, (nb i).length ≤ 9) {d0 : Int → Option Way} (h : bndD 1 d0) : ∀ t : Nat, bndD (1 + (t * (9 * n) : Nat)) (iterG cost nb n d0 t).1
  | 0 => by
    show bndD _ d0
    exact h.mono (by omega)
  | t + 1 => by
    have h1 := bnd_pass hc hnb (bnd_iter (n := n) hc hnb h t) n
    have h2 : ((t + 1) * (9 * n) : Nat) = t * (9 * n) + 9 * n := by rw [Nat.add_mul]; omega
    exact h1.mono (by rw [h2]; omega)
theorem near_len (W H : Int) (e : Bool) (i : Int) : (nearL W H e i).length ≤ 9 := by
  unfold nearL
  exact Nat.le_trans (List.length_filterMap_le _ _) (by simp)
theorem nbB_len (W H : Int) (cs : List Int) (i : Int) : (nbB W H cs i).length ≤ 9 := by
  unfold nbB
  split
  · exact Nat.le_trans (List.length_filter_le _ _) (near_len _ _ _ _)
  · simp
theorem cst_bd {cs : List Int} (h : ∀ x ∈ cs, -1 ≤ x ∧ x ≤ 100) (i : Int) : 0 ≤ cstI cs i ∧ cstI cs i ≤ 100 := by
  unfold cstI
  have : -1 ≤ cs.getD i.toNat 0 ∧ cs.getD i.toNat 0 ≤ 100 := by
    rw [List.getD_eq_getElem?_getD]
    cases hh : cs[i.toNat]? with
    | none => simp
    | some x => exact h x (List.mem_of_getElem? hh)
  split <;> omega
/-- One neighbour looked at, as the program does it. -/
def relB (W : Int) (cs : List Int) (i : Int) (st : (Int → Option Way) × Bool) (k : Int) : (Int → Option Way) × Bool := if k / W = 0 then st else relG (cstI cs) i st k
theorem relB_fold (W : Int) (cs : List Int) (i : Int) : ∀ (l : List Int) (st : (Int → Option Way) × Bool), l.foldl (relB W cs i) st = (l.filter (fun k => !decide (k / W = 0))).foldl (relG (cstI cs) i) st
  | [], st => rfl
  | k :: r, st => by
    rw [List.foldl_cons, relB_fold W cs i r]
    unfold relB
    by_cases h : k / W = 0 <;> simp [h]
theorem relB_round {W H : Int} {cs : List Int} {i : Int} (h : (inR cs i && (hldI cs i && !decide (i / W = H - 1))) = true) (st : (Int → Option Way) × Bool) : foldC (relB W cs i) W H true i st 9 = roundG (cstI cs) (nbB W H cs) st i := by
  rw [foldC_near, relB_fold]
  unfold roundG nbB
  rw [h]; rfl
theorem relB_skip {W H : Int} {cs : List Int} {i : Int} (h : (inR cs i && (hldI cs i && !decide (i / W = H - 1))) = false) (st : (Int → Option Way) × Bool) : roundG (cstI cs) (nbB W H cs) st i = st := by
  unfold roundG nbB
  rw [h]; rfl
theorem bnd_relB {W H : Int} {e : Bool} {cs : List Int} (hc : ∀ i, 0 ≤ cstI cs i ∧ cstI cs i ≤ 100) {B : Int} {st : (Int → Option Way) × Bool} (h : bndD B st.1) (i : Int) : ∀ j : Nat, bndD (B + j) (foldC (relB W cs i) W H e i st j).1
  | 0 => by simpa [foldC] using h
  | j + 1 => by
    have ih := bnd_relB (W := W) (H := H) (e := e) hc h i j
    simp only [foldC]
    split
    · exact ih.mono (by omega)
    · rename_i k _
      unfold relB
      split
      · exact ih.mono (by omega)
      · exact (bnd_rel hc ih i k).mono (by omega)
theorem passG_succ (cost : Int → Int) (nb : Int → List Int) (d : Int → Option Way) (k : Nat) : passG cost nb d (k + 1) = roundG cost nb (passG cost nb d k) k := by
  unfold passG
  rw [List.range_succ, List.map_append, List.foldl_append]; rfl
/-- The chart's ways. -/
theorem nbB_in {W H : Int} {cs : List Int} (hW : 0 < W) (hl : (cs.length : Int) = W * H) (i k : Int) (h : k ∈ nbB W H cs i) : (0 ≤ i ∧ i < cs.length) ∧ 0 ≤ k ∧ k < cs.length := by
  unfold nbB at h
  split at h
  · rename_i hh
    simp only [Bool.and_eq_true, inR, decide_eq_true_eq] at hh
    refine ⟨hh.1, ?_⟩
    have hk := (List.mem_filter.1 h).1
    unfold nearL at hk
    obtain ⟨j, _, hj⟩ := List.mem_filterMap.1 hk
    have := cand_lt hW hj
    omega
  · cases h
theorem iniB_in {W H : Int} {cs : List Int} (i : Int) (h : iniB W H cs i = true) : 0 ≤ i ∧ i < cs.length := by
  unfold iniB inR at h; simp only [Bool.and_eq_true, decide_eq_true_eq] at h; exact h.1
def d0B (W H : Int) (cs : List Int) : Int → Option Way := d0P W H cs cs.length
theorem d0B_eq (W H : Int) (cs : List Int) (i : Int) : d0B W H cs i = if iniB W H cs i then some (cstI cs i, 1) else none := by
  unfold d0B d0P
  cases h : iniB W H cs i with
  | false => simp
  | true => have := iniB_in i h; simp [this.2]
theorem d0_sound {cost : Int → Int} {ini : Int → Bool} {nb : Int → List Int} {d : Int → Option Way} (h : ∀ i, d i = if ini i then some (cost i, 1) else none) : Sound cost ini nb d ∧ Comp cost ini nb 1 d := by
  refine ⟨fun i w hw => ?_, fun i l hl hlen => ?_⟩
  · rw [h] at hw
    split at hw
    · rename_i hi; cases hw; exact ⟨[], hi, by simp [valW, addW]⟩
    · cases hw
  · have : l = [] := List.length_eq_zero_iff.1 (by omega)
    subst this
    have hi : ini i = true := hl
    exact ⟨(cost i, 1), by rw [h, hi]; rfl, by simp [valW, addW, leW]⟩
theorem d0_bnd {cost : Int → Int} {ini : Int → Bool} {d : Int → Option Way} (hc : ∀ i, 0 ≤ cost i ∧ cost i ≤ 100) (h : ∀ i, d i = if ini i then some (cost i, 1) else none) : bndD 1 d := fun i w hw => by
  rw [h] at hw
  split at hw
  · cases hw; have := hc i; simp only; omega
  · cases hw
def itB (W H : Int) (cs : List Int) (t : Nat) : (Int → Option Way) × Bool := iterG (cstI cs) (nbB W H cs) cs.length (d0B W H cs) t
theorem itB_end {W H : Int} {cs : List Int} (h : CO W H cs) : (itB W H cs (cs.length + 1)).2 = false := by
  obtain ⟨h1, h2⟩ := d0_sound (nb := nbB W H cs) (d0B_eq W H cs)
  exact iter_end (fun i => (cst_bd h.cost i).1) iniB_in (nbB_in (by have := h.w; omega) h.len) h1 h2
theorem itB_opt {W H : Int} {cs : List Int} (h : CO W H cs) {t : Nat} (ht : (itB W H cs t).2 = false) : OptD (cstI cs) (iniB W H cs) (nbB W H cs) (itB W H cs t).1 := by
  obtain ⟨h1, h2⟩ := d0_sound (nb := nbB W H cs) (d0B_eq W H cs)
  exact iter_fix (fun i => (cst_bd h.cost i).1) iniB_in (nbB_in (by have := h.w; omega) h.len) h1 h2 ht
theorem itB_bnd {W H : Int} {cs : List Int} (h : CO W H cs) (t : Nat) : bndD (1 + (t * (9 * cs.length) : Nat)) (itB W H cs t).1 :=
  bnd_iter (cst_bd h.cost) (nbB_len W H cs) (d0_bnd (cst_bd h.cost) (d0B_eq W H cs)) t
/-- What the passes come to. -/
def wayB (W H : Int) (cs : List Int) : Int → Option Way := (itB W H cs (cs.length + 1)).1
theorem wayB_opt {W H : Int} {cs : List Int} (h : CO W H cs) : OptD (cstI cs) (iniB W H cs) (nbB W H cs) (wayB W H cs) := itB_opt h (itB_end h)
theorem wayB_bnd {W H : Int} {cs : List Int} (h : CO W H cs) : bndD 100000 (wayB W H cs) := by
  have h1 : (cs.length : Int) ≤ 100 := by
    have := Int.mul_le_mul h.w.2 h.h.2 (by have := h.h; omega) (by omega : (0:Int) ≤ 10)
    have := h.len; omega
  refine (itB_bnd h (cs.length + 1)).mono ?_
  have : (cs.length + 1) * (9 * cs.length) ≤ 101 * 900 := Nat.mul_le_mul (by omega) (by omega)
  omega
theorem itB_wayB {W H : Int} {cs : List Int} (h : CO W H cs) {t : Nat} (ht : (itB W H cs t).2 = false) : (itB W H cs t).1 = wayB W H cs := (itB_opt h ht).unique (wayB_opt h)
end Go.Proofs.Ytbhpnhcdjmcaoaa

/- Boom, plain: the least of the first row, and the way down from it. -/
namespace Go.Proofs.Ytbhpnhcdjmcaoaa
open Go.RowKit
set_option linter.unusedVariables false
set_option linter.unusedSimpArgs false
theorem OptD.next {cost : Int → Int} {ini : Int → Bool} {nb : Int → List Int} {d : Int → Option Way} (h : OptD cost ini nb d) {i : Int} {w : Way} (hw : d i = some w) (h1 : 1 < w.2) : ∃ k ∈ nb i, d k = some (w.1 - cost i, w.2 - 1) := by
  obtain ⟨l, g1, g2⟩ := h.sound i w hw
  match l, g1, g2 with
  | [], g1, g2 => rw [← g2] at h1; simp [valW, addW] at h1
  | k :: r, g1, g2 =>
    refine ⟨k, g1.1, ?_⟩
    obtain ⟨w1, h3, h4⟩ := h.comp k r g1.2
    obtain ⟨l', h5, h6⟩ := h.sound k w1 h3
    obtain ⟨w2, h7, h8⟩ := h.comp i (k :: l') ⟨g1.1, h5⟩
    rw [hw] at h7; cases h7
    have e1 : valW cost (i :: k :: l') = addW (cost i) w1 := by show addW _ (valW cost (k :: l')) = _; rw [h6]
    have e2 : w = addW (cost i) (valW cost (k :: r)) := g2.symm
    rw [e1, e2] at h8
    have h9 : w1 = valW cost (k :: r) := by
      refine leW_anti h4 ?_
      unfold leW addW at h8; unfold leW; simp only at h8; omega
    rw [h3, h9, e2]; simp [addW]
def bestP (d : Int → Option Way) : Nat → Int
  | 0 => -1
  | k + 1 => match d k with
    | none => bestP d k
    | some w => if bestP d k < 0 then k else match d (bestP d k) with
      | none => k
      | some wb => if lessW w wb then k else bestP d k
def BestP (d : Int → Option Way) (k : Nat) : Prop := (bestP d k = -1 ∧ ∀ j : Nat, j < k → d j = none) ∨
  ∃ b : Nat, bestP d k = b ∧ b < k ∧ ∃ wb, d b = some wb ∧ (∀ j : Nat, j < k → ∀ w, d j = some w → leW wb w) ∧ ∀ j : Nat, j < b → ∀ w, d j = some w → ¬ leW w wb
theorem bestP_spec (d : Int → Option Way) : ∀ k, BestP d k
  | 0 => .inl ⟨rfl, fun j hj => by omega⟩
  | k + 1 => by
    have ih := bestP_spec d k
    unfold BestP
    simp only [bestP]
    cases hd : d (k : Int) with
    | none =>
      rcases ih with ⟨h1, h2⟩ | ⟨b, h1, h2, wb, h3, h4, h5⟩
      · refine .inl ⟨h1, fun j hj => ?_⟩
        by_cases hjk : j = k
        · rw [hjk]; exact hd
        · exact h2 j (by omega)
      · refine .inr ⟨b, h1, by omega, wb, h3, fun j hj w hw => ?_, h5⟩
        by_cases hjk : j = k
        · rw [hjk, hd] at hw; cases hw
        · exact h4 j (by omega) w hw
    | some w =>
      rcases ih with ⟨h1, h2⟩ | ⟨b, h1, h2, wb, h3, h4, h5⟩
      · refine .inr ⟨k, by simp [h1], by omega, w, hd, fun j hj v hv => ?_, fun j hj v hv => ?_⟩
        · by_cases hjk : j = k
          · rw [hjk, hd] at hv; cases hv; exact leW_refl _
          · rw [h2 j (by omega)] at hv; cases hv
        · rw [h2 j hj] at hv; cases hv
      · have hb : ¬ ((b : Int) < 0) := by omega
        rw [h1]
        simp only [if_neg hb, h3]
        cases hl : lessW w wb with
        | true =>
          have hl' := lessW_iff.1 hl
          refine .inr ⟨k, by simp, by omega, w, hd, fun j hj v hv => ?_, fun j hj v hv hle => ?_⟩
          · by_cases hjk : j = k
            · rw [hjk, hd] at hv; cases hv; exact leW_refl _
            · exact leW_trans ((leW_total w wb).resolve_right hl') (h4 j (by omega) v hv)
          · exact hl' (leW_trans (h4 j hj v hv) hle)
        | false =>
          have hl' := lessW_false.1 hl
          refine .inr ⟨b, by simp, by omega, wb, h3, fun j hj v hv => ?_, h5⟩
          by_cases hjk : j = k
          · rw [hjk, hd] at hv; cases hv; exact hl'
          · exact h4 j (by omega) v hv
def nextB (W H : Int) (d : Int → Option Way) (i : Int) (rest : Way) : Option Int := (nearL W H true i).find? fun k => decide (d k = some rest) && !decide (k / W = 0)
def pathB (W H : Int) (cs : List Int) (d : Int → Option Way) : Nat → Int → List Int
  | 0, i => [i]
  | f + 1, i => match d i with
    | none => [i]
    | some w => if w.2 > 1 then (match nextB W H d i (w.1 - cstI cs i, w.2 - 1) with
      | none => [i]
      | some k => i :: pathB W H cs d f k) else [i]
/-- The barrier, and what it costs. -/
def barO (W H : Int) (cs : List Int) : Option (List Int × Way) :=
  match wayB W H cs (bestP (wayB W H cs) W.toNat) with
  | none => none
  | some w => some (pathB W H cs (wayB W H cs) w.2.toNat (bestP (wayB W H cs) W.toNat), w)
theorem wayB_dom {W H : Int} {cs : List Int} (h : CO W H cs) {i : Int} {w : Way} (hw : wayB W H cs i = some w) : 0 ≤ i ∧ i < cs.length := by
  obtain ⟨l, h1, _⟩ := (wayB_opt h).sound i w hw
  exact walk_rng (n := cs.length) iniB_in (nbB_in (by have := h.w; omega) h.len) h1 i (by simp)
theorem nbB_mem {W H : Int} {cs : List Int} {i k : Int} (h : k ∈ nbB W H cs i) : k ∈ nearL W H true i ∧ ¬ k / W = 0 := by
  unfold nbB at h
  split at h
  · have := List.mem_filter.1 h; simpa using this
  · cases h
theorem nextB_some {W H : Int} {cs : List Int} (h : CO W H cs) {i : Int} {w : Way} (hw : wayB W H cs i = some w) (h1 : 1 < w.2) : ∃ k, nextB W H (wayB W H cs) i (w.1 - cstI cs i, w.2 - 1) = some k ∧ wayB W H cs k = some (w.1 - cstI cs i, w.2 - 1) := by
  obtain ⟨k, hk, hd⟩ := (wayB_opt h).next hw h1
  obtain ⟨hk1, hk2⟩ := nbB_mem hk
  cases hf : nextB W H (wayB W H cs) i (w.1 - cstI cs i, w.2 - 1) with
  | none =>
    have := List.find?_eq_none.1 hf k hk1
    simp [hd, hk2] at this
  | some k' =>
    have := List.find?_some hf
    simp only [Bool.and_eq_true, decide_eq_true_eq] at this
    exact ⟨k', rfl, this.1⟩
theorem find_first {l pre post : List Int} {k : Int} {p : Int → Bool} (h : l = pre ++ k :: post) (hp : ∀ x ∈ pre, p x = false) (hk : p k = true) : l.find? p = some k := by
  subst h
  rw [List.find?_append]
  have : pre.find? p = none := List.find?_eq_none.2 (fun x hx => by simp [hp x hx])
  rw [this]; simp [hk]
end Go.Proofs.Ytbhpnhcdjmcaoaa

/- Boom: the ways down to the last row. -/
namespace Go.Proofs.Ytbhpnhcdjmcaoaa
open Go.RowKit
set_option linter.unusedVariables false
set_option linter.unusedSimpArgs false
set_option maxRecDepth 10000 in
set_option maxHeartbeats 8000000 in
theorem below_spec (W H : Int) (cs : List Int) (hok : CO W H cs) :
    Spec Try.prog 99 [chV W H cs.length] [⟨0, .ro 0, cs.map C.i⟩] 2 (fun v L' _ => ∃ l, v = V.c (.mp l) ∧ find L' l = some ⟨l, .mp true .int (wayF (wayB W H cs)), []⟩) := by
  have hlm : (cs.map C.i).length = cs.length := by simp
  obtain ⟨hW, hH, hcl, hcost⟩ := hok
  have hok : CO W H cs := ⟨hW, hH, hcl, hcost⟩
  have hn : (cs.length : Int) ≤ 100 := by have := Int.mul_le_mul hW.2 hH.2 (by omega) (by omega : (0:Int) ≤ 10); omega
  have hcb := cst_bd hcost
  refine Spec.of tok Try.func99 rfl rfl rfl fun n0 cx => vc_ok tok ?_
  repeat ((conv => whnf); first | (refine And.intro (by first | omega | exact Nat.le_of_ble_eq_true rfl) ?_) | refine Exists.intro _ (And.intro rfl ?_) | refine fun (K' : K3) hK' => ?_ | (refine hK' _ _ _ ?_; clear hK' K'))
  refine Tri.loop (γ := Nat) (fun k => k ≤ cs.length) (fun k => [(1, V.c (.ptr 2 0)), (3, V.c (.ptr 4 0)), (16, V.i cs.length), (17, V.i (k : Nat))])
    (fun k => [⟨4, .own 112, [.mp 3]⟩, ⟨3, .mp true .int (wayF (d0P W H cs k)), []⟩, ⟨2, .own 65, [C.i W, C.i H, .sl 0 cs.length, .mp 1]⟩, ⟨0, .ro 0, cs.map C.i⟩]) 5 (fun k => cs.length - k) 0 (R0 := []) ?_ ?_ ?_
  · omega
  · skip
    refine ⟨?_, ?_, rfl, rfl, by exact Nat.le_of_ble_eq_true rfl⟩
    · repeat (first | exact trivial | (refine And.intro (covS_syn (by rfl) rfl (by first | exact trivial | exact Nat.le_of_ble_eq_true rfl)) ?_))
    · repeat (first | exact trivial | refine And.intro (covE_mp rfl (Nat.le_of_ble_eq_true rfl) rfl (d0P_zero W H cs)) ?_ | (refine And.intro (covE_id (Nat.le_of_ble_eq_true rfl) (by first | exact wf_ints _ _ | simp [C.wf]) rfl (by rfl)) ?_))
  · intro k hk
    refine vc_ok tok ?_
    by_cases hlt : k < cs.length
    · have hini : iniB W H cs (k : Int) = (decide (cs.getD k 0 ≠ 0) && decide ((k : Int) / W = H - 1)) := by
        simp only [iniB, inR, hldI, Int.toNat_natCast]; rw [show decide (0 ≤ (k : Int) ∧ (k : Int) < (cs.length : Int)) = true from decide_eq_true (by omega), Bool.true_and]
      have hr := row_spec W H cs.length (k : Int) (H - 1) (by omega) (by omega) (by omega)
      have hh := holds_spec W H cs k hlt
      have hc := cost_spec W H cs k hlt
      have hck : cstI cs (k : Int) = if cs.getD k 0 > 0 then cs.getD k 0 else 0 := by simp [cstI]
      obtain ⟨ck, hcke⟩ : ∃ x, x = cs.getD k 0 := ⟨_, rfl⟩
      rw [← hcke] at hini hh hc hck
      by_cases h1 : ck ≠ 0
      · by_cases h2 : (k : Int) / W = H - 1
        · repeat ((conv => whnf); first | (refine And.intro (by first | omega | exact Nat.le_of_ble_eq_true rfl | (dsimp only [inK]; omega)) ?_) | refine Exists.intro _ (And.intro rfl ?_) | refine br_t (by omega) ?_ | refine fun (K' : K3) hK' => ?_ | (refine hK' _ _ _ ?_; clear hK' K') | refine draw_auto tok mixed (by kernel_rfl) ?_ | refine CallK.val (R := []) hh (by kernel_rfl) rfl (by simp [V.wf, A.wf, C.wf]) ⟨roE_id (by omega) (wf_ints _ _) rfl (.inl rfl) rfl, trivial⟩ rfl rfl trivial ?_ | refine CallK.val (R := []) hr (by kernel_rfl) rfl (by simp [V.wf, A.wf, C.wf]) trivial rfl rfl trivial ?_ | refine HD_mk (fun _ h => CallK.val (R := []) hc (by kernel_rfl) rfl (by simp [V.wf, A.wf, C.wf]) ⟨roE_id (by omega) (wf_ints _ _) rfl (.inl rfl) rfl, trivial⟩ rfl rfl trivial h) ?_ | refine CallK.m ?_)
          refine ⟨k + 1, [], by omega, by omega, ?_⟩
          have hm : updF (wayF (d0P W H cs k)) [(k : Int)] (.w [if ck > 0 then ck else 0, 1]) = wayF (d0P W H cs (k + 1)) := by
            rw [wayF_upd, d0P_put (by rw [hini]; simp [h1, h2]), hck]
          refine ⟨?_, ?_, rfl, rfl, by exact Nat.le_of_ble_eq_true rfl⟩
          · repeat (first | exact trivial | (refine And.intro (covS_syn (by rfl) rfl (by first | exact trivial | exact Nat.le_of_ble_eq_true rfl)) ?_))
          · repeat (first | exact trivial | refine And.intro (covE_mp rfl (Nat.le_of_ble_eq_true rfl) rfl hm) ?_ | (refine And.intro (covE_id (Nat.le_of_ble_eq_true rfl) (by first | exact wf_ints _ _ | simp [C.wf]) rfl (by rfl)) ?_))
        · repeat ((conv => whnf); first | (refine And.intro (by first | omega | exact Nat.le_of_ble_eq_true rfl | (dsimp only [inK]; omega)) ?_) | refine Exists.intro _ (And.intro rfl ?_) | refine br_t (by omega) ?_ | refine br_f (by omega) ?_ | refine fun (K' : K3) hK' => ?_ | (refine hK' _ _ _ ?_; clear hK' K') | refine CallK.val (R := []) hh (by kernel_rfl) rfl (by simp [V.wf, A.wf, C.wf]) ⟨roE_id (by omega) (wf_ints _ _) rfl (.inl rfl) rfl, trivial⟩ rfl rfl trivial ?_ | refine CallK.val (R := []) hr (by kernel_rfl) rfl (by simp [V.wf, A.wf, C.wf]) trivial rfl rfl trivial ?_ | refine CallK.m ?_)
          refine ⟨k + 1, [], by omega, by omega, ?_⟩
          refine ⟨?_, ?_, rfl, rfl, by exact Nat.le_of_ble_eq_true rfl⟩
          · repeat (first | exact trivial | (refine And.intro (covS_syn (by rfl) rfl (by first | exact trivial | exact Nat.le_of_ble_eq_true rfl)) ?_))
          · repeat (first | exact trivial | (refine And.intro (covE_mp rfl (Nat.le_of_ble_eq_true rfl) rfl (congrArg wayF (d0P_skip (by rw [hini]; simp [h2])).symm)) ?_) | (refine And.intro (covE_id (Nat.le_of_ble_eq_true rfl) (by first | exact wf_ints _ _ | simp [C.wf]) rfl (by rfl)) ?_))
      · repeat ((conv => whnf); first | (refine And.intro (by first | omega | (dsimp only [inK]; omega)) ?_) | refine Exists.intro _ (And.intro rfl ?_) | refine br_t (by omega) ?_ | refine br_f (by omega) ?_ | refine fun (K' : K3) hK' => ?_ | (refine hK' _ _ _ ?_; clear hK' K') | refine CallK.val (R := []) hh (by kernel_rfl) rfl (by simp [V.wf, A.wf, C.wf]) ⟨roE_id (by omega) (wf_ints _ _) rfl (.inl rfl) rfl, trivial⟩ rfl rfl trivial ?_ | refine CallK.m ?_)
        refine ⟨k + 1, [], by omega, by omega, ?_⟩
        refine ⟨?_, ?_, rfl, rfl, by exact Nat.le_of_ble_eq_true rfl⟩
        · repeat (first | exact trivial | (refine And.intro (covS_syn (by rfl) rfl (by first | exact trivial | exact Nat.le_of_ble_eq_true rfl)) ?_))
        · repeat (first | exact trivial | (refine And.intro (covE_mp rfl (Nat.le_of_ble_eq_true rfl) rfl (congrArg wayF (d0P_skip (by rw [hini]; simp [h1])).symm)) ?_) | (refine And.intro (covE_id (Nat.le_of_ble_eq_true rfl) (by first | exact wf_ints _ _ | simp [C.wf]) rfl (by rfl)) ?_))
    · have hkn : k = cs.length := by omega
      subst hkn
      repeat ((conv => whnf); first | (refine And.intro (by first | omega | exact Nat.le_of_ble_eq_true rfl) ?_) | refine br_f (by omega) ?_ | refine fun (K' : K3) hK' => ?_ | (refine hK' _ _ _ ?_; clear hK' K'))
      refine Tri.loop (γ := Nat) (fun t => t ≤ cs.length ∨ (itB W H cs t).2 = false ∧ t ≤ cs.length + 1) (fun t => [(1, V.c (.ptr 2 0)), (3, V.c (.ptr 4 0)), (5, V.c (.ptr 5 0))])
        (fun t => [⟨5, .own 4, [.bool (itB W H cs t).2]⟩, ⟨4, .own 112, [.mp 3]⟩, ⟨3, .mp true .int (wayF (itB W H cs t).1), []⟩, ⟨2, .own 65, [C.i W, C.i H, .sl 0 cs.length, .mp 1]⟩, ⟨0, .ro 0, cs.map C.i⟩]) 6 (fun t => cs.length + 1 - t) 0 (R0 := []) ?_ ?_ ?_
      · exact .inl (Nat.zero_le _)
      · skip
        refine ⟨?_, ?_, rfl, rfl, by exact Nat.le_of_ble_eq_true rfl⟩
        · repeat (first | exact trivial | refine And.intro (covS_syn (by rfl) rfl (by exact Nat.le_of_ble_eq_true rfl)) ?_)
        · repeat (first | exact trivial | refine And.intro (covE_b1 (Nat.le_of_ble_eq_true rfl) rfl rfl rfl) ?_ | refine And.intro (covE_mp rfl (Nat.le_of_ble_eq_true rfl) rfl rfl) ?_ | (refine And.intro (covE_id (Nat.le_of_ble_eq_true rfl) (by first | exact wf_ints _ _ | simp [C.wf]) rfl (by rfl)) ?_))
      · intro t ht
        refine vc_ok tok ?_
        cases hch : (itB W H cs t).2 with
        | false =>
          have hfin := itB_wayB hok hch
          repeat ((conv => whnf); first | refine Exists.intro _ (And.intro rfl ?_) | refine fun (K' : K3) hK' => ?_ | (refine hK' _ _ _ ?_; clear hK' K') | refine br_bf (Eq.refl false) ?_)
          exact congrArg (fun x => some (⟨3, .mp true .int (wayF x), []⟩ : E)) hfin
        | true =>
          have ht' : t ≤ cs.length := by
            rcases ht with h | ⟨h, _⟩
            · exact h
            · rw [hch] at h; cases h
          have hbnd0 := itB_bnd hok t
          have htm : t * (9 * cs.length) ≤ 100 * 900 := Nat.mul_le_mul (by omega) (by omega)
          obtain ⟨d, hd⟩ : ∃ d, d = (itB W H cs t).1 := ⟨_, rfl⟩
          obtain ⟨ps, hps⟩ : ∃ ps : Nat → (Int → Option Way) × Bool, ps = fun k => passG (cstI cs) (nbB W H cs) d k := ⟨_, rfl⟩
          have hps0 : ps 0 = (d, false) := by rw [hps]; rfl
          have hpsn : ps cs.length = itB W H cs (t + 1) := by rw [hps, hd]; rfl
          have hpsb : ∀ k, k ≤ cs.length → bndD 92000 (ps k).1 := fun k hk => by
            rw [hps]
            refine (bnd_pass hcb (nbB_len W H cs) (hd ▸ hbnd0) k).mono ?_
            omega
          have hpss : ∀ k, ps (k + 1) = roundG (cstI cs) (nbB W H cs) (ps k) (k : Int) := fun k => by rw [hps]; exact passG_succ _ _ _ _
          rw [← hd]
          clear hps hd hbnd0 ht hch
          repeat ((conv => whnf); first | (refine And.intro (by first | omega | exact Nat.le_of_ble_eq_true rfl) ?_) | refine Exists.intro _ (And.intro rfl ?_) | refine fun (K' : K3) hK' => ?_ | (refine hK' _ _ _ ?_; clear hK' K') | refine br_bt (Eq.refl true) ?_)
          refine Tri.loop (γ := Nat) (fun k => k ≤ cs.length) (fun k => [(1, V.c (.ptr 2 0)), (3, V.c (.ptr 4 0)), (5, V.c (.ptr 5 0)), (43, V.i cs.length), (44, V.i (k : Nat))])
            (fun k => [⟨5, .own 4, [.bool (ps k).2]⟩, ⟨4, .own 112, [.mp 3]⟩, ⟨3, .mp true .int (wayF (ps k).1), []⟩, ⟨2, .own 65, [C.i W, C.i H, .sl 0 cs.length, .mp 1]⟩, ⟨0, .ro 0, cs.map C.i⟩]) 6 (fun k => cs.length - k) 0 (R0 := []) ?_ ?_ ?_
          · omega
          · skip
            refine ⟨?_, ?_, rfl, rfl, by exact Nat.le_of_ble_eq_true rfl⟩
            · repeat (first | exact trivial | (refine And.intro (covS_syn (by rfl) rfl (by first | exact trivial | exact Nat.le_of_ble_eq_true rfl)) ?_))
            · repeat (first | exact trivial | refine And.intro (covE_b1 (Nat.le_of_ble_eq_true rfl) rfl rfl (congrArg Prod.snd hps0).symm) ?_ | refine And.intro (covE_mp rfl (Nat.le_of_ble_eq_true rfl) rfl (congrArg (fun x => wayF x.1) hps0).symm) ?_ | (refine And.intro (covE_id (Nat.le_of_ble_eq_true rfl) (by first | exact wf_ints _ _ | simp [C.wf]) rfl (by rfl)) ?_))
          · intro k hk
            refine vc_ok tok ?_
            by_cases hlt : k < cs.length
            · have hr := row_spec W H cs.length (k : Int) (H - 1) (by omega) (by omega) (by omega)
              have hh := holds_spec W H cs k hlt
              have hc := cost_spec W H cs k hlt
              have hg : (inR cs (k : Int) && (hldI cs (k : Int) && !decide ((k : Int) / W = H - 1))) = (decide (cs.getD k 0 ≠ 0) && !decide ((k : Int) / W = H - 1)) := by
                simp only [inR, hldI, Int.toNat_natCast]; rw [show decide (0 ≤ (k : Int) ∧ (k : Int) < (cs.length : Int)) = true from decide_eq_true (by omega), Bool.true_and]
              have hck : cstI cs (k : Int) = if cs.getD k 0 > 0 then cs.getD k 0 else 0 := by simp [cstI]
              obtain ⟨ck, hcke⟩ : ∃ x, x = cs.getD k 0 := ⟨_, rfl⟩
              rw [← hcke] at hg hh hc hck
              by_cases h1 : ck ≠ 0
              · by_cases h2 : (k : Int) / W = H - 1
                · repeat ((conv => whnf); first | (refine And.intro (by first | omega | exact Nat.le_of_ble_eq_true rfl | (dsimp only [inK]; omega)) ?_) | refine Exists.intro _ (And.intro rfl ?_) | refine br_t (by omega) ?_ | refine fun (K' : K3) hK' => ?_ | (refine hK' _ _ _ ?_; clear hK' K') | refine CallK.val (R := []) hh (by kernel_rfl) rfl (by simp [V.wf, A.wf, C.wf]) ⟨roE_id (by omega) (wf_ints _ _) rfl (.inl rfl) rfl, trivial⟩ rfl rfl trivial ?_ | refine bs_bf (by simp [h1]) ?_ | refine CallK.val (R := []) hr (by kernel_rfl) rfl (by simp [V.wf, A.wf, C.wf]) trivial rfl rfl trivial ?_ | refine CallK.m ?_)
                  refine ⟨k + 1, [], by omega, by omega, ?_⟩
                  have hst : ps (k + 1) = ps k := by rw [hpss]; exact relB_skip (by rw [hg]; simp [h2]) _
                  refine ⟨?_, ?_, rfl, rfl, by exact Nat.le_of_ble_eq_true rfl⟩
                  · repeat (first | exact trivial | (refine And.intro (covS_syn (by rfl) rfl (by first | exact trivial | exact Nat.le_of_ble_eq_true rfl)) ?_))
                  · repeat (first | exact trivial | refine And.intro (covE_b1 (Nat.le_of_ble_eq_true rfl) rfl rfl (congrArg Prod.snd hst).symm) ?_ | refine And.intro (covE_mp rfl (Nat.le_of_ble_eq_true rfl) rfl (congrArg (fun x => wayF x.1) hst).symm) ?_ | (refine And.intro (covE_id (Nat.le_of_ble_eq_true rfl) (by first | exact wf_ints _ _ | simp [C.wf]) rfl (by rfl)) ?_))
                · have hgt : (inR cs (k : Int) && (hldI cs (k : Int) && !decide ((k : Int) / W = H - 1))) = true := by rw [hg]; simp [h1, h2]
                  have hW0 : 0 < W := by omega
                  have hx0 : 0 ≤ (k : Int) % W := Int.emod_nonneg _ (by omega)
                  have hx1 : (k : Int) % W < W := Int.emod_lt_of_pos _ (by omega)
                  have hy0 : 0 ≤ (k : Int) / W := Int.ediv_nonneg (by omega) (by omega)
                  have hy1 : (k : Int) / W ≤ 100 := Int.le_trans (Int.ediv_le_self _ (by omega)) (by omega)
                  obtain ⟨fd, hfd⟩ : ∃ fd : Nat → (Int → Option Way) × Bool, fd = foldC (relB W cs (k : Int)) W H true (k : Int) (ps k) := ⟨_, rfl⟩
                  have hfd0 : fd 0 = ps k := by rw [hfd]; rfl
                  have hfd9 : fd 9 = ps (k + 1) := by rw [hfd, relB_round hgt, ← hpss]
                  have hfdb : ∀ j, j ≤ 9 → bndD 93000 (fd j).1 := fun j hj => by rw [hfd]; exact (bnd_relB hcb (hpsb k hk) (k : Int) j).mono (by omega)
                  repeat ((conv => whnf); first | (refine And.intro (by first | omega | exact Nat.le_of_ble_eq_true rfl | (dsimp only [inK]; omega)) ?_) | refine Exists.intro _ (And.intro rfl ?_) | refine br_t (by omega) ?_ | refine br_f (by omega) ?_ | refine fun (K' : K3) hK' => ?_ | (refine hK' _ _ _ ?_; clear hK' K') | refine CallK.val (R := []) hh (by kernel_rfl) rfl (by simp [V.wf, A.wf, C.wf]) ⟨roE_id (by omega) (wf_ints _ _) rfl (.inl rfl) rfl, trivial⟩ rfl rfl trivial ?_ | refine bs_bf (by simp [h1]) ?_ | refine CallK.val (R := []) hr (by kernel_rfl) rfl (by simp [V.wf, A.wf, C.wf]) trivial rfl rfl trivial ?_ | refine CallK.fresh (by kernel_rfl) (near_spec _ _ _ _) rfl ?_ | refine CallK.m ?_)
                  refine Tri.rangeFunc tok (by exact rfl) (by kernel_rfl) (by exact rfl) (by exact rfl) (by exact rfl) (by exact rfl) (by exact rfl) (by exact rfl) ?_
                  intro y cxi oo ob od hy hY
                  refine vc_ok tok ?_
                  repeat ((conv => whnf); first | (refine And.intro (by first | omega | exact Nat.le_of_ble_eq_true rfl) ?_) | refine Exists.intro _ (And.intro rfl ?_) | refine fun (K' : K3) hK' => ?_ | (refine hK' _ _ _ ?_; clear hK' K') | refine CallK.val (R := []) (cell_spec W H cs.length (k : Int) (by omega) (by omega) (by omega)) (by kernel_rfl) rfl (by simp [V.wf, A.wf, C.wf]) trivial rfl rfl (by simp [V.wf, A.wf, C.wf]) ?_ | refine CallK.m ?_)
                  refine Tri.loop (γ := Nat) (fun a => a ≤ 3) (fun a => [(0, V.c (.v y)), (1, V.c (.ptr 7 0)), (2, V.c (.ptr 8 0)), (3, V.c (.ptr 9 0)), (5, V.c (.ptr 11 0)), (6, V.i ((a : Int) - 1))])
                    (fun a => [⟨11, .own 57, [C.i ((k : Int) % W), C.i ((k : Int) / W)]⟩, ⟨10, .obj oo, []⟩, ⟨9, .own 4, [.tt]⟩, ⟨8, .own 3, [C.i (k : Int)]⟩, ⟨7, .own 65, [C.i W, C.i H, .sl 0 cs.length, .mp 1]⟩, ⟨6, .own 3, [C.i (k : Int)]⟩, ⟨5, .own 4, [.bool (fd (3 * a)).2]⟩, ⟨4, .own 112, [.mp 3]⟩, ⟨3, .mp true .int (wayF (fd (3 * a)).1), []⟩, ⟨2, .own 65, [C.i W, C.i H, .sl 0 cs.length, .mp 1]⟩, ⟨0, .ro 0, cs.map C.i⟩]) 12 (fun a => 3 - a) 0 (R0 := []) ?_ ?_ ?_
                  · omega
                  · skip
                    refine ⟨?_, ?_, rfl, rfl, by exact Nat.le_of_ble_eq_true rfl⟩
                    · repeat (first | exact trivial | (refine And.intro (covS_syn (by rfl) rfl (by first | exact trivial | exact Nat.le_of_ble_eq_true rfl | exact hy)) ?_))
                    · repeat (first | exact trivial | refine And.intro (covE_b1 (Nat.le_of_ble_eq_true rfl) rfl rfl (congrArg Prod.snd hfd0).symm) ?_ | refine And.intro (covE_mp rfl (Nat.le_of_ble_eq_true rfl) rfl (congrArg (fun x => wayF x.1) hfd0).symm) ?_ | (refine And.intro (covE_id (Nat.le_of_ble_eq_true rfl) (by first | exact wf_ints _ _ | simp [C.wf]) rfl (by rfl)) ?_))
                  · intro a ha
                    refine vc_ok tok ?_
                    by_cases ha3 : a < 3
                    · repeat ((conv => whnf); first | refine br_t (by omega) ?_ | refine fun (K' : K3) hK' => ?_ | (refine hK' _ _ _ ?_; clear hK' K'))
                      refine Tri.loop (γ := Nat) (fun b => b ≤ 3) (fun b => [(0, V.c (.v y)), (1, V.c (.ptr 7 0)), (2, V.c (.ptr 8 0)), (3, V.c (.ptr 9 0)), (5, V.c (.ptr 11 0)), (6, V.i ((a : Int) - 1)), (7, V.i ((b : Int) - 1))])
                        (fun b => [⟨11, .own 57, [C.i ((k : Int) % W), C.i ((k : Int) / W)]⟩, ⟨10, .obj oo, []⟩, ⟨9, .own 4, [.tt]⟩, ⟨8, .own 3, [C.i (k : Int)]⟩, ⟨7, .own 65, [C.i W, C.i H, .sl 0 cs.length, .mp 1]⟩, ⟨6, .own 3, [C.i (k : Int)]⟩, ⟨5, .own 4, [.bool (fd (3 * a + b)).2]⟩, ⟨4, .own 112, [.mp 3]⟩, ⟨3, .mp true .int (wayF (fd (3 * a + b)).1), []⟩, ⟨2, .own 65, [C.i W, C.i H, .sl 0 cs.length, .mp 1]⟩, ⟨0, .ro 0, cs.map C.i⟩]) 12 (fun b => 3 - b) 0 (R0 := []) ?_ ?_ ?_
                      · omega
                      · skip
                        refine ⟨?_, ?_, rfl, rfl, by exact Nat.le_of_ble_eq_true rfl⟩
                        · repeat (first | exact trivial | (refine And.intro (covS_syn (by rfl) rfl (by first | exact trivial | exact Nat.le_of_ble_eq_true rfl | exact hy)) ?_))
                        · repeat (first | exact trivial | (refine And.intro (covE_id (Nat.le_of_ble_eq_true rfl) (by first | exact wf_ints _ _ | simp [C.wf]) rfl (by rfl)) ?_))
                      · intro b hb
                        refine vc_ok tok ?_
                        by_cases hb3 : b < 3
                        · by_cases hs : b = 1 ∧ a = 1
                          · have hst : fd (3 * a + (b + 1)) = fd (3 * a + b) := by rw [hfd]; exact foldC_none hb3 (cand_skip (.inl hs))
                            obtain ⟨hb1, ha1⟩ := hs
                            repeat ((conv => whnf); first | (refine And.intro (by first | omega | (dsimp only [inK]; omega)) ?_) | refine br_t (by omega) ?_ | refine bs_t (by omega) ?_ | refine fun (K' : K3) hK' => ?_ | (refine hK' _ _ _ ?_; clear hK' K'))
                            refine ⟨b + 1, [], by omega, by omega, ?_⟩
                            refine ⟨?_, ?_, rfl, rfl, by exact Nat.le_of_ble_eq_true rfl⟩
                            · repeat (first | exact trivial | (refine And.intro (covS_syn (by first | rfl | (refine congrArg some (congrArg V.i ?_); omega)) rfl (by first | exact trivial | exact Nat.le_of_ble_eq_true rfl | exact hy)) ?_))
                            · repeat (first | exact trivial | refine And.intro (covE_b1 (Nat.le_of_ble_eq_true rfl) rfl rfl (congrArg Prod.snd hst).symm) ?_ | refine And.intro (covE_mp rfl (Nat.le_of_ble_eq_true rfl) rfl (congrArg (fun x => wayF x.1) hst).symm) ?_ | (refine And.intro (covE_id (Nat.le_of_ble_eq_true rfl) (by first | exact wf_ints _ _ | simp [C.wf]) rfl (by rfl)) ?_))
                          · have hns : ¬ ((b = 1 ∧ a = 1) ∨ (true = false ∧ b ≠ 1 ∧ a ≠ 1)) := by
                              rintro (h | ⟨h, _⟩)
                              · exact hs h
                              · cases h
                            have hcase : (b = 1 ∧ a ≠ 1) ∨ b ≠ 1 := by omega
                            obtain ⟨kk, hkk⟩ : ∃ kk, kk = idxI W H ((k : Int) % W + ((b : Int) - 1)) ((k : Int) / W + ((a : Int) - 1)) := ⟨_, rfl⟩
                            have hst0 : kk ≥ 0 → fd (3 * a + (b + 1)) = relB W cs (k : Int) (fd (3 * a + b)) kk := fun h => by rw [hfd, hkk]; exact foldC_some hb3 (cand_in hns (by rw [← hkk]; exact h))
                            have hst1 : ¬ kk ≥ 0 → fd (3 * a + (b + 1)) = fd (3 * a + b) := fun h => by rw [hfd]; exact foldC_none hb3 (cand_out (by rw [← hkk]; exact h))
                            have hk100 : kk ≤ 100 := by
                              by_cases hq : kk ≥ 0
                              · have := (idxI_lt hW0 (hkk ▸ hq)).1; omega
                              · omega
                            have hix := index_spec W H cs.length ((k : Int) % W + ((b : Int) - 1)) ((k : Int) / W + ((a : Int) - 1)) (by omega) (by omega)
                            rw [← hkk] at hix
                            have hbd := hfdb (3 * a + b) (by omega)
                            obtain ⟨fb, hfb⟩ : ∃ fb, fb = fd (3 * a + b) := ⟨_, rfl⟩
                            rw [← hfb] at hst0 hst1 hbd
                            rw [← hfb]
                            by_cases hin2 : kk ≥ 0
                            · have hst := hst0 hin2
                              have hrk := row_spec W H cs.length kk 0 (by omega) hin2 (by omega)
                              cases hdk : fb.1 kk with
                              | none =>
                                  have hst2 : fd (3 * a + (b + 1)) = fb := by rw [hst]; unfold relB relG; rw [hdk]; split <;> rfl
                                  rcases hcase with ⟨q1, q2⟩ | q1
                                  all_goals
                                    repeat ((conv => whnf); first | (refine And.intro (by first | omega | exact Nat.le_of_ble_eq_true rfl | (dsimp only [inK]; omega)) ?_) | refine Exists.intro _ (And.intro rfl ?_) | refine br_t (by omega) ?_ | refine br_f (by omega) ?_ | refine bs_f (by omega) ?_ | refine fun (K' : K3) hK' => ?_ | (refine hK' _ _ _ ?_; clear hK' K') | refine CallK.val (R := []) hix (by kernel_rfl) rfl (by simp [V.wf, A.wf, C.wf]) trivial rfl rfl trivial ?_ | refine CallK.m ?_)
                                    refine hY _ _ _ _ (Nat.le_of_ble_eq_true rfl) rfl ⟨rfl, trivial⟩ ?_
                                    intro cxb hcx
                                    refine vc_ok tok ?_
                                    repeat ((conv => whnf); first | refine fun (K' : K3) hK' => ?_ | (refine hK' _ _ _ ?_; clear hK' K') | refine And.intro (Eq.refl oo) ?_)
                                    refine vc_ok tok ?_
                                    repeat ((conv => whnf); first | (refine And.intro (by first | omega | exact Nat.le_of_ble_eq_true rfl | (dsimp only [inK]; omega)) ?_) | with_reducible refine lkm (wayF_none hdk) ?_ | refine Exists.intro _ (And.intro rfl ?_) | refine fun (K' : K3) hK' => ?_ | (refine hK' _ _ _ ?_; clear hK' K') | refine And.intro (Eq.refl ob) ?_)
                                    refine ⟨b + 1, [], by omega, by omega, ?_⟩
                                    refine ⟨?_, ?_, rfl, rfl, by exact Nat.le_of_ble_eq_true rfl⟩
                                    · repeat (first | exact trivial | (refine And.intro (covS_syn (by first | rfl | (refine congrArg some (congrArg V.i ?_); omega)) rfl (by first | exact trivial | exact Nat.le_of_ble_eq_true rfl | exact hy)) ?_))
                                    · repeat (first | exact trivial | refine And.intro (covE_b1 (Nat.le_of_ble_eq_true rfl) rfl rfl (congrArg Prod.snd hst2).symm) ?_ | refine And.intro (covE_mp rfl (Nat.le_of_ble_eq_true rfl) rfl (congrArg (fun x => wayF x.1) hst2).symm) ?_ | (refine And.intro (covE_id (Nat.le_of_ble_eq_true rfl) (by first | exact wf_ints _ _ | simp [C.wf]) rfl (by rfl)) ?_))
                              | some w =>
                                have hwb := hbd kk w hdk
                                by_cases hr0 : kk / W = 0
                                · have hst2 : fd (3 * a + (b + 1)) = fb := by rw [hst]; unfold relB; rw [if_pos hr0]
                                  skip
                                  rcases hcase with ⟨q1, q2⟩ | q1
                                  all_goals
                                    repeat ((conv => whnf); first | (refine And.intro (by first | omega | exact Nat.le_of_ble_eq_true rfl | (dsimp only [inK]; omega)) ?_) | refine Exists.intro _ (And.intro rfl ?_) | refine br_t (by omega) ?_ | refine br_f (by omega) ?_ | refine bs_f (by omega) ?_ | refine fun (K' : K3) hK' => ?_ | (refine hK' _ _ _ ?_; clear hK' K') | refine CallK.val (R := []) hix (by kernel_rfl) rfl (by simp [V.wf, A.wf, C.wf]) trivial rfl rfl trivial ?_ | refine CallK.m ?_)
                                    refine hY _ _ _ _ (Nat.le_of_ble_eq_true rfl) rfl ⟨rfl, trivial⟩ ?_
                                    intro cxb hcx
                                    refine vc_ok tok ?_
                                    repeat ((conv => whnf); first | refine fun (K' : K3) hK' => ?_ | (refine hK' _ _ _ ?_; clear hK' K') | refine And.intro (Eq.refl oo) ?_)
                                    refine vc_ok tok ?_
                                    repeat ((conv => whnf); first | (refine And.intro (by first | omega | exact Nat.le_of_ble_eq_true rfl | (dsimp only [inK]; omega)) ?_) | with_reducible refine lkm (wayF_some hdk) ?_ | refine Exists.intro _ (And.intro rfl ?_) | refine br_t (by omega) ?_ | refine fun (K' : K3) hK' => ?_ | (refine hK' _ _ _ ?_; clear hK' K') | refine CallK.val (R := []) hrk (by kernel_rfl) rfl (by simp [V.wf, A.wf, C.wf]) trivial rfl rfl trivial ?_ | refine And.intro (Eq.refl ob) ?_ | refine CallK.m ?_)
                                    refine ⟨b + 1, [], by omega, by omega, ?_⟩
                                    refine ⟨?_, ?_, rfl, rfl, by exact Nat.le_of_ble_eq_true rfl⟩
                                    · repeat (first | exact trivial | (refine And.intro (covS_syn (by first | rfl | (refine congrArg some (congrArg V.i ?_); omega)) rfl (by first | exact trivial | exact Nat.le_of_ble_eq_true rfl | exact hy)) ?_))
                                    · repeat (first | exact trivial | refine And.intro (covE_b1 (Nat.le_of_ble_eq_true rfl) rfl rfl (congrArg Prod.snd hst2).symm) ?_ | refine And.intro (covE_mp rfl (Nat.le_of_ble_eq_true rfl) rfl (congrArg (fun x => wayF x.1) hst2).symm) ?_ | (refine And.intro (covE_id (Nat.le_of_ble_eq_true rfl) (by first | exact wf_ints _ _ | simp [C.wf]) rfl (by rfl)) ?_))
                                · have hcc := hck
                                  have hcn := hcb (k : Int)
                                  rw [hcc] at hcn
                                  obtain ⟨cc, hcce⟩ : ∃ cc, cc = if ck > 0 then ck else 0 := ⟨_, rfl⟩
                                  rw [← hcce] at hcc hcn
                                  have hc' := hc
                                  rw [← hcce] at hc'
                                  cases hdi : fb.1 (k : Int) with
                                  | none =>
                                      have hst2 : fd (3 * a + (b + 1)) = (updD fb.1 (k : Int) (w.1 + cc, w.2 + 1), true) := by rw [hst]; unfold relB relG; rw [if_neg hr0, hdk]; simp only [hdi, addW, hcc]
                                      have hm : updF (wayF fb.1) [(k : Int)] (.w [w.1 + cc, w.2 + 1]) = wayF (fd (3 * a + (b + 1))).1 := by rw [hst2, wayF_upd]
                                      rcases hcase with ⟨q1, q2⟩ | q1
                                      all_goals
                                        repeat ((conv => whnf); first | (refine And.intro (by first | omega | exact Nat.le_of_ble_eq_true rfl | (dsimp only [inK]; omega)) ?_) | refine Exists.intro _ (And.intro rfl ?_) | refine br_t (by omega) ?_ | refine br_f (by omega) ?_ | refine bs_f (by omega) ?_ | refine fun (K' : K3) hK' => ?_ | (refine hK' _ _ _ ?_; clear hK' K') | refine CallK.val (R := []) hix (by kernel_rfl) rfl (by simp [V.wf, A.wf, C.wf]) trivial rfl rfl trivial ?_ | refine CallK.m ?_)
                                        refine hY _ _ _ _ (Nat.le_of_ble_eq_true rfl) rfl ⟨rfl, trivial⟩ ?_
                                        intro cxb hcx
                                        refine vc_ok tok ?_
                                        repeat ((conv => whnf); first | refine fun (K' : K3) hK' => ?_ | (refine hK' _ _ _ ?_; clear hK' K') | refine And.intro (Eq.refl oo) ?_)
                                        refine vc_ok tok ?_
                                        repeat ((conv => whnf); first | (refine And.intro (by first | omega | exact Nat.le_of_ble_eq_true rfl | (dsimp only [inK]; omega)) ?_) | with_reducible refine lkm (wayF_some hdk) ?_ | with_reducible refine lkm (wayF_none hdi) ?_ | refine Exists.intro _ (And.intro rfl ?_) | refine br_f (by omega) ?_ | refine fun (K' : K3) hK' => ?_ | (refine hK' _ _ _ ?_; clear hK' K') | refine draw_auto tok mixed (by kernel_rfl) ?_ | refine CallK.val (R := []) hrk (by kernel_rfl) rfl (by simp [V.wf, A.wf, C.wf]) trivial rfl rfl trivial ?_ | refine HD_mk (fun _ h => CallK.val (R := []) hc' (by kernel_rfl) rfl (by simp [V.wf, A.wf, C.wf]) ⟨roE_id (by omega) (wf_ints _ _) rfl (.inl rfl) rfl, trivial⟩ rfl rfl trivial h) ?_ | refine And.intro (Eq.refl ob) ?_ | refine CallK.m ?_)
                                        refine ⟨b + 1, [], by omega, by omega, ?_⟩
                                        refine ⟨?_, ?_, rfl, rfl, by exact Nat.le_of_ble_eq_true rfl⟩
                                        · repeat (first | exact trivial | (refine And.intro (covS_syn (by first | rfl | (refine congrArg some (congrArg V.i ?_); omega)) rfl (by first | exact trivial | exact Nat.le_of_ble_eq_true rfl | exact hy)) ?_))
                                        · repeat (first | exact trivial | refine And.intro (covE_b1 (Nat.le_of_ble_eq_true rfl) rfl rfl (congrArg Prod.snd hst2).symm) ?_ | refine And.intro (covE_mp rfl (Nat.le_of_ble_eq_true rfl) rfl hm) ?_ | (refine And.intro (covE_id (Nat.le_of_ble_eq_true rfl) (by first | exact wf_ints _ _ | simp [C.wf]) rfl (by rfl)) ?_))
                                  | some old =>
                                    have hob := hbd (k : Int) old hdi
                                    have hls := less_spec (w.1 + cc, w.2 + 1) old
                                    cases hl : lessW (w.1 + cc, w.2 + 1) old with
                                    | true =>
                                        have hst2 : fd (3 * a + (b + 1)) = (updD fb.1 (k : Int) (w.1 + cc, w.2 + 1), true) := by rw [hst]; unfold relB relG; rw [if_neg hr0, hdk]; simp only [hdi, addW, hcc, hl, if_true]
                                        have hm : updF (wayF fb.1) [(k : Int)] (.w [w.1 + cc, w.2 + 1]) = wayF (fd (3 * a + (b + 1))).1 := by rw [hst2, wayF_upd]
                                        rcases hcase with ⟨q1, q2⟩ | q1
                                        all_goals
                                          repeat ((conv => whnf); first | (refine And.intro (by first | omega | exact Nat.le_of_ble_eq_true rfl | (dsimp only [inK]; omega)) ?_) | refine Exists.intro _ (And.intro rfl ?_) | refine br_t (by omega) ?_ | refine br_f (by omega) ?_ | refine bs_f (by omega) ?_ | refine fun (K' : K3) hK' => ?_ | (refine hK' _ _ _ ?_; clear hK' K') | refine CallK.val (R := []) hix (by kernel_rfl) rfl (by simp [V.wf, A.wf, C.wf]) trivial rfl rfl trivial ?_ | refine CallK.m ?_)
                                          refine hY _ _ _ _ (Nat.le_of_ble_eq_true rfl) rfl ⟨rfl, trivial⟩ ?_
                                          intro cxb hcx
                                          refine vc_ok tok ?_
                                          repeat ((conv => whnf); first | refine fun (K' : K3) hK' => ?_ | (refine hK' _ _ _ ?_; clear hK' K') | refine And.intro (Eq.refl oo) ?_)
                                          refine vc_ok tok ?_
                                          repeat ((conv => whnf); first | (refine And.intro (by first | omega | exact Nat.le_of_ble_eq_true rfl | (dsimp only [inK]; omega)) ?_) | with_reducible refine lkm (wayF_some hdk) ?_ | with_reducible refine lkm (wayF_some hdi) ?_ | refine Exists.intro _ (And.intro rfl ?_) | refine br_f (by omega) ?_ | refine fun (K' : K3) hK' => ?_ | (refine hK' _ _ _ ?_; clear hK' K') | refine draw_auto tok mixed (by kernel_rfl) ?_ | refine CallK.val (R := []) hrk (by kernel_rfl) rfl (by simp [V.wf, A.wf, C.wf]) trivial rfl rfl trivial ?_ | refine HD_mk (fun _ h => CallK.val (R := []) hc' (by kernel_rfl) rfl (by simp [V.wf, A.wf, C.wf]) ⟨roE_id (by omega) (wf_ints _ _) rfl (.inl rfl) rfl, trivial⟩ rfl rfl trivial h) ?_ | refine CallK.val (R := []) hls (by kernel_rfl) rfl (by simp [V.wf, A.wf, C.wf]) trivial rfl rfl trivial ?_ | refine br_bt hl ?_ | refine And.intro (Eq.refl ob) ?_ | refine CallK.m ?_)
                                          refine ⟨b + 1, [], by omega, by omega, ?_⟩
                                          refine ⟨?_, ?_, rfl, rfl, by exact Nat.le_of_ble_eq_true rfl⟩
                                          · repeat (first | exact trivial | (refine And.intro (covS_syn (by first | rfl | (refine congrArg some (congrArg V.i ?_); omega)) rfl (by first | exact trivial | exact Nat.le_of_ble_eq_true rfl | exact hy)) ?_))
                                          · repeat (first | exact trivial | refine And.intro (covE_b1 (Nat.le_of_ble_eq_true rfl) rfl rfl (congrArg Prod.snd hst2).symm) ?_ | refine And.intro (covE_mp rfl (Nat.le_of_ble_eq_true rfl) rfl hm) ?_ | (refine And.intro (covE_id (Nat.le_of_ble_eq_true rfl) (by first | exact wf_ints _ _ | simp [C.wf]) rfl (by rfl)) ?_))
                                    | false =>
                                        have hst2 : fd (3 * a + (b + 1)) = fb := by rw [hst]; unfold relB relG; rw [if_neg hr0, hdk]; simp only [hdi, addW, hcc, hl]; simp
                                        rcases hcase with ⟨q1, q2⟩ | q1
                                        all_goals
                                          repeat ((conv => whnf); first | (refine And.intro (by first | omega | exact Nat.le_of_ble_eq_true rfl | (dsimp only [inK]; omega)) ?_) | refine Exists.intro _ (And.intro rfl ?_) | refine br_t (by omega) ?_ | refine br_f (by omega) ?_ | refine bs_f (by omega) ?_ | refine fun (K' : K3) hK' => ?_ | (refine hK' _ _ _ ?_; clear hK' K') | refine CallK.val (R := []) hix (by kernel_rfl) rfl (by simp [V.wf, A.wf, C.wf]) trivial rfl rfl trivial ?_ | refine CallK.m ?_)
                                          refine hY _ _ _ _ (Nat.le_of_ble_eq_true rfl) rfl ⟨rfl, trivial⟩ ?_
                                          intro cxb hcx
                                          refine vc_ok tok ?_
                                          repeat ((conv => whnf); first | refine fun (K' : K3) hK' => ?_ | (refine hK' _ _ _ ?_; clear hK' K') | refine And.intro (Eq.refl oo) ?_)
                                          refine vc_ok tok ?_
                                          repeat ((conv => whnf); first | (refine And.intro (by first | omega | exact Nat.le_of_ble_eq_true rfl | (dsimp only [inK]; omega)) ?_) | with_reducible refine lkm (wayF_some hdk) ?_ | with_reducible refine lkm (wayF_some hdi) ?_ | refine Exists.intro _ (And.intro rfl ?_) | refine br_f (by omega) ?_ | refine fun (K' : K3) hK' => ?_ | (refine hK' _ _ _ ?_; clear hK' K') | refine draw_auto tok mixed (by kernel_rfl) ?_ | refine CallK.val (R := []) hrk (by kernel_rfl) rfl (by simp [V.wf, A.wf, C.wf]) trivial rfl rfl trivial ?_ | refine HD_mk (fun _ h => CallK.val (R := []) hc' (by kernel_rfl) rfl (by simp [V.wf, A.wf, C.wf]) ⟨roE_id (by omega) (wf_ints _ _) rfl (.inl rfl) rfl, trivial⟩ rfl rfl trivial h) ?_ | refine CallK.val (R := []) hls (by kernel_rfl) rfl (by simp [V.wf, A.wf, C.wf]) trivial rfl rfl trivial ?_ | refine br_bf hl ?_ | refine And.intro (Eq.refl ob) ?_ | refine CallK.m ?_)
                                          refine ⟨b + 1, [], by omega, by omega, ?_⟩
                                          refine ⟨?_, ?_, rfl, rfl, by exact Nat.le_of_ble_eq_true rfl⟩
                                          · repeat (first | exact trivial | (refine And.intro (covS_syn (by first | rfl | (refine congrArg some (congrArg V.i ?_); omega)) rfl (by first | exact trivial | exact Nat.le_of_ble_eq_true rfl | exact hy)) ?_))
                                          · repeat (first | exact trivial | refine And.intro (covE_b1 (Nat.le_of_ble_eq_true rfl) rfl rfl (congrArg Prod.snd hst2).symm) ?_ | refine And.intro (covE_mp rfl (Nat.le_of_ble_eq_true rfl) rfl (congrArg (fun x => wayF x.1) hst2).symm) ?_ | (refine And.intro (covE_id (Nat.le_of_ble_eq_true rfl) (by first | exact wf_ints _ _ | simp [C.wf]) rfl (by rfl)) ?_))
                            · have hst2 := hst1 hin2
                              rcases hcase with ⟨q1, q2⟩ | q1
                              all_goals
                                repeat ((conv => whnf); first | (refine And.intro (by first | omega | exact Nat.le_of_ble_eq_true rfl | (dsimp only [inK]; omega)) ?_) | refine Exists.intro _ (And.intro rfl ?_) | refine br_t (by omega) ?_ | refine br_f (by omega) ?_ | refine bs_f (by omega) ?_ | refine fun (K' : K3) hK' => ?_ | (refine hK' _ _ _ ?_; clear hK' K') | refine CallK.val (R := []) hix (by kernel_rfl) rfl (by simp [V.wf, A.wf, C.wf]) trivial rfl rfl trivial ?_ | refine CallK.m ?_)
                                refine ⟨b + 1, [], by omega, by omega, ?_⟩
                                refine ⟨?_, ?_, rfl, rfl, by exact Nat.le_of_ble_eq_true rfl⟩
                                · repeat (first | exact trivial | (refine And.intro (covS_syn (by first | rfl | (refine congrArg some (congrArg V.i ?_); omega)) rfl (by first | exact trivial | exact Nat.le_of_ble_eq_true rfl | exact hy)) ?_))
                                · repeat (first | exact trivial | refine And.intro (covE_b1 (Nat.le_of_ble_eq_true rfl) rfl rfl (congrArg Prod.snd hst2).symm) ?_ | refine And.intro (covE_mp rfl (Nat.le_of_ble_eq_true rfl) rfl (congrArg (fun x => wayF x.1) hst2).symm) ?_ | (refine And.intro (covE_id (Nat.le_of_ble_eq_true rfl) (by first | exact wf_ints _ _ | simp [C.wf]) rfl (by rfl)) ?_))
                        · have hb3' : b = 3 := by omega
                          subst hb3'
                          repeat ((conv => whnf); first | (refine And.intro (by first | omega | (dsimp only [inK]; omega)) ?_) | refine br_f (by omega) ?_ | refine fun (K' : K3) hK' => ?_ | (refine hK' _ _ _ ?_; clear hK' K'))
                          refine ⟨a + 1, [], by omega, by omega, ?_⟩
                          refine ⟨?_, ?_, rfl, rfl, by exact Nat.le_of_ble_eq_true rfl⟩
                          · repeat (first | exact trivial | (refine And.intro (covS_syn (by first | rfl | (refine congrArg some (congrArg V.i ?_); omega)) rfl (by first | exact trivial | exact Nat.le_of_ble_eq_true rfl | exact hy)) ?_))
                          · repeat (first | exact trivial | refine And.intro (covE_b1 (Nat.le_of_ble_eq_true rfl) rfl rfl (congrArg (fun j => (fd j).2) (show 3 * a + 3 = 3 * (a + 1) by omega))) ?_ | refine And.intro (covE_mp rfl (Nat.le_of_ble_eq_true rfl) rfl (congrArg (fun j => wayF (fd j).1) (show 3 * a + 3 = 3 * (a + 1) by omega))) ?_ | (refine And.intro (covE_id (Nat.le_of_ble_eq_true rfl) (by first | exact wf_ints _ _ | simp [C.wf]) rfl (by rfl)) ?_))
                    · have ha3' : a = 3 := by omega
                      subst ha3'
                      repeat ((conv => whnf); first | (refine And.intro (by first | omega | (dsimp only [inK]; omega)) ?_) | refine br_f (by omega) ?_ | refine fun (K' : K3) hK' => ?_ | (refine hK' _ _ _ ?_; clear hK' K') | refine Or.inl ?_ | refine And.intro (Eq.refl oo) ?_)
                      refine ⟨k + 1, [], by omega, by omega, ?_⟩
                      refine ⟨?_, ?_, rfl, rfl, by exact Nat.le_of_ble_eq_true rfl⟩
                      · repeat (first | exact trivial | (refine And.intro (covS_syn (by rfl) rfl (by first | exact trivial | exact Nat.le_of_ble_eq_true rfl)) ?_))
                      · repeat (first | exact trivial | refine And.intro (covE_b1 (Nat.le_of_ble_eq_true rfl) rfl rfl (congrArg Prod.snd hfd9)) ?_ | refine And.intro (covE_mp rfl (Nat.le_of_ble_eq_true rfl) rfl (congrArg (fun x => wayF x.1) hfd9)) ?_ | (refine And.intro (covE_id (Nat.le_of_ble_eq_true rfl) (by first | exact wf_ints _ _ | simp [C.wf]) rfl (by rfl)) ?_))
              · repeat ((conv => whnf); first | (refine And.intro (by first | omega | exact Nat.le_of_ble_eq_true rfl | (dsimp only [inK]; omega)) ?_) | refine Exists.intro _ (And.intro rfl ?_) | refine br_t (by omega) ?_ | refine fun (K' : K3) hK' => ?_ | (refine hK' _ _ _ ?_; clear hK' K') | refine CallK.val (R := []) hh (by kernel_rfl) rfl (by simp [V.wf, A.wf, C.wf]) ⟨roE_id (by omega) (wf_ints _ _) rfl (.inl rfl) rfl, trivial⟩ rfl rfl trivial ?_ | refine bs_bt (by simp [h1]) ?_ | refine CallK.m ?_)
                refine ⟨k + 1, [], by omega, by omega, ?_⟩
                have hst : ps (k + 1) = ps k := by rw [hpss]; exact relB_skip (by rw [hg]; simp [h1]) _
                refine ⟨?_, ?_, rfl, rfl, by exact Nat.le_of_ble_eq_true rfl⟩
                · repeat (first | exact trivial | (refine And.intro (covS_syn (by rfl) rfl (by first | exact trivial | exact Nat.le_of_ble_eq_true rfl)) ?_))
                · repeat (first | exact trivial | refine And.intro (covE_b1 (Nat.le_of_ble_eq_true rfl) rfl rfl (congrArg Prod.snd hst).symm) ?_ | refine And.intro (covE_mp rfl (Nat.le_of_ble_eq_true rfl) rfl (congrArg (fun x => wayF x.1) hst).symm) ?_ | (refine And.intro (covE_id (Nat.le_of_ble_eq_true rfl) (by first | exact wf_ints _ _ | simp [C.wf]) rfl (by rfl)) ?_))
            · have hkn : k = cs.length := by omega
              subst hkn
              repeat ((conv => whnf); first | (refine And.intro (by first | omega | exact Nat.le_of_ble_eq_true rfl) ?_) | refine Exists.intro _ (And.intro rfl ?_) | refine br_f (by omega) ?_ | refine fun (K' : K3) hK' => ?_ | (refine hK' _ _ _ ?_; clear hK' K'))
              refine ⟨t + 1, [(5, some 6)], ?_, by omega, ?_⟩
              · by_cases hq : t + 1 ≤ cs.length
                · exact .inl hq
                · have : t = cs.length := by omega
                  rw [this]; exact .inr ⟨itB_end hok, Nat.le_refl _⟩
              refine ⟨?_, ?_, rfl, rfl, by exact Nat.le_of_ble_eq_true rfl⟩
              · repeat (first | exact trivial | refine And.intro (covS_syn (by rfl) rfl (by exact Nat.le_of_ble_eq_true rfl)) ?_)
              · repeat (first | exact trivial | refine And.intro (covE_bR rfl (Nat.le_of_ble_eq_true rfl) rfl rfl (congrArg Prod.snd hpsn)) ?_ | refine And.intro (covE_mp rfl (Nat.le_of_ble_eq_true rfl) rfl (congrArg (fun x => wayF x.1) hpsn)) ?_ | (refine And.intro (covE_some rfl (Nat.le_of_ble_eq_true rfl) (by first | exact wf_ints _ _ | simp [C.wf]) rfl (by first | exact ren_ints _ _ | rfl)) ?_))
end Go.Proofs.Ytbhpnhcdjmcaoaa

/- Boom: the barrier with the least cost. -/
namespace Go.Proofs.Ytbhpnhcdjmcaoaa
open Go.RowKit
set_option linter.unusedVariables false
set_option linter.unusedSimpArgs false
/-- What barrier gives back. -/
def barR (o : Option (List Int × Way)) (v : V) (L' : List E) : Prop :=
  match o with
  | none => v = V.tup [A.c .nil, A.agg [C.i 0, C.i 0], A.c .ff]
  | some (l, w) => ∃ lab, v = V.tup [A.c (.sl lab l.length), A.agg [C.i w.1, C.i w.2], A.c .tt] ∧ find L' lab = some ⟨lab, .vec 3 1, l.map C.i⟩
set_option maxRecDepth 10000 in
set_option maxHeartbeats 8000000 in
theorem barrier_spec (W H : Int) (cs : List Int) (hok : CO W H cs) :
    Spec Try.prog 58 [chV W H cs.length] [⟨0, .ro 0, cs.map C.i⟩] 2 (fun v L' _ => barR (barO W H cs) v L') := by
  have hlm : (cs.map C.i).length = cs.length := by simp
  obtain ⟨hW, hH, hcl, hcost⟩ := hok
  have hok : CO W H cs := ⟨hW, hH, hcl, hcost⟩
  have hn : (cs.length : Int) ≤ 100 := by have := Int.mul_le_mul hW.2 hH.2 (by omega) (by omega : (0:Int) ≤ 10); omega
  have hcb := cst_bd hcost
  obtain ⟨w0, rfl⟩ : ∃ w0 : Nat, W = w0 := ⟨W.toNat, by omega⟩
  have hbd := wayB_bnd hok
  have hbar : barO w0 H cs = (match wayB w0 H cs (bestP (wayB w0 H cs) w0) with
    | none => none
    | some w => some (pathB w0 H cs (wayB w0 H cs) w.2.toNat (bestP (wayB w0 H cs) w0), w)) := by unfold barO; rw [Int.toNat_natCast] <;> rfl
  have hdom : ∀ {i : Int} {w : Way}, wayB w0 H cs i = some w → 0 ≤ i ∧ i < cs.length := fun h => wayB_dom hok h
  have hnx : ∀ {i : Int} {w : Way}, wayB w0 H cs i = some w → 1 < w.2 → ∃ k, nextB w0 H (wayB w0 H cs) i (w.1 - cstI cs i, w.2 - 1) = some k ∧ wayB w0 H cs k = some (w.1 - cstI cs i, w.2 - 1) := fun h h1 => nextB_some hok h h1
  have hbel := below_spec w0 H cs hok
  obtain ⟨d, hd⟩ : ∃ d, d = wayB w0 H cs := ⟨_, rfl⟩
  rw [← hd] at hbar hbd hbel
  simp only [← hd] at hdom hnx
  refine Spec.of tok Try.func58 rfl rfl rfl fun n0 cx => vc_ok tok ?_
  repeat ((conv => whnf); first | (refine And.intro (by first | omega | exact Nat.le_of_ble_eq_true rfl) ?_) | refine Exists.intro _ (And.intro rfl ?_) | refine fun (K' : K3) hK' => ?_ | (refine hK' _ _ _ ?_; clear hK' K') | refine CallK.mapR (R := []) hbel (by kernel_rfl) rfl (by simp [V.wf, A.wf, C.wf]) ⟨roE_id (by omega) (wf_ints _ _) rfl (.inl rfl) rfl, trivial⟩ rfl ?_ | refine CallK.m ?_)
  refine Tri.loop (γ := Nat) (fun k => k ≤ w0) (fun k => [(1, V.c (.ptr 2 0)), (3, V.c (.ptr 3 0)), (5, V.c (.ptr 5 0)), (6, V.i (bestP d k)), (20, V.i w0), (21, V.i (k : Nat))])
    (fun k => [⟨5, .own 112, [.mp 4]⟩, ⟨4, .mp true .int (wayF d), []⟩, ⟨3, .own 69, [C.i 0, C.i 0]⟩, ⟨2, .own 65, [C.i w0, C.i H, .sl 0 cs.length, .mp 1]⟩, ⟨0, .ro 0, cs.map C.i⟩]) 6 (fun k => w0 - k) 0 (R0 := []) ?_ ?_ ?_
  · omega
  · skip
    refine ⟨?_, ?_, rfl, rfl, by exact Nat.le_of_ble_eq_true rfl⟩
    · repeat (first | exact trivial | (refine And.intro (covS_syn (by rfl) rfl (by first | exact trivial | exact Nat.le_of_ble_eq_true rfl)) ?_))
    · repeat (first | exact trivial | (refine And.intro (covE_id (Nat.le_of_ble_eq_true rfl) (by first | exact wf_ints _ _ | simp [C.wf]) rfl (by rfl)) ?_))
  · intro k hk
    refine vc_ok tok ?_
    by_cases hlt : k < w0
    · have hb := bestP_spec d k
      cases hdk : d (k : Int) with
      | none =>
        have hst : bestP d (k + 1) = bestP d k := by simp only [bestP, hdk]
        repeat ((conv => whnf); first | (refine And.intro (by first | omega | exact Nat.le_of_ble_eq_true rfl | (dsimp only [inK]; omega)) ?_) | with_reducible refine lkm (wayF_none hdk) ?_ | refine Exists.intro _ (And.intro rfl ?_) | refine br_t (by omega) ?_ | refine fun (K' : K3) hK' => ?_ | (refine hK' _ _ _ ?_; clear hK' K'))
        refine ⟨k + 1, [], by omega, by omega, ?_⟩
        refine ⟨?_, ?_, rfl, rfl, by exact Nat.le_of_ble_eq_true rfl⟩
        · repeat (first | exact trivial | (refine And.intro (covS_syn (by first | rfl | (refine congrArg some (congrArg V.i ?_); first | omega | exact hst.symm)) rfl (by first | exact trivial | exact Nat.le_of_ble_eq_true rfl)) ?_))
        · repeat (first | exact trivial | (refine And.intro (covE_id (Nat.le_of_ble_eq_true rfl) (by first | exact wf_ints _ _ | simp [C.wf]) rfl (by rfl)) ?_))
      | some w =>
        rcases hb with ⟨h1, h2⟩ | ⟨b, h1, h2, wb, h3, h4, h5⟩
        · have hst : bestP d (k + 1) = k := by simp only [bestP, hdk, h1]; simp
          rw [h1]
          repeat ((conv => whnf); first | (refine And.intro (by first | omega | exact Nat.le_of_ble_eq_true rfl | (dsimp only [inK]; omega)) ?_) | with_reducible refine lkm (wayF_some hdk) ?_ | refine Exists.intro _ (And.intro rfl ?_) | refine br_t (by omega) ?_ | refine bs_t (by omega) ?_ | refine fun (K' : K3) hK' => ?_ | (refine hK' _ _ _ ?_; clear hK' K'))
          refine ⟨k + 1, [], by omega, by omega, ?_⟩
          refine ⟨?_, ?_, rfl, rfl, by exact Nat.le_of_ble_eq_true rfl⟩
          · repeat (first | exact trivial | (refine And.intro (covS_syn (by first | rfl | (refine congrArg some (congrArg V.i ?_); first | omega | exact hst.symm)) rfl (by first | exact trivial | exact Nat.le_of_ble_eq_true rfl)) ?_))
          · repeat (first | exact trivial | (refine And.intro (covE_id (Nat.le_of_ble_eq_true rfl) (by first | exact wf_ints _ _ | simp [C.wf]) rfl (by rfl)) ?_))
        · have hst : bestP d (k + 1) = if lessW w wb then (k : Int) else (b : Int) := by
            simp only [bestP, hdk, h1, h3]; rw [if_neg (by omega)]
          rw [h1]
          have hls := less_spec w wb
          cases hl : lessW w wb with
          | true =>
            rw [hl] at hst
            repeat ((conv => whnf); first | (refine And.intro (by first | omega | exact Nat.le_of_ble_eq_true rfl | (dsimp only [inK]; omega)) ?_) | with_reducible refine lkm (wayF_some hdk) ?_ | with_reducible refine lkm (wayF_some h3) ?_ | refine Exists.intro _ (And.intro rfl ?_) | refine br_t (by omega) ?_ | refine bs_f (by omega) ?_ | refine fun (K' : K3) hK' => ?_ | (refine hK' _ _ _ ?_; clear hK' K') | refine CallK.val (R := []) hls (by kernel_rfl) rfl (by simp [V.wf, A.wf, C.wf]) trivial rfl rfl trivial ?_ | refine br_bt hl ?_ | refine CallK.m ?_)
            refine ⟨k + 1, [], by omega, by omega, ?_⟩
            refine ⟨?_, ?_, rfl, rfl, by exact Nat.le_of_ble_eq_true rfl⟩
            · repeat (first | exact trivial | (refine And.intro (covS_syn (by first | rfl | (refine congrArg some (congrArg V.i ?_); first | omega | exact hst.symm)) rfl (by first | exact trivial | exact Nat.le_of_ble_eq_true rfl)) ?_))
            · repeat (first | exact trivial | (refine And.intro (covE_id (Nat.le_of_ble_eq_true rfl) (by first | exact wf_ints _ _ | simp [C.wf]) rfl (by rfl)) ?_))
          | false =>
            rw [hl] at hst
            repeat ((conv => whnf); first | (refine And.intro (by first | omega | exact Nat.le_of_ble_eq_true rfl | (dsimp only [inK]; omega)) ?_) | with_reducible refine lkm (wayF_some hdk) ?_ | with_reducible refine lkm (wayF_some h3) ?_ | refine Exists.intro _ (And.intro rfl ?_) | refine br_t (by omega) ?_ | refine bs_f (by omega) ?_ | refine fun (K' : K3) hK' => ?_ | (refine hK' _ _ _ ?_; clear hK' K') | refine CallK.val (R := []) hls (by kernel_rfl) rfl (by simp [V.wf, A.wf, C.wf]) trivial rfl rfl trivial ?_ | refine br_bf hl ?_ | refine CallK.m ?_)
            refine ⟨k + 1, [], by omega, by omega, ?_⟩
            refine ⟨?_, ?_, rfl, rfl, by exact Nat.le_of_ble_eq_true rfl⟩
            · repeat (first | exact trivial | (refine And.intro (covS_syn (by first | rfl | (refine congrArg some (congrArg V.i ?_); first | omega | exact hst.symm)) rfl (by first | exact trivial | exact Nat.le_of_ble_eq_true rfl)) ?_))
            · repeat (first | exact trivial | (refine And.intro (covE_id (Nat.le_of_ble_eq_true rfl) (by first | exact wf_ints _ _ | simp [C.wf]) rfl (by rfl)) ?_))
    · have hkw : k = w0 := by omega
      subst hkw
      rcases bestP_spec d k with ⟨h1, h2⟩ | ⟨b, h1, h2, wb, h3, _, _⟩
      · have hno : d (-1) = none := by
          cases hh : d (-1) with
          | none => rfl
          | some w => have := hdom hh; omega
        rw [h1] at hbar ⊢
        simp only [hno] at hbar
        rw [hbar]
        repeat ((conv => whnf); first | (refine And.intro (by first | omega | exact Nat.le_of_ble_eq_true rfl) ?_) | refine Exists.intro _ (And.intro rfl ?_) | refine br_t (by omega) ?_ | refine br_f (by omega) ?_ | refine fun (K' : K3) hK' => ?_ | (refine hK' _ _ _ ?_; clear hK' K'))
        rfl
      · rw [h1] at hbar ⊢
        simp only [h3] at hbar
        rw [hbar]
        have hwb := hbd _ _ h3
        repeat ((conv => whnf); first | (refine And.intro (by first | omega | exact Nat.le_of_ble_eq_true rfl | (dsimp only [inK]; omega)) ?_) | refine br_f (by omega) ?_ | refine fun (K' : K3) hK' => ?_ | (refine hK' _ _ _ ?_; clear hK' K'))
        refine Tri.loop (γ := List Int × Int × Nat) (fun g => ∃ w, d g.2.1 = some w ∧ g.1 ++ pathB k H cs d w.2.toNat g.2.1 = pathB k H cs d wb.2.toNat b ∧ g.1.length = g.2.2 ∧ g.2.2 + w.2.toNat = wb.2.toNat) (fun g => [(1, V.c (.ptr 2 0)), (3, V.c (.ptr 3 0)), (5, V.c (.ptr 5 0)), (6, V.i (b : Int)), (10, V.c (.sl 7 (g.2.2 + 1))), (11, V.c (.ptr 6 0))])
          (fun g => [⟨7, .vec 3 1, (g.1 ++ [g.2.1]).map C.i⟩, ⟨6, .own 3, [C.i g.2.1]⟩, ⟨5, .own 112, [.mp 4]⟩, ⟨4, .mp true .int (wayF d), []⟩, ⟨3, .own 69, [C.i 0, C.i 0]⟩, ⟨2, .own 65, [C.i k, C.i H, .sl 0 cs.length, .mp 1]⟩, ⟨0, .ro 0, cs.map C.i⟩]) 12 (fun g => match d g.2.1 with | some w => w.2.toNat | none => 0) ([], (b : Int), 0) (R0 := [(7, some 6), (6, some 7)]) ?_ ?_ ?_
        · exact ⟨wb, h3, rfl, rfl, by simp⟩
        · skip
          refine ⟨?_, ?_, rfl, rfl, by exact Nat.le_of_ble_eq_true rfl⟩
          · repeat (first | exact trivial | (refine And.intro (covS_syn (by rfl) rfl (by first | exact trivial | exact Nat.le_of_ble_eq_true rfl)) ?_))
          · repeat (first | exact trivial | (refine And.intro (covE_some rfl (Nat.le_of_ble_eq_true rfl) (by first | exact wf_ints _ _ | simp [C.wf]) rfl (by first | exact ren_ints _ _ | rfl)) ?_))
        · rintro ⟨pre, at_, m⟩ ⟨w, hw, hp, hlen, hlen2⟩
          simp only at hw hp hlen hlen2 ⊢
          have hwd := hbd _ _ hw
          have hat := hdom hw
          refine vc_ok tok ?_
          by_cases h1w : 1 < w.2
          · obtain ⟨kn, hkn, hdn⟩ := hnx hw h1w
            obtain ⟨a, rfl⟩ : ∃ a : Nat, at_ = a := ⟨at_.toNat, by omega⟩
            have hc := cost_spec k H cs a (by omega)
            have hck : cstI cs (a : Int) = if cs.getD a 0 > 0 then cs.getD a 0 else 0 := by simp [cstI]
            have hcn := hcb (a : Int)
            rw [← hck] at hc
            obtain ⟨cc, hcc⟩ : ∃ cc, cc = cstI cs (a : Int) := ⟨_, rfl⟩
            rw [← hcc] at hc hkn hdn hcn
            have hfu : w.2.toNat = (w.2 - 1).toNat + 1 := by omega
            have hstep : pathB k H cs d w.2.toNat a = (a : Int) :: pathB k H cs d (w.2 - 1).toNat kn := by
              rw [hfu]; simp only [pathB, hw, ← hcc, hkn]; rw [if_pos (by omega)]
            have hfin : nextB k H d a (w.1 - cc, w.2 - 1) = some kn := hkn
            repeat ((conv => whnf); first | (refine And.intro (by first | omega | exact Nat.le_of_ble_eq_true rfl | (dsimp only [inK]; omega)) ?_) | with_reducible refine lkm (wayF_some hw) ?_ | refine Exists.intro _ (And.intro rfl ?_) | refine br_t (by omega) ?_ | refine fun (K' : K3) hK' => ?_ | (refine hK' _ _ _ ?_; clear hK' K') | refine draw_auto tok mixed (by kernel_rfl) ?_ | refine HD_mk (fun _ h => CallK.val (R := []) hc (by kernel_rfl) rfl (by simp [V.wf, A.wf, C.wf]) ⟨roE_id (by omega) (wf_ints _ _) rfl (.inl rfl) rfl, trivial⟩ rfl rfl trivial h) ?_ | refine CallK.fresh (by kernel_rfl) (near_spec _ _ _ _) rfl ?_ | refine CallK.m ?_)
            refine Tri.opq fun K' hK' => ?_
            refine Tri.near (R0 := []) (W := k) (H := H) (n := cs.length) (i := (a : Int)) (e := true) (fun pre0 => ∀ x ∈ pre0, (decide (d x = some (w.1 - cc, w.2 - 1)) && !decide (x / (k : Int) = 0)) = false)
              (fun _ => [⟨12, .own 69, [C.i (w.1 - cc), C.i (w.2 - 1)]⟩, ⟨7, .vec 3 1, (pre ++ [(a : Int)]).map C.i⟩, ⟨6, .own 3, [C.i (a : Int)]⟩, ⟨5, .own 112, [.mp 4]⟩, ⟨4, .mp true .int (wayF d), []⟩, ⟨3, .own 69, [C.i 0, C.i 0]⟩, ⟨2, .own 65, [C.i k, C.i H, .sl 0 cs.length, .mp 1]⟩, ⟨0, .ro 0, cs.map C.i⟩])
              (fun x hx => by cases hx) (by omega) (by omega) (by omega) (by exact rfl) (by exact rfl) (by exact rfl) ?_ ?_ ?_
            · intro oo
              refine ⟨?_, ?_, rfl, rfl, by exact Nat.le_of_ble_eq_true rfl⟩
              · repeat (exact trivial)
              · repeat (first | exact trivial | refine And.intro (covE_b1 (Nat.le_of_ble_eq_true rfl) rfl rfl rfl) ?_ | (refine And.intro (covE_id (Nat.le_of_ble_eq_true rfl) (by first | exact wf_ints _ _ | simp [C.wf]) rfl (by rfl)) ?_))
            · intro oo ob od pre0 post kk hsp hk0 hk1 hI cxb hcx
              have hrk := row_spec k H cs.length kk 0 (by omega) hk0 (by omega)
              have next : (decide (d kk = some (w.1 - cc, w.2 - 1)) && !decide (kk / (k : Int) = 0)) = false → ∀ x ∈ pre0 ++ [kk], (decide (d x = some (w.1 - cc, w.2 - 1)) && !decide (x / (k : Int) = 0)) = false := fun h x hx => by
                rcases List.mem_append.1 hx with hx | hx
                · exact hI x hx
                · rw [List.mem_singleton.1 hx]; exact h
              refine vc_ok tok ?_
              repeat ((conv => whnf); first | refine fun (K' : K3) hK' => ?_ | (refine hK' _ _ _ ?_; clear hK' K') | refine And.intro (Eq.refl oo) ?_)
              refine vc_ok tok ?_
              cases hdk : d kk with
              | none =>
                repeat ((conv => whnf); first | (refine And.intro (by first | omega | exact Nat.le_of_ble_eq_true rfl) ?_) | with_reducible refine lkm (wayF_none hdk) ?_ | refine Exists.intro _ (And.intro rfl ?_) | refine fun (K' : K3) hK' => ?_ | (refine hK' _ _ _ ?_; clear hK' K') | refine And.intro (Eq.refl ob) ?_)
                refine .inl ⟨rfl, next (by rw [hdk]; simp), [], rfl, ?_⟩
                refine ⟨?_, ?_, rfl, rfl, by exact Nat.le_of_ble_eq_true rfl⟩
                · repeat (exact trivial)
                · repeat (first | exact trivial | (refine And.intro (covE_id (Nat.le_of_ble_eq_true rfl) (by first | exact wf_ints _ _ | simp [C.wf]) rfl (by rfl)) ?_))
              | some wk =>
                by_cases hr0 : kk / (k : Int) = 0
                · repeat ((conv => whnf); first | (refine And.intro (by first | omega | exact Nat.le_of_ble_eq_true rfl) ?_) | with_reducible refine lkm (wayF_some hdk) ?_ | refine Exists.intro _ (And.intro rfl ?_) | refine fun (K' : K3) hK' => ?_ | (refine hK' _ _ _ ?_; clear hK' K') | refine CallK.val (R := []) hrk (by kernel_rfl) rfl (by simp [V.wf, A.wf, C.wf]) trivial rfl rfl trivial ?_ | refine br_bf (nd_f hr0) ?_ | refine And.intro (Eq.refl ob) ?_ | refine CallK.m ?_)
                  refine .inl ⟨rfl, next (by simp [hr0]; done), [], rfl, ?_⟩
                  refine ⟨?_, ?_, rfl, rfl, by exact Nat.le_of_ble_eq_true rfl⟩
                  · repeat (exact trivial)
                  · repeat (first | exact trivial | (refine And.intro (covE_id (Nat.le_of_ble_eq_true rfl) (by first | exact wf_ints _ _ | simp [C.wf]) rfl (by rfl)) ?_))
                · cases heq : (decide (wk.1 = w.1 - cc) && (decide (wk.2 = w.2 - 1) && true)) with
                  | true =>
                    have hwk : wk = (w.1 - cc, w.2 - 1) := by simp at heq; exact Prod.ext heq.1 heq.2
                    have hkk : kn = kk := by
                      have := find_first (p := fun x => decide (d x = some (w.1 - cc, w.2 - 1)) && !decide (x / (k : Int) = 0)) hsp hI (by simp [hdk, hwk, hr0])
                      unfold nextB at hkn
                      rw [this] at hkn; cases hkn; rfl
                    repeat ((conv => whnf); first | (refine And.intro (by first | omega | exact Nat.le_of_ble_eq_true rfl) ?_) | with_reducible refine lkm (wayF_some hdk) ?_ | refine Exists.intro _ (And.intro rfl ?_) | refine fun (K' : K3) hK' => ?_ | (refine hK' _ _ _ ?_; clear hK' K') | refine CallK.val (R := []) hrk (by kernel_rfl) rfl (by simp [V.wf, A.wf, C.wf]) trivial rfl rfl trivial ?_ | refine br_bt (nd_t hr0) ?_ | refine br_bt heq ?_ | refine And.intro (Eq.refl ob) ?_ | refine CallK.m ?_)
                    refine .inr ⟨rfl, .inr (.inr ⟨4, ?_⟩)⟩
                    refine And.intro (Eq.refl (od (Code.exit 4))) ?_
                    conv => whnf
                    refine hK' _ _ _ _ ?_
                    repeat ((conv => whnf); first | (refine And.intro (by first | omega | exact Nat.le_of_ble_eq_true rfl | (dsimp only [inK]; omega) | (exact ⟨rfl, rfl, rfl, Nat.le_of_ble_eq_true rfl, by simp; omega, by exact Nat.le_of_ble_eq_true rfl, by omega, Nat.le_of_ble_eq_true rfl⟩)) ?_) | refine Exists.intro _ (And.intro rfl ?_) | refine fun (K' : K3) hK' => ?_ | (refine hK' _ _ _ ?_; clear hK' K'))
                    subst hkk
                    refine ⟨(pre ++ [(a : Int)], kn, m + 1), [(7, some 43), (6, some 44)], ⟨_, hdn, ?_, by simp [hlen], by simp only; omega⟩, ?_, ?_⟩
                    · rw [← hp, hstep]; simp
                    · simp only [hdn, hw]; omega
                    · skip
                      refine ⟨?_, ?_, rfl, rfl, by exact Nat.le_of_ble_eq_true rfl⟩
                      · repeat (first | exact trivial | (refine And.intro (covS_syn (by rfl) rfl (by first | exact trivial | exact Nat.le_of_ble_eq_true rfl)) ?_))
                      · repeat (first | exact trivial | (refine And.intro (covE_some rfl (Nat.le_of_ble_eq_true rfl) (by first | exact wf_ints _ _ | simp [C.wf]) rfl (by first | exact ren_ints _ _ | (refine (ren_ints _ _).trans (congrArg some ?_); rw [List.map_append]; rfl) | rfl)) ?_))
                  | false =>
                    repeat ((conv => whnf); first | (refine And.intro (by first | omega | exact Nat.le_of_ble_eq_true rfl) ?_) | with_reducible refine lkm (wayF_some hdk) ?_ | refine Exists.intro _ (And.intro rfl ?_) | refine fun (K' : K3) hK' => ?_ | (refine hK' _ _ _ ?_; clear hK' K') | refine CallK.val (R := []) hrk (by kernel_rfl) rfl (by simp [V.wf, A.wf, C.wf]) trivial rfl rfl trivial ?_ | refine br_bt (nd_t hr0) ?_ | refine br_bf heq ?_ | refine And.intro (Eq.refl ob) ?_ | refine CallK.m ?_)
                    refine .inl ⟨rfl, next ?_, [], rfl, ?_⟩
                    · rw [hdk]
                      have : ¬ wk = (w.1 - cc, w.2 - 1) := fun e => by rw [e] at heq; simp at heq
                      simp [this]
                    · skip
                      refine ⟨?_, ?_, rfl, rfl, by exact Nat.le_of_ble_eq_true rfl⟩
                      · repeat (exact trivial)
                      · repeat (first | exact trivial | (refine And.intro (covE_id (Nat.le_of_ble_eq_true rfl) (by first | exact wf_ints _ _ | simp [C.wf]) rfl (by rfl)) ?_))
            · intro oo od hI
              have := List.find?_some (hkn : (nearL (k : Int) H true (a : Int)).find? _ = some kn)
              have hm := List.mem_of_find?_eq_some (hkn : (nearL (k : Int) H true (a : Int)).find? _ = some kn)
              rw [hI kn hm] at this; cases this
          · have hone : pathB k H cs d w.2.toNat at_ = [at_] := by
              rw [show w.2.toNat = 0 + 1 by omega]
              simp only [pathB, hw]; rw [if_neg (by omega)]
            rw [hone] at hp
            repeat ((conv => whnf); first | (refine And.intro (by first | omega | exact Nat.le_of_ble_eq_true rfl) ?_) | with_reducible refine lkm (wayF_some hw) ?_ | with_reducible refine lkm (wayF_some h3) ?_ | refine Exists.intro _ (And.intro rfl ?_) | refine br_f (by omega) ?_ | refine fun (K' : K3) hK' => ?_ | (refine hK' _ _ _ ?_; clear hK' K') | refine draw_auto tok mixed (by kernel_rfl) ?_)
            rw [← hp]
            refine ⟨7, ?_, rfl⟩
            rw [List.length_append, hlen]; rfl
end Go.Proofs.Ytbhpnhcdjmcaoaa

/- Boom: new charts. -/
namespace Go.Proofs.Ytbhpnhcdjmcaoaa
open Go.RowKit
set_option linter.unusedVariables false
set_option linter.unusedSimpArgs false
theorem wf_zc (n : Nat) : ∀ c ∈ [C.i 0, C.i 0, C.nil, C.v (Value.map none)], c.wf n := fun c hc => by
  simp only [List.mem_cons, List.not_mem_nil, or_false] at hc
  rcases hc with rfl | rfl | rfl | rfl <;> first | trivial | rfl
def idxC (W H : Int) (p : Cell) : Int := idxI W H p.1 p.2
/-- Booms are not in order, or not of the chart, at place k. -/
def badK (W H : Int) (cs : List Int) (bs : List Cell) (k : Nat) : Bool :=
  decide (idxC W H (bs.getD k (0, 0)) < 0) || (decide (cs.getD (idxC W H (bs.getD k (0, 0))).toNat 0 ≤ 0) || (decide ((k : Int) > 0) && decide (cmpC (bs.getD (k - 1) (0, 0)) (bs.getD k (0, 0)) ≥ 0)))
def okBk (W H : Int) (cs : List Int) (bs : List Cell) (k : Nat) : Bool := (List.range k).all fun j => !badK W H cs bs j
def okB (W H : Int) (cs : List Int) (bs : List Cell) : Bool := okBk W H cs bs bs.length
def boomP (W H : Int) (bs : List Cell) (k : Nat) (i : Int) : Bool := (bs.take k).any fun p => decide (i = idxC W H p)
def boomF (W H : Int) (bs : List Cell) : Int → Bool := boomP W H bs bs.length
theorem okBk_succ (W H : Int) (cs : List Int) (bs : List Cell) (k : Nat) : okBk W H cs bs (k + 1) = (okBk W H cs bs k && !badK W H cs bs k) := by
  simp [okBk, List.range_succ, List.all_append]
theorem okBk_false {W H : Int} {cs : List Int} {bs : List Cell} {k : Nat} (hk : k < bs.length) (h : badK W H cs bs k = true) : okB W H cs bs = false := by
  unfold okB okBk
  rw [List.all_eq_false]
  exact ⟨k, by simpa using hk, by simp [h]⟩
theorem bmF_upd (f : Int → Bool) (i : Int) : updF (bmF f) [i] (.b true) = bmF (fun j => f j || decide (j = i)) := by
  funext k
  unfold updF
  match k with
  | [] => rfl
  | [j] =>
    by_cases h : j = i
    · subst h; simp [bmF]
    · have : ¬ ([j] : List Int) = [i] := by simpa using h
      simp only [this, if_false, bmF, h, decide_false, Bool.or_false]
  | _ :: _ :: _ => simp [bmF]
theorem boomP_succ {W H : Int} {bs : List Cell} {k : Nat} (hk : k < bs.length) : boomP W H bs (k + 1) = fun j => boomP W H bs k j || decide (j = idxC W H (bs.getD k (0, 0))) := by
  funext j
  unfold boomP
  rw [List.take_add_one, show bs[k]?.toList = [bs.getD k (0, 0)] by rw [List.getElem?_eq_getElem hk, List.getD_eq_getElem?_getD, List.getElem?_eq_getElem hk]; rfl]
  simp
theorem bmF_zero (W H : Int) (bs : List Cell) : (fun _ => none : MF) = bmF (boomP W H bs 0) := by
  funext k
  match k with
  | [] => rfl
  | [j] => simp [bmF, boomP]
  | _ :: _ :: _ => rfl
/-- What newChart gives back. -/
def newR (W H : Int) (cs : List Int) (bs : List Cell) (v : V) (L' : List E) : Prop :=
  if okC W H cs then (if okB W H cs bs then ∃ l, v = V.tup [A.agg [C.i W, C.i H, .sl 0 cs.length, .mp l], A.c (C.i 0)] ∧ find L' l = some ⟨l, .mp true .int (bmF (boomF W H bs)), []⟩
    else v = V.tup [A.agg [C.i 0, C.i 0, .nil, .v (.map none)], A.c (C.i 2)])
  else v = V.tup [A.agg [C.i 0, C.i 0, .nil, .v (.map none)], A.c (C.i 30)]
theorem idxI_bd {W H x y : Int} (hW : 0 < W ∧ W ≤ 10) (hH : 0 < H ∧ H ≤ 10) : idxI W H x y ≤ 100 ∧ -1 ≤ idxI W H x y := by
  by_cases h : idxI W H x y ≥ 0
  · have := (idxI_lt hW.1 h).1
    have := Int.mul_le_mul hW.2 hH.2 (by omega) (by omega : (0:Int) ≤ 10)
    omega
  · refine ⟨by omega, ?_⟩
    unfold idxI
    split
    · rename_i hh
      have : 0 ≤ y * W := Int.mul_nonneg (by omega) (by omega)
      omega
    · omega
set_option maxRecDepth 10000 in
set_option maxHeartbeats 8000000 in
theorem newChart_spec (W H : Int) (cs : List Int) (bs : List Cell) (hl : cs.length ≤ 300) (hb : bs.length ≤ 300) :
    Spec Try.prog 57 [V.agg [C.i W, C.i H, C.sl 0 cs.length], V.c (.sl 1 bs.length)] [⟨0, .ro 0, cs.map C.i⟩, ⟨1, .ro 0, cellC bs⟩] 2 (fun v L' _ => newR W H cs bs v L') := by
  have hlm : (cs.map C.i).length = cs.length := by simp
  have hcl := cellC_len bs
  have hva := valid_spec W H cs hl
  refine Spec.of tok Try.func57 rfl rfl rfl fun n0 cx => vc_ok tok ?_
  cases hv : okC W H cs with
  | false =>
    rw [hv] at hva
    repeat ((conv => whnf); first | (refine And.intro (by first | omega | exact Nat.le_of_ble_eq_true rfl) ?_) | refine Exists.intro _ (And.intro rfl ?_) | refine fun (K' : K3) hK' => ?_ | (refine hK' _ _ _ ?_; clear hK' K') | refine CallK.val (R := []) hva (by kernel_rfl) rfl (by simp [V.wf, A.wf, C.wf]) ⟨roE_id (by omega) (wf_ints _ _) rfl (.inl rfl) rfl, trivial⟩ rfl rfl trivial ?_ | refine br_bt (Eq.refl true) ?_ | refine CallK.m ?_)
    unfold newR; rw [hv]; rfl
  | true =>
    have hok := okC_iff.1 hv
    obtain ⟨hW, hH, hcl', hcost⟩ := hok
    rw [hv] at hva
    repeat ((conv => whnf); first | (refine And.intro (by first | omega | exact Nat.le_of_ble_eq_true rfl) ?_) | refine Exists.intro _ (And.intro rfl ?_) | refine fun (K' : K3) hK' => ?_ | (refine hK' _ _ _ ?_; clear hK' K') | refine CallK.val (R := []) hva (by kernel_rfl) rfl (by simp [V.wf, A.wf, C.wf]) ⟨roE_id (by omega) (wf_ints _ _) rfl (.inl rfl) rfl, trivial⟩ rfl rfl trivial ?_ | refine br_bf (Eq.refl false) ?_ | refine CallK.m ?_)
    refine Tri.loop (γ := Nat) (fun k => k ≤ bs.length ∧ okBk W H cs bs k = true) (fun k => [(1, V.c (.sl 1 bs.length)), (2, V.c (.ptr 2 0)), (4, V.c (.ptr 3 0)), (5, V.i 0), (6, V.c (.ptr 5 0)), (17, V.c (.sl 1 bs.length)), (18, V.i bs.length), (19, V.i (k : Nat))])
      (fun k => [⟨5, .own 65, [C.i W, C.i H, .sl 0 cs.length, .mp 4]⟩, ⟨4, .mp true .int (bmF (boomP W H bs k)), []⟩, ⟨3, .own 65, [C.i 0, C.i 0, .nil, .v (.map none)]⟩, ⟨2, .own 24, [C.i W, C.i H, .sl 0 cs.length]⟩, ⟨1, .ro 0, cellC bs⟩, ⟨0, .ro 0, cs.map C.i⟩]) 6 (fun k => bs.length - k) 0 (R0 := []) ?_ ?_ ?_
    · exact ⟨by omega, rfl⟩
    · skip
      refine ⟨?_, ?_, rfl, rfl, by exact Nat.le_of_ble_eq_true rfl⟩
      · repeat (first | exact trivial | (refine And.intro (covS_syn (by rfl) rfl (by first | exact trivial | exact Nat.le_of_ble_eq_true rfl)) ?_))
      · repeat (first | exact trivial | refine And.intro (covE_mp rfl (Nat.le_of_ble_eq_true rfl) rfl (bmF_zero W H bs)) ?_ | (refine And.intro (covE_id (Nat.le_of_ble_eq_true rfl) (by first | exact wf_ints _ _ | first | exact wf_cells _ _ | exact wf_zc _ | simp [C.wf]) rfl (by rfl)) ?_))
    · rintro k ⟨hk, hokk⟩
      refine vc_ok tok ?_
      by_cases hlt : k < bs.length
      · have hbad : badK W H cs bs k = (decide (idxC W H (bs.getD k (0, 0)) < 0) || (decide (cs.getD (idxC W H (bs.getD k (0, 0))).toNat 0 ≤ 0) || (decide ((k : Int) > 0) && decide (cmpC (bs.getD (k - 1) (0, 0)) (bs.getD k (0, 0)) ≥ 0)))) := rfl
        have hsucc := boomP_succ (W := W) (H := H) hlt
        have hld := cellT (l := bs) (k := k) rfl hlt
        have hix := index_spec W H cs.length (bs.getD k (0, 0)).1 (bs.getD k (0, 0)).2 (by omega) (by omega)
        have hib := idxI_bd (x := (bs.getD k (0, 0)).1) (y := (bs.getD k (0, 0)).2) (show 0 < W ∧ W ≤ 10 by omega) (show 0 < H ∧ H ≤ 10 by omega)
        have hil : idxI W H (bs.getD k (0, 0)).1 (bs.getD k (0, 0)).2 ≥ 0 → idxI W H (bs.getD k (0, 0)).1 (bs.getD k (0, 0)).2 < cs.length := fun h => by rw [hcl']; exact (idxI_lt (by omega) h).1
        change badK W H cs bs k = (decide (idxI W H (bs.getD k (0, 0)).1 (bs.getD k (0, 0)).2 < 0) || (decide (cs.getD (idxI W H (bs.getD k (0, 0)).1 (bs.getD k (0, 0)).2).toNat 0 ≤ 0) || (decide ((k : Int) > 0) && decide (cmpC (bs.getD (k - 1) (0, 0)) (bs.getD k (0, 0)) ≥ 0)))) at hbad
        change boomP W H bs (k + 1) = (fun j => boomP W H bs k j || decide (j = idxI W H (bs.getD k (0, 0)).1 (bs.getD k (0, 0)).2)) at hsucc
        obtain ⟨p, hp⟩ : ∃ p, p = bs.getD k (0, 0) := ⟨_, rfl⟩
        rw [← hp] at hbad hsucc hld hix hib hil
        obtain ⟨i, hi⟩ : ∃ i, i = idxI W H p.1 p.2 := ⟨_, rfl⟩
        rw [← hi] at hbad hsucc hix hib hil
        have fails : badK W H cs bs k = true → newR W H cs bs (V.tup [A.agg [C.i 0, C.i 0, .nil, .v (.map none)], A.c (C.i 2)]) [] := fun h => by
          unfold newR; rw [hv, okBk_false hlt h]; rfl
        have fails' : ∀ L', badK W H cs bs k = true → newR W H cs bs (V.tup [A.agg [C.i 0, C.i 0, .nil, .v (.map none)], A.c (C.i 2)]) L' := fun L' h => by
          unfold newR; rw [hv, okBk_false hlt h]; rfl
        by_cases h1 : i < 0
        · repeat ((conv => whnf); first | (refine And.intro (by first | omega | exact Nat.le_of_ble_eq_true rfl | (dsimp only [inK]; omega)) ?_) | with_reducible refine ld (hld) ?_ | refine Exists.intro _ (And.intro rfl ?_) | refine br_t (by omega) ?_ | refine bs_t (by omega) ?_ | refine fun (K' : K3) hK' => ?_ | (refine hK' _ _ _ ?_; clear hK' K') | refine draw_auto tok mixed (by kernel_rfl) ?_ | refine CallK.val (R := [(1, some 4)]) hix (by kernel_rfl) rfl (by simp [V.wf, A.wf, C.wf]) trivial rfl rfl trivial ?_ | refine CallK.m ?_)
          exact fails' _ (by rw [hbad]; simp [h1])
        · obtain ⟨ci, hci⟩ : ∃ ci, ci = cs.getD i.toNat 0 := ⟨_, rfl⟩
          have hlc : (cs.map C.i)[mulS i.toNat 1]? = some (C.i ci) := by rw [hci]; exact intLz (k := i.toNat) (by omega) (by omega)
          rw [← hci] at hbad
          by_cases h2 : ci ≤ 0
          · repeat ((conv => whnf); first | (refine And.intro (by first | omega | exact Nat.le_of_ble_eq_true rfl | (dsimp only [inK]; omega)) ?_) | with_reducible refine ld (hld) ?_ | with_reducible refine ld (hlc) ?_ | refine Exists.intro _ (And.intro rfl ?_) | refine br_t (by omega) ?_ | refine bs_t (by omega) ?_ | refine bs_f (by omega) ?_ | refine fun (K' : K3) hK' => ?_ | (refine hK' _ _ _ ?_; clear hK' K') | refine draw_auto tok mixed (by kernel_rfl) ?_ | refine CallK.val (R := [(1, some 4)]) hix (by kernel_rfl) rfl (by simp [V.wf, A.wf, C.wf]) trivial rfl rfl trivial ?_ | refine CallK.m ?_)
            exact fails' _ (by rw [hbad]; simp [h2])
          · by_cases h3 : (k : Int) > 0
            · have hld2 := cellT (l := bs) (k := k - 1) (z := (k : Int) - 1) (by omega) (by omega)
              have hcm := compare_spec (bs.getD (k - 1) (0, 0)) p
              by_cases h4 : cmpC (bs.getD (k - 1) (0, 0)) p ≥ 0
              · repeat ((conv => whnf); first | (refine And.intro (by first | omega | exact Nat.le_of_ble_eq_true rfl | (dsimp only [inK]; omega)) ?_) | with_reducible refine ld (hld) ?_ | with_reducible refine ld (hlc) ?_ | with_reducible refine ld (hld2) ?_ | refine Exists.intro _ (And.intro rfl ?_) | refine br_t (by omega) ?_ | refine bs_f (by omega) ?_ | refine fun (K' : K3) hK' => ?_ | (refine hK' _ _ _ ?_; clear hK' K') | refine draw_auto tok mixed (by kernel_rfl) ?_ | refine CallK.val (R := [(1, some 4)]) hix (by kernel_rfl) rfl (by simp [V.wf, A.wf, C.wf]) trivial rfl rfl trivial ?_ | refine HD_mk (fun _ h => CallK.val (R := []) hcm (by kernel_rfl) rfl (by simp [V.wf, A.wf, C.wf]) trivial rfl rfl trivial h) ?_ | refine CallK.m ?_)
                exact fails' _ (by rw [hbad, dd_t h3, dd_t h4]; simp)
              · repeat ((conv => whnf); first | (refine And.intro (by first | omega | exact Nat.le_of_ble_eq_true rfl | (dsimp only [inK]; omega)) ?_) | with_reducible refine ld (hld) ?_ | with_reducible refine ld (hlc) ?_ | with_reducible refine ld (hld2) ?_ | refine Exists.intro _ (And.intro rfl ?_) | refine br_t (by omega) ?_ | refine br_f (by omega) ?_ | refine bs_f (by omega) ?_ | refine fun (K' : K3) hK' => ?_ | (refine hK' _ _ _ ?_; clear hK' K') | refine draw_auto tok mixed (by kernel_rfl) ?_ | refine CallK.val (R := [(1, some 4)]) hix (by kernel_rfl) rfl (by simp [V.wf, A.wf, C.wf]) trivial rfl rfl trivial ?_ | refine HD_mk (fun _ h => CallK.val (R := []) hcm (by kernel_rfl) rfl (by simp [V.wf, A.wf, C.wf]) trivial rfl rfl trivial h) ?_ | refine CallK.m ?_)
                refine ⟨k + 1, [], ⟨by omega, by rw [okBk_succ, hokk, hbad, dd_f h1, dd_f h2, dd_f h4]; simp⟩, by omega, ?_⟩
                refine ⟨?_, ?_, rfl, rfl, by exact Nat.le_of_ble_eq_true rfl⟩
                · repeat (first | exact trivial | (refine And.intro (covS_syn (by rfl) rfl (by first | exact trivial | exact Nat.le_of_ble_eq_true rfl)) ?_))
                · repeat (first | exact trivial | refine And.intro (covE_mp rfl (Nat.le_of_ble_eq_true rfl) rfl (by rw [bmF_upd, hsucc])) ?_ | (refine And.intro (covE_id (Nat.le_of_ble_eq_true rfl) (by first | exact wf_ints _ _ | first | exact wf_cells _ _ | exact wf_zc _ | simp [C.wf]) rfl (by rfl)) ?_))
            · repeat ((conv => whnf); first | (refine And.intro (by first | omega | exact Nat.le_of_ble_eq_true rfl | (dsimp only [inK]; omega)) ?_) | with_reducible refine ld (hld) ?_ | with_reducible refine ld (hlc) ?_ | refine Exists.intro _ (And.intro rfl ?_) | refine br_t (by omega) ?_ | refine br_f (by omega) ?_ | refine bs_f (by omega) ?_ | refine fun (K' : K3) hK' => ?_ | (refine hK' _ _ _ ?_; clear hK' K') | refine draw_auto tok mixed (by kernel_rfl) ?_ | refine CallK.val (R := [(1, some 4)]) hix (by kernel_rfl) rfl (by simp [V.wf, A.wf, C.wf]) trivial rfl rfl trivial ?_ | refine CallK.m ?_)
              refine ⟨k + 1, [], ⟨by omega, by rw [okBk_succ, hokk, hbad, dd_f h1, dd_f h2, dd_f h3]; rfl⟩, by omega, ?_⟩
              refine ⟨?_, ?_, rfl, rfl, by exact Nat.le_of_ble_eq_true rfl⟩
              · repeat (first | exact trivial | (refine And.intro (covS_syn (by rfl) rfl (by first | exact trivial | exact Nat.le_of_ble_eq_true rfl)) ?_))
              · repeat (first | exact trivial | refine And.intro (covE_mp rfl (Nat.le_of_ble_eq_true rfl) rfl (by rw [bmF_upd, hsucc])) ?_ | (refine And.intro (covE_id (Nat.le_of_ble_eq_true rfl) (by first | exact wf_ints _ _ | first | exact wf_cells _ _ | exact wf_zc _ | simp [C.wf]) rfl (by rfl)) ?_))
      · have hkl : k = bs.length := by omega
        subst hkl
        repeat ((conv => whnf); first | (refine And.intro (by first | omega | exact Nat.le_of_ble_eq_true rfl) ?_) | refine Exists.intro _ (And.intro rfl ?_) | refine br_f (by omega) ?_ | refine fun (K' : K3) hK' => ?_ | (refine hK' _ _ _ ?_; clear hK' K'))
        unfold newR
        rw [hv, show okB W H cs bs = true from hokk]
        exact ⟨4, rfl, rfl⟩
end Go.Proofs.Ytbhpnhcdjmcaoaa

