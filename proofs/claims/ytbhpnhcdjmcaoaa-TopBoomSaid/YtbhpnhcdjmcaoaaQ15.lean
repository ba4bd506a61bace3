/- For every chart, every two lists of cells, every list of heights and every number, TopBoom returns true, and what was handed in reads behind the call as it read before; without any condition. -/
import Derived.Test.YtbhpnhcdjmcaoaaV7
import Derived.WalkKit
import Derived.Below
import Derived.Laws.OwnMore
import Derived.Maps.AppendAt
import Derived.Laws.IdiomCopy
import Derived.Laws.CopyRow
import Derived.IntWalk
import Derived.StillTail
import Derived.Scope
import Derived.ChangeKeysEq
import Derived.Laws.Small
import Derived.OrdersIn
import Derived.TacticsIn
import Derived.OwnWalkIn
import Derived.RangeFuncNested
import Derived.RangeFuncLeaves
import Derived.RangeFuncRecord
import Derived.Maps.Keyed
import Derived.Maps.RangeRun
import Derived.DeepKeys4
import Derived.Test.YtbhpnhcdjmcaoaaRows
import Derived.KernelRfl
import Derived.ProofKit
import Derived.OpenShut
import Derived.Lib.SmallJoins
import Derived.Deep.Slices
import Derived.PlainAid
import Derived.StillTailTactics
import Derived.WalkSpells
import Derived.OwnWalk
import Derived.Deep.RegionLaw
import Derived.Lib.SliceRun
import Derived.Carry
import Derived.ChangeShapes
namespace Go.Proofs.Ytbhpnhcdjmcaoaa
open Go.ChangeShapes Go.WideShapes Go.ChangeAt Go.RowKit

theorem own15 : ownKnob Try.prog.godebug = none := by kernel_rfl
theorem laidOut15 : laidOutB Try.prog = true := by kernel_rfl

set_option maxRecDepth 100000 in
theorem top_lifted (os : Os) (started : os.Started) (H : Type) (enc : TypeId × Value → H) :
    ReturnsInHanded {} Try.checked os 15 .any (Rows.topBoomSpec.pre6 enc Try.prog Try.f15 Rows.topBoomRow.domain false) (Rows.topBoomSpec.post enc Try.prog Try.f15 false true false false) := by
  refine returnsInHanded_of_change (C := Try.checked) own15 started (by kernel_rfl) Try.func15
    (ChangeSpec.witness6 (enc := enc) (C := Try.checked) false ⟨#[], #[.agg #[.int .i64 0, .int .i64 0, .slice none 0 0], .slice none 0 0, .slice none 0 0, .slice none 0 0, .int .i64 0], []⟩ 8 (by kernel_rfl) (by kernel_rfl) (by kernel_rfl) (by kernel_rfl)) ?_
  intro W base args ds gs before hval0 hW hcnd _
  have hval : ∀ (j : Nat) t v, Try.f15.params[j]? = some t → args[j]? = some v → Value.okWide Try.prog W .any base t v := hval0
  have hW' := hW
  obtain ⟨p, q, hA0, hV, rfl, hfz, hnd⟩ := hW
  have hA : DataW.TrodAll enc Try.prog W 0 (fun _ => true) true Try.f15.params.toList args.toList ds p := hA0
  rw [Try.params15] at hA hval
  obtain ⟨v0, v1, v2, v3, v4, d0, d1, d2, d3, d4, p0, p1, p2, p3, p4, rfl, rfl, rfl, h0, h1, h2, h3, h4⟩ := trodAll_five hA
  obtain ⟨rfl, rfl⟩ := trodVars_none hV
  have hlt0 : ∀ x ∈ p0, x.block < W.heap.size := fun x hx => by simpa using hW'.lt x (by simp [hx])
  have hlt1 : ∀ x ∈ p1, x.block < W.heap.size := fun x hx => by simpa using hW'.lt x (by simp [hx])
  have hlt2 : ∀ x ∈ p2, x.block < W.heap.size := fun x hx => by simpa using hW'.lt x (by simp [hx])
  have hlt3 : ∀ x ∈ p3, x.block < W.heap.size := fun x hx => by simpa using hW'.lt x (by simp [hx])
  have hlt4 : ∀ x ∈ p4, x.block < W.heap.size := fun x hx => by simpa using hW'.lt x (by simp [hx])
  obtain ⟨cw, ch, cs, ao, c, rfl, hc⟩ := open_chart (hval 0 24 v0 rfl rfl) h0
  obtain ⟨bo, bc, bl, rfl, hbl⟩ := open_cellsv (hval 1 30 v1 rfl rfl) h1
  obtain ⟨lo, lc, ll, rfl, hll⟩ := open_cellsv (hval 2 30 v2 rfl rfl) h2
  obtain ⟨po, pc, l, rfl, hp⟩ := open_intsv (hval 3 22 v3 rfl rfl) h3
  obtain ⟨n4, rfl, _, _, hn4⟩ := open_int Try.underlying3 (hval 4 3 v4 rfl rfl) h4
  have hb4 := i64_bd hn4
  clear hA0 hval0
  refine (top_any cw ch cs bl ll l n4 hb4 ao c bo bc lo lc po pc W hc hbl hll hp).mono fun e W' ⟨he, hb⟩ => ?_
  subst he
  refine ⟨_, rfl, _, _, _, [], p0 ++ (p1 ++ (p2 ++ (p3 ++ (p4)))), [], hW', ?_, ?_, rfl, hb.frame _, fun h => by cases h⟩
  · exact trodAll_mk1 (shut_bool Try.underlying4 true)
  · exact trodAll_mk5 (Below.trod laidOut15 (by kernel_rfl) (of_decide_eq_true (by kernel_rfl)) h0 hb hlt0) (Below.trod laidOut15 (by kernel_rfl) (of_decide_eq_true (by kernel_rfl)) h1 hb hlt1) (Below.trod laidOut15 (by kernel_rfl) (of_decide_eq_true (by kernel_rfl)) h2 hb hlt2) (Below.trod laidOut15 (by kernel_rfl) (of_decide_eq_true (by kernel_rfl)) h3 hb hlt3) (Below.trod laidOut15 (by kernel_rfl) (of_decide_eq_true (by kernel_rfl)) h4 hb hlt4)

theorem top_holds : Rows.TopBoomSaid :=
  OpenClaim.holds_of_wide 15 Try.f15 rfl rfl rfl rfl rfl rfl rfl ⟨rfl, rfl, rfl, rfl, rfl⟩ rfl rfl rfl rfl rfl (by kernel_rfl) Try.func15 (by kernel_rfl)
    (of_decide_eq_true (by kernel_rfl)) (by unfold Func.isWrapper; rw [if_neg (of_decide_eq_false (by kernel_rfl))]; exact ⟨rfl, rfl⟩)
    (fun os started H enc _ => top_lifted os started H enc)

#print axioms top_holds
end Go.Proofs.Ytbhpnhcdjmcaoaa
