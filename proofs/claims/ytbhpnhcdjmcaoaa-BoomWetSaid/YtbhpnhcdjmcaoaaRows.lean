/-
  No cell of these rows narrows 'for every input' (looked for: loops, veiled, ifaces, maps, wideKeys, modest, calm, conditions, laid).
  DERIVED. THE GIVEN ROWS OF THIS SEAT. 13 by the template 'for every input the law returns true; each argument reads behind the call as it read before'; 0 by the template 'total and deterministic' (their statements: YtbhpnhcdjmcaoaaTotals.lean).
  GIVEN WITH THE SEED: the statements are not yours to turn. If you find one false, say at which input.
  Laid BY PROGRAM, IN A SANDBOX (cutbox-rows.mjs): the forced cells as the released guide's own fill.sh prints them over the translation c6ad9cb5add4753e… (all of the seat's roots in one cut). By AI agents, Wed Nov 11 2026. No macro, syntax, notation, axiom, sorry.
-/
import Derived.Test.YtbhpnhcdjmcaoaaChecked
import GoSem.Claim
import GoSem.ClaimJoined
import GoSem.ClaimMapViews
import Derived.JoinedTies
import Derived.KernelRfl
namespace Go.Proofs.Ytbhpnhcdjmcaoaa
/- THE CELL 'sum', in the pinned program and in every row, IS THE sha256 OF THE DUMP (.gsa) THAT YtbhpnhcdjmcaoaaProg.lean LOADS. Nothing in Lean hashes anything: it is a label: what it is worth is what the hold of that sum in a sandbox is worth. -/
noncomputable def Try.pinned : Pinned := { name := "ytbhpnhcdjmcaoaa", sum := "c6ad9cb5add4753e8140d1343dc836e0f2380e324f8e78f8ee66f511be339222", checked := Try.checked }
namespace Rows
def none {H : Type} : Left H := { results := [], args := [] }

/-- 'skimmerlaw03.BoomCheapest': WHATEVER THE INPUT: true; the input reads as it did. -/
def boomCheapestSpec : ChangeSpec := { name := "boomCheapest", fn := fun _ => fun
  | [d] => { results := [.lit (.bool true)], args := [d] }
  | _ => none }
def boomCheapestRow : OpenClaim := { program := "ytbhpnhcdjmcaoaa", sum := "c6ad9cb5add4753e8140d1343dc836e0f2380e324f8e78f8ee66f511be339222", func := "skimmer/skimmerlaw03.BoomCheapest", spec := "boomCheapest", unfollowed := true, recurses := true, apart := false }
def BoomCheapestSaid : Prop := boomCheapestRow.holds Try.pinned (OpenSpec.ofChange boomCheapestSpec)

/-- ITS FALSE NEIGHBOUR: 'it returns false'. Refute it at one input. -/
def boomCheapestWrong : ChangeSpec := { name := "boomCheapest", fn := fun _ => fun
  | [d] => { results := [.lit (.bool false)], args := [d] }
  | _ => none }
def BoomCheapestWrongFalsely : Prop := boomCheapestRow.holds Try.pinned (OpenSpec.ofChange boomCheapestWrong)

/-- 'skimmerlaw03.BoomCharts': WHATEVER THE INPUT: true; the input reads as it did. -/
def boomChartsSpec : ChangeSpec := { name := "boomCharts", fn := fun _ => fun
  | [d1, d2, d3] => { results := [.lit (.bool true)], args := [d1, d2, d3] }
  | _ => none }
def boomChartsRow : OpenClaim := { program := "ytbhpnhcdjmcaoaa", sum := "c6ad9cb5add4753e8140d1343dc836e0f2380e324f8e78f8ee66f511be339222", func := "skimmer/skimmerlaw03.BoomCharts", spec := "boomCharts", unfollowed := true, recurses := true, apart := false }
def BoomChartsSaid : Prop := boomChartsRow.holds Try.pinned (OpenSpec.ofChange boomChartsSpec)

/-- ITS FALSE NEIGHBOUR: 'it returns false'. Refute it at one input. -/
def boomChartsWrong : ChangeSpec := { name := "boomCharts", fn := fun _ => fun
  | [d1, d2, d3] => { results := [.lit (.bool false)], args := [d1, d2, d3] }
  | _ => none }
def BoomChartsWrongFalsely : Prop := boomChartsRow.holds Try.pinned (OpenSpec.ofChange boomChartsWrong)

/-- 'skimmerlaw03.BoomHeights': WHATEVER THE INPUT: true; the input reads as it did. -/
def boomHeightsSpec : ChangeSpec := { name := "boomHeights", fn := fun _ => fun
  | [d1, d2, d3] => { results := [.lit (.bool true)], args := [d1, d2, d3] }
  | _ => none }
def boomHeightsRow : OpenClaim := { program := "ytbhpnhcdjmcaoaa", sum := "c6ad9cb5add4753e8140d1343dc836e0f2380e324f8e78f8ee66f511be339222", func := "skimmer/skimmerlaw03.BoomHeights", spec := "boomHeights", unfollowed := true, recurses := true, apart := false }
def BoomHeightsSaid : Prop := boomHeightsRow.holds Try.pinned (OpenSpec.ofChange boomHeightsSpec)

/-- ITS FALSE NEIGHBOUR: 'it returns false'. Refute it at one input. -/
def boomHeightsWrong : ChangeSpec := { name := "boomHeights", fn := fun _ => fun
  | [d1, d2, d3] => { results := [.lit (.bool false)], args := [d1, d2, d3] }
  | _ => none }
def BoomHeightsWrongFalsely : Prop := boomHeightsRow.holds Try.pinned (OpenSpec.ofChange boomHeightsWrong)

/-- 'skimmerlaw03.BoomTurns': WHATEVER THE INPUT: true; the input reads as it did. -/
def boomTurnsSpec : ChangeSpec := { name := "boomTurns", fn := fun _ => fun
  | [d1, d2] => { results := [.lit (.bool true)], args := [d1, d2] }
  | _ => none }
def boomTurnsRow : OpenClaim := { program := "ytbhpnhcdjmcaoaa", sum := "c6ad9cb5add4753e8140d1343dc836e0f2380e324f8e78f8ee66f511be339222", func := "skimmer/skimmerlaw03.BoomTurns", spec := "boomTurns", unfollowed := true, recurses := true, apart := false }
def BoomTurnsSaid : Prop := boomTurnsRow.holds Try.pinned (OpenSpec.ofChange boomTurnsSpec)

/-- ITS FALSE NEIGHBOUR: 'it returns false'. Refute it at one input. -/
def boomTurnsWrong : ChangeSpec := { name := "boomTurns", fn := fun _ => fun
  | [d1, d2] => { results := [.lit (.bool false)], args := [d1, d2] }
  | _ => none }
def BoomTurnsWrongFalsely : Prop := boomTurnsRow.holds Try.pinned (OpenSpec.ofChange boomTurnsWrong)

/-- 'skimmerlaw03.BoomBarriers': WHATEVER THE INPUT: true; the input reads as it did. -/
def boomBarriersSpec : ChangeSpec := { name := "boomBarriers", fn := fun _ => fun
  | [d1, d2] => { results := [.lit (.bool true)], args := [d1, d2] }
  | _ => none }
def boomBarriersRow : OpenClaim := { program := "ytbhpnhcdjmcaoaa", sum := "c6ad9cb5add4753e8140d1343dc836e0f2380e324f8e78f8ee66f511be339222", func := "skimmer/skimmerlaw03.BoomBarriers", spec := "boomBarriers", unfollowed := true, recurses := true, apart := false }
def BoomBarriersSaid : Prop := boomBarriersRow.holds Try.pinned (OpenSpec.ofChange boomBarriersSpec)

/-- ITS FALSE NEIGHBOUR: 'it returns false'. Refute it at one input. -/
def boomBarriersWrong : ChangeSpec := { name := "boomBarriers", fn := fun _ => fun
  | [d1, d2] => { results := [.lit (.bool false)], args := [d1, d2] }
  | _ => none }
def BoomBarriersWrongFalsely : Prop := boomBarriersRow.holds Try.pinned (OpenSpec.ofChange boomBarriersWrong)

/-- 'skimmerlaw03.BoomSets': WHATEVER THE INPUT: true; the input reads as it did. -/
def boomSetsSpec : ChangeSpec := { name := "boomSets", fn := fun _ => fun
  | [d1, d2, d3] => { results := [.lit (.bool true)], args := [d1, d2, d3] }
  | _ => none }
def boomSetsRow : OpenClaim := { program := "ytbhpnhcdjmcaoaa", sum := "c6ad9cb5add4753e8140d1343dc836e0f2380e324f8e78f8ee66f511be339222", func := "skimmer/skimmerlaw03.BoomSets", spec := "boomSets", unfollowed := true, recurses := true, apart := false }
def BoomSetsSaid : Prop := boomSetsRow.holds Try.pinned (OpenSpec.ofChange boomSetsSpec)

/-- ITS FALSE NEIGHBOUR: 'it returns false'. Refute it at one input. -/
def boomSetsWrong : ChangeSpec := { name := "boomSets", fn := fun _ => fun
  | [d1, d2, d3] => { results := [.lit (.bool false)], args := [d1, d2, d3] }
  | _ => none }
def BoomSetsWrongFalsely : Prop := boomSetsRow.holds Try.pinned (OpenSpec.ofChange boomSetsWrong)

/-- 'skimmerlaw03.BoomEither': WHATEVER THE INPUT: true; the input reads as it did. -/
def boomEitherSpec : ChangeSpec := { name := "boomEither", fn := fun _ => fun
  | [d1, d2] => { results := [.lit (.bool true)], args := [d1, d2] }
  | _ => none }
def boomEitherRow : OpenClaim := { program := "ytbhpnhcdjmcaoaa", sum := "c6ad9cb5add4753e8140d1343dc836e0f2380e324f8e78f8ee66f511be339222", func := "skimmer/skimmerlaw03.BoomEither", spec := "boomEither", unfollowed := true, recurses := true, apart := false }
def BoomEitherSaid : Prop := boomEitherRow.holds Try.pinned (OpenSpec.ofChange boomEitherSpec)

/-- ITS FALSE NEIGHBOUR: 'it returns false'. Refute it at one input. -/
def boomEitherWrong : ChangeSpec := { name := "boomEither", fn := fun _ => fun
  | [d1, d2] => { results := [.lit (.bool false)], args := [d1, d2] }
  | _ => none }
def BoomEitherWrongFalsely : Prop := boomEitherRow.holds Try.pinned (OpenSpec.ofChange boomEitherWrong)

/-- 'skimmerlaw03.BoomThins': WHATEVER THE INPUT: true; the input reads as it did. -/
def boomThinsSpec : ChangeSpec := { name := "boomThins", fn := fun _ => fun
  | [d1, d2, d3] => { results := [.lit (.bool true)], args := [d1, d2, d3] }
  | _ => none }
def boomThinsRow : OpenClaim := { program := "ytbhpnhcdjmcaoaa", sum := "c6ad9cb5add4753e8140d1343dc836e0f2380e324f8e78f8ee66f511be339222", func := "skimmer/skimmerlaw03.BoomThins", spec := "boomThins", unfollowed := true, recurses := true, apart := false }
def BoomThinsSaid : Prop := boomThinsRow.holds Try.pinned (OpenSpec.ofChange boomThinsSpec)

/-- ITS FALSE NEIGHBOUR: 'it returns false'. Refute it at one input. -/
def boomThinsWrong : ChangeSpec := { name := "boomThins", fn := fun _ => fun
  | [d1, d2, d3] => { results := [.lit (.bool false)], args := [d1, d2, d3] }
  | _ => none }
def BoomThinsWrongFalsely : Prop := boomThinsRow.holds Try.pinned (OpenSpec.ofChange boomThinsWrong)

/-- 'skimmerlaw03.BoomChannels': WHATEVER THE INPUT: true; the input reads as it did. -/
def boomChannelsSpec : ChangeSpec := { name := "boomChannels", fn := fun _ => fun
  | [d1, d2, d3] => { results := [.lit (.bool true)], args := [d1, d2, d3] }
  | _ => none }
def boomChannelsRow : OpenClaim := { program := "ytbhpnhcdjmcaoaa", sum := "c6ad9cb5add4753e8140d1343dc836e0f2380e324f8e78f8ee66f511be339222", func := "skimmer/skimmerlaw03.BoomChannels", spec := "boomChannels", unfollowed := true, recurses := true, apart := false }
def BoomChannelsSaid : Prop := boomChannelsRow.holds Try.pinned (OpenSpec.ofChange boomChannelsSpec)

/-- ITS FALSE NEIGHBOUR: 'it returns false'. Refute it at one input. -/
def boomChannelsWrong : ChangeSpec := { name := "boomChannels", fn := fun _ => fun
  | [d1, d2, d3] => { results := [.lit (.bool false)], args := [d1, d2, d3] }
  | _ => none }
def BoomChannelsWrongFalsely : Prop := boomChannelsRow.holds Try.pinned (OpenSpec.ofChange boomChannelsWrong)

/-- 'skimmerlaw03.BoomProofs': WHATEVER THE INPUT: true; the input reads as it did. -/
def boomProofsSpec : ChangeSpec := { name := "boomProofs", fn := fun _ => fun
  | [d1, d2, d3, d4] => { results := [.lit (.bool true)], args := [d1, d2, d3, d4] }
  | _ => none }
def boomProofsRow : OpenClaim := { program := "ytbhpnhcdjmcaoaa", sum := "c6ad9cb5add4753e8140d1343dc836e0f2380e324f8e78f8ee66f511be339222", func := "skimmer/skimmerlaw03.BoomProofs", spec := "boomProofs", unfollowed := true, recurses := true, apart := false }
def BoomProofsSaid : Prop := boomProofsRow.holds Try.pinned (OpenSpec.ofChange boomProofsSpec)

/-- ITS FALSE NEIGHBOUR: 'it returns false'. Refute it at one input. -/
def boomProofsWrong : ChangeSpec := { name := "boomProofs", fn := fun _ => fun
  | [d1, d2, d3, d4] => { results := [.lit (.bool false)], args := [d1, d2, d3, d4] }
  | _ => none }
def BoomProofsWrongFalsely : Prop := boomProofsRow.holds Try.pinned (OpenSpec.ofChange boomProofsWrong)

/-- 'skimmerlaw03.BoomFloods': WHATEVER THE INPUT: true; the input reads as it did. -/
def boomFloodsSpec : ChangeSpec := { name := "boomFloods", fn := fun _ => fun
  | [d1, d2] => { results := [.lit (.bool true)], args := [d1, d2] }
  | _ => none }
def boomFloodsRow : OpenClaim := { program := "ytbhpnhcdjmcaoaa", sum := "c6ad9cb5add4753e8140d1343dc836e0f2380e324f8e78f8ee66f511be339222", func := "skimmer/skimmerlaw03.BoomFloods", spec := "boomFloods", unfollowed := true, recurses := true, apart := false }
def BoomFloodsSaid : Prop := boomFloodsRow.holds Try.pinned (OpenSpec.ofChange boomFloodsSpec)

/-- ITS FALSE NEIGHBOUR: 'it returns false'. Refute it at one input. -/
def boomFloodsWrong : ChangeSpec := { name := "boomFloods", fn := fun _ => fun
  | [d1, d2] => { results := [.lit (.bool false)], args := [d1, d2] }
  | _ => none }
def BoomFloodsWrongFalsely : Prop := boomFloodsRow.holds Try.pinned (OpenSpec.ofChange boomFloodsWrong)

/-- 'skimmerlaw03.BoomWet': WHATEVER THE INPUT: true; the input reads as it did. -/
def boomWetSpec : ChangeSpec := { name := "boomWet", fn := fun _ => fun
  | [d1, d2, d3] => { results := [.lit (.bool true)], args := [d1, d2, d3] }
  | _ => none }
def boomWetRow : OpenClaim := { program := "ytbhpnhcdjmcaoaa", sum := "c6ad9cb5add4753e8140d1343dc836e0f2380e324f8e78f8ee66f511be339222", func := "skimmer/skimmerlaw03.BoomWet", spec := "boomWet", unfollowed := true, recurses := true, apart := false }
def BoomWetSaid : Prop := boomWetRow.holds Try.pinned (OpenSpec.ofChange boomWetSpec)

/-- ITS FALSE NEIGHBOUR: 'it returns false'. Refute it at one input. -/
def boomWetWrong : ChangeSpec := { name := "boomWet", fn := fun _ => fun
  | [d1, d2, d3] => { results := [.lit (.bool false)], args := [d1, d2, d3] }
  | _ => none }
def BoomWetWrongFalsely : Prop := boomWetRow.holds Try.pinned (OpenSpec.ofChange boomWetWrong)

/-- 'skimmertop.TopBoom': WHATEVER THE INPUT: true; the input reads as it did. -/
def topBoomSpec : ChangeSpec := { name := "topBoom", fn := fun _ => fun
  | [d1, d2, d3, d4, d5] => { results := [.lit (.bool true)], args := [d1, d2, d3, d4, d5] }
  | _ => none }
def topBoomRow : OpenClaim := { program := "ytbhpnhcdjmcaoaa", sum := "c6ad9cb5add4753e8140d1343dc836e0f2380e324f8e78f8ee66f511be339222", func := "skimmer/skimmertop.TopBoom", spec := "topBoom", unfollowed := true, recurses := true, apart := false }
def TopBoomSaid : Prop := topBoomRow.holds Try.pinned (OpenSpec.ofChange topBoomSpec)

/-- ITS FALSE NEIGHBOUR: 'it returns false'. Refute it at one input. -/
def topBoomWrong : ChangeSpec := { name := "topBoom", fn := fun _ => fun
  | [d1, d2, d3, d4, d5] => { results := [.lit (.bool false)], args := [d1, d2, d3, d4, d5] }
  | _ => none }
def TopBoomWrongFalsely : Prop := topBoomRow.holds Try.pinned (OpenSpec.ofChange topBoomWrong)

/- THE SECOND FORM. 'bulk': how many values and letters a reading holds, each counted each time it is reached (what is shared counts as often as it is met; a slice's spare places count too). A statement '..UptoSaid' is the law's where the arguments, and the package variables that the reading takes, are together of bulk at most 1048576: NARROWER than '..Said'. Prove '..Said' where nothing that the law and all that it calls make is longer than what came in: it says more and counts as full. Else prove '..UptoSaid'. A law counts once. -/
mutual
def uptoBulk {H : Type} : DataW H → Nat
  | .lit (.string bytes) => bytes.length + 1
  | .lit _ => 1
  | .nil => 1
  | .ptr d => uptoBulk d + 1
  | .slice elems spare => uptoBulkAll elems + uptoBulkAll spare + 1
  | .agg parts => uptoBulkAll parts + 1
  | .iface _ d => uptoBulk d + 1
  | .map entries => uptoBulkEntries entries + 1
  | .held _ => 1
def uptoBulkAll {H : Type} : List (DataW H) → Nat
  | [] => 0
  | d :: r => uptoBulk d + uptoBulkAll r
def uptoBulkEntries {H : Type} : List (Lit × DataW H) → Nat
  | [] => 0
  | x :: r => uptoBulkEntry x + uptoBulkEntries r
def uptoBulkEntry {H : Type} : Lit × DataW H → Nat
  | (.string bytes, d) => bytes.length + uptoBulk d + 1
  | (_, d) => uptoBulk d + 1
 end
def uptoSmall : (H : Type) → List (DataW H) → Bool := fun _ ds => decide (uptoBulkAll ds ≤ 1048576)
def OpenSpec.upto (s : _root_.Go.ChangeSpec) : _root_.Go.OpenSpec := { _root_.Go.OpenSpec.ofChange s with cond := some uptoSmall }

/-- 'skimmerlaw03.BoomCheapest', WHERE WHAT IT READS IS OF BULK AT MOST 1048576: true; the input reads as it did. -/
def boomCheapestUptoRow : OpenClaim := { program := "ytbhpnhcdjmcaoaa", sum := "c6ad9cb5add4753e8140d1343dc836e0f2380e324f8e78f8ee66f511be339222", func := "skimmer/skimmerlaw03.BoomCheapest", spec := "boomCheapest", unfollowed := true, recurses := true, apart := false, narrowed := true }
def BoomCheapestUptoSaid : Prop := boomCheapestUptoRow.holds Try.pinned (OpenSpec.upto boomCheapestSpec)

/-- 'skimmerlaw03.BoomCharts', WHERE WHAT IT READS IS OF BULK AT MOST 1048576: true; the input reads as it did. -/
def boomChartsUptoRow : OpenClaim := { program := "ytbhpnhcdjmcaoaa", sum := "c6ad9cb5add4753e8140d1343dc836e0f2380e324f8e78f8ee66f511be339222", func := "skimmer/skimmerlaw03.BoomCharts", spec := "boomCharts", unfollowed := true, recurses := true, apart := false, narrowed := true }
def BoomChartsUptoSaid : Prop := boomChartsUptoRow.holds Try.pinned (OpenSpec.upto boomChartsSpec)

/-- 'skimmerlaw03.BoomHeights', WHERE WHAT IT READS IS OF BULK AT MOST 1048576: true; the input reads as it did. -/
def boomHeightsUptoRow : OpenClaim := { program := "ytbhpnhcdjmcaoaa", sum := "c6ad9cb5add4753e8140d1343dc836e0f2380e324f8e78f8ee66f511be339222", func := "skimmer/skimmerlaw03.BoomHeights", spec := "boomHeights", unfollowed := true, recurses := true, apart := false, narrowed := true }
def BoomHeightsUptoSaid : Prop := boomHeightsUptoRow.holds Try.pinned (OpenSpec.upto boomHeightsSpec)

/-- 'skimmerlaw03.BoomTurns', WHERE WHAT IT READS IS OF BULK AT MOST 1048576: true; the input reads as it did. -/
def boomTurnsUptoRow : OpenClaim := { program := "ytbhpnhcdjmcaoaa", sum := "c6ad9cb5add4753e8140d1343dc836e0f2380e324f8e78f8ee66f511be339222", func := "skimmer/skimmerlaw03.BoomTurns", spec := "boomTurns", unfollowed := true, recurses := true, apart := false, narrowed := true }
def BoomTurnsUptoSaid : Prop := boomTurnsUptoRow.holds Try.pinned (OpenSpec.upto boomTurnsSpec)

/-- 'skimmerlaw03.BoomBarriers', WHERE WHAT IT READS IS OF BULK AT MOST 1048576: true; the input reads as it did. -/
def boomBarriersUptoRow : OpenClaim := { program := "ytbhpnhcdjmcaoaa", sum := "c6ad9cb5add4753e8140d1343dc836e0f2380e324f8e78f8ee66f511be339222", func := "skimmer/skimmerlaw03.BoomBarriers", spec := "boomBarriers", unfollowed := true, recurses := true, apart := false, narrowed := true }
def BoomBarriersUptoSaid : Prop := boomBarriersUptoRow.holds Try.pinned (OpenSpec.upto boomBarriersSpec)

/-- 'skimmerlaw03.BoomSets', WHERE WHAT IT READS IS OF BULK AT MOST 1048576: true; the input reads as it did. -/
def boomSetsUptoRow : OpenClaim := { program := "ytbhpnhcdjmcaoaa", sum := "c6ad9cb5add4753e8140d1343dc836e0f2380e324f8e78f8ee66f511be339222", func := "skimmer/skimmerlaw03.BoomSets", spec := "boomSets", unfollowed := true, recurses := true, apart := false, narrowed := true }
def BoomSetsUptoSaid : Prop := boomSetsUptoRow.holds Try.pinned (OpenSpec.upto boomSetsSpec)

/-- 'skimmerlaw03.BoomEither', WHERE WHAT IT READS IS OF BULK AT MOST 1048576: true; the input reads as it did. -/
def boomEitherUptoRow : OpenClaim := { program := "ytbhpnhcdjmcaoaa", sum := "c6ad9cb5add4753e8140d1343dc836e0f2380e324f8e78f8ee66f511be339222", func := "skimmer/skimmerlaw03.BoomEither", spec := "boomEither", unfollowed := true, recurses := true, apart := false, narrowed := true }
def BoomEitherUptoSaid : Prop := boomEitherUptoRow.holds Try.pinned (OpenSpec.upto boomEitherSpec)

/-- 'skimmerlaw03.BoomThins', WHERE WHAT IT READS IS OF BULK AT MOST 1048576: true; the input reads as it did. -/
def boomThinsUptoRow : OpenClaim := { program := "ytbhpnhcdjmcaoaa", sum := "c6ad9cb5add4753e8140d1343dc836e0f2380e324f8e78f8ee66f511be339222", func := "skimmer/skimmerlaw03.BoomThins", spec := "boomThins", unfollowed := true, recurses := true, apart := false, narrowed := true }
def BoomThinsUptoSaid : Prop := boomThinsUptoRow.holds Try.pinned (OpenSpec.upto boomThinsSpec)

/-- 'skimmerlaw03.BoomChannels', WHERE WHAT IT READS IS OF BULK AT MOST 1048576: true; the input reads as it did. -/
def boomChannelsUptoRow : OpenClaim := { program := "ytbhpnhcdjmcaoaa", sum := "c6ad9cb5add4753e8140d1343dc836e0f2380e324f8e78f8ee66f511be339222", func := "skimmer/skimmerlaw03.BoomChannels", spec := "boomChannels", unfollowed := true, recurses := true, apart := false, narrowed := true }
def BoomChannelsUptoSaid : Prop := boomChannelsUptoRow.holds Try.pinned (OpenSpec.upto boomChannelsSpec)

/-- 'skimmerlaw03.BoomProofs', WHERE WHAT IT READS IS OF BULK AT MOST 1048576: true; the input reads as it did. -/
def boomProofsUptoRow : OpenClaim := { program := "ytbhpnhcdjmcaoaa", sum := "c6ad9cb5add4753e8140d1343dc836e0f2380e324f8e78f8ee66f511be339222", func := "skimmer/skimmerlaw03.BoomProofs", spec := "boomProofs", unfollowed := true, recurses := true, apart := false, narrowed := true }
def BoomProofsUptoSaid : Prop := boomProofsUptoRow.holds Try.pinned (OpenSpec.upto boomProofsSpec)

/-- 'skimmerlaw03.BoomFloods', WHERE WHAT IT READS IS OF BULK AT MOST 1048576: true; the input reads as it did. -/
def boomFloodsUptoRow : OpenClaim := { program := "ytbhpnhcdjmcaoaa", sum := "c6ad9cb5add4753e8140d1343dc836e0f2380e324f8e78f8ee66f511be339222", func := "skimmer/skimmerlaw03.BoomFloods", spec := "boomFloods", unfollowed := true, recurses := true, apart := false, narrowed := true }
def BoomFloodsUptoSaid : Prop := boomFloodsUptoRow.holds Try.pinned (OpenSpec.upto boomFloodsSpec)

/-- 'skimmerlaw03.BoomWet', WHERE WHAT IT READS IS OF BULK AT MOST 1048576: true; the input reads as it did. -/
def boomWetUptoRow : OpenClaim := { program := "ytbhpnhcdjmcaoaa", sum := "c6ad9cb5add4753e8140d1343dc836e0f2380e324f8e78f8ee66f511be339222", func := "skimmer/skimmerlaw03.BoomWet", spec := "boomWet", unfollowed := true, recurses := true, apart := false, narrowed := true }
def BoomWetUptoSaid : Prop := boomWetUptoRow.holds Try.pinned (OpenSpec.upto boomWetSpec)

/-- 'skimmertop.TopBoom', WHERE WHAT IT READS IS OF BULK AT MOST 1048576: true; the input reads as it did. -/
def topBoomUptoRow : OpenClaim := { program := "ytbhpnhcdjmcaoaa", sum := "c6ad9cb5add4753e8140d1343dc836e0f2380e324f8e78f8ee66f511be339222", func := "skimmer/skimmertop.TopBoom", spec := "topBoom", unfollowed := true, recurses := true, apart := false, narrowed := true }
def TopBoomUptoSaid : Prop := topBoomUptoRow.holds Try.pinned (OpenSpec.upto topBoomSpec)

end Rows
end Go.Proofs.Ytbhpnhcdjmcaoaa
