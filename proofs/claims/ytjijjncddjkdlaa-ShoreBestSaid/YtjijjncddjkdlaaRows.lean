/-
  No cell of these rows narrows 'for every input' (looked for: loops, veiled, ifaces, maps, wideKeys, modest, calm, conditions, laid).
  DERIVED. THE GIVEN ROWS OF THIS SEAT. 11 by the template 'for every input the law returns true; each argument reads behind the call as it read before'; 0 by the template 'total and deterministic' (their statements: YtjijjncddjkdlaaTotals.lean).
  GIVEN WITH THE SEED: the statements are not yours to turn. If you find one false, say at which input.
  Laid BY PROGRAM, IN A SANDBOX (cutbox-rows.mjs): the forced cells as the released guide's own fill.sh prints them over the translation ed572eeaacaa4ce9… (all of the seat's roots in one cut). By AI agents, Wed Nov 11 2026. No macro, syntax, notation, axiom, sorry.
-/
import Derived.Test.YtjijjncddjkdlaaChecked
import GoSem.Claim
import GoSem.ClaimJoined
import GoSem.ClaimMapViews
import Derived.JoinedTies
import Derived.KernelRfl
namespace Go.Proofs.Ytjijjncddjkdlaa
/- THE CELL 'sum', in the pinned program and in every row, IS THE sha256 OF THE DUMP (.gsa) THAT YtjijjncddjkdlaaProg.lean LOADS. Nothing in Lean hashes anything: it is a label: what it is worth is what the hold of that sum in a sandbox is worth. -/
noncomputable def Try.pinned : Pinned := { name := "ytjijjncddjkdlaa", sum := "ed572eeaacaa4ce9ad2780c7bfef3278542499c703c79cfff54010b2edfa27cf", checked := Try.checked }
namespace Rows
def none {H : Type} : Left H := { results := [], args := [] }

/-- 'skimmerlaw06.ShoreLeads': WHATEVER THE INPUT: true; the input reads as it did. -/
def shoreLeadsSpec : ChangeSpec := { name := "shoreLeads", fn := fun _ => fun
  | [d1, d2, d3] => { results := [.lit (.bool true)], args := [d1, d2, d3] }
  | _ => none }
def shoreLeadsRow : OpenClaim := { program := "ytjijjncddjkdlaa", sum := "ed572eeaacaa4ce9ad2780c7bfef3278542499c703c79cfff54010b2edfa27cf", func := "skimmer/skimmerlaw06.ShoreLeads", spec := "shoreLeads", unfollowed := true, recurses := true, plainKeys := false, apart := false }
def ShoreLeadsSaid : Prop := shoreLeadsRow.holds Try.pinned (OpenSpec.ofChange shoreLeadsSpec)

/-- ITS FALSE NEIGHBOUR: 'it returns false'. Refute it at one input. -/
def shoreLeadsWrong : ChangeSpec := { name := "shoreLeads", fn := fun _ => fun
  | [d1, d2, d3] => { results := [.lit (.bool false)], args := [d1, d2, d3] }
  | _ => none }
def ShoreLeadsWrongFalsely : Prop := shoreLeadsRow.holds Try.pinned (OpenSpec.ofChange shoreLeadsWrong)

/-- 'skimmerlaw06.ShoreMore': WHATEVER THE INPUT: true; the input reads as it did. -/
def shoreMoreSpec : ChangeSpec := { name := "shoreMore", fn := fun _ => fun
  | [d1, d2, d3] => { results := [.lit (.bool true)], args := [d1, d2, d3] }
  | _ => none }
def shoreMoreRow : OpenClaim := { program := "ytjijjncddjkdlaa", sum := "ed572eeaacaa4ce9ad2780c7bfef3278542499c703c79cfff54010b2edfa27cf", func := "skimmer/skimmerlaw06.ShoreMore", spec := "shoreMore", unfollowed := true, recurses := true, plainKeys := false, apart := false }
def ShoreMoreSaid : Prop := shoreMoreRow.holds Try.pinned (OpenSpec.ofChange shoreMoreSpec)

/-- ITS FALSE NEIGHBOUR: 'it returns false'. Refute it at one input. -/
def shoreMoreWrong : ChangeSpec := { name := "shoreMore", fn := fun _ => fun
  | [d1, d2, d3] => { results := [.lit (.bool false)], args := [d1, d2, d3] }
  | _ => none }
def ShoreMoreWrongFalsely : Prop := shoreMoreRow.holds Try.pinned (OpenSpec.ofChange shoreMoreWrong)

/-- 'skimmerlaw06.ShoreOrders': WHATEVER THE INPUT: true; the input reads as it did. -/
def shoreOrdersSpec : ChangeSpec := { name := "shoreOrders", fn := fun _ => fun
  | [d1, d2] => { results := [.lit (.bool true)], args := [d1, d2] }
  | _ => none }
def shoreOrdersRow : OpenClaim := { program := "ytjijjncddjkdlaa", sum := "ed572eeaacaa4ce9ad2780c7bfef3278542499c703c79cfff54010b2edfa27cf", func := "skimmer/skimmerlaw06.ShoreOrders", spec := "shoreOrders", unfollowed := true, recurses := true, plainKeys := false, apart := false }
def ShoreOrdersSaid : Prop := shoreOrdersRow.holds Try.pinned (OpenSpec.ofChange shoreOrdersSpec)

/-- ITS FALSE NEIGHBOUR: 'it returns false'. Refute it at one input. -/
def shoreOrdersWrong : ChangeSpec := { name := "shoreOrders", fn := fun _ => fun
  | [d1, d2] => { results := [.lit (.bool false)], args := [d1, d2] }
  | _ => none }
def ShoreOrdersWrongFalsely : Prop := shoreOrdersRow.holds Try.pinned (OpenSpec.ofChange shoreOrdersWrong)

/-- 'skimmerlaw06.ShoreSwapped': WHATEVER THE INPUT: true; the input reads as it did. -/
def shoreSwappedSpec : ChangeSpec := { name := "shoreSwapped", fn := fun _ => fun
  | [d1, d2, d3] => { results := [.lit (.bool true)], args := [d1, d2, d3] }
  | _ => none }
def shoreSwappedRow : OpenClaim := { program := "ytjijjncddjkdlaa", sum := "ed572eeaacaa4ce9ad2780c7bfef3278542499c703c79cfff54010b2edfa27cf", func := "skimmer/skimmerlaw06.ShoreSwapped", spec := "shoreSwapped", unfollowed := true, recurses := true, plainKeys := false, apart := false }
def ShoreSwappedSaid : Prop := shoreSwappedRow.holds Try.pinned (OpenSpec.ofChange shoreSwappedSpec)

/-- ITS FALSE NEIGHBOUR: 'it returns false'. Refute it at one input. -/
def shoreSwappedWrong : ChangeSpec := { name := "shoreSwapped", fn := fun _ => fun
  | [d1, d2, d3] => { results := [.lit (.bool false)], args := [d1, d2, d3] }
  | _ => none }
def ShoreSwappedWrongFalsely : Prop := shoreSwappedRow.holds Try.pinned (OpenSpec.ofChange shoreSwappedWrong)

/-- 'skimmerlaw06.ShoreBest': WHATEVER THE INPUT: true; the input reads as it did. -/
def shoreBestSpec : ChangeSpec := { name := "shoreBest", fn := fun _ => fun
  | [d] => { results := [.lit (.bool true)], args := [d] }
  | _ => none }
def shoreBestRow : OpenClaim := { program := "ytjijjncddjkdlaa", sum := "ed572eeaacaa4ce9ad2780c7bfef3278542499c703c79cfff54010b2edfa27cf", func := "skimmer/skimmerlaw06.ShoreBest", spec := "shoreBest", unfollowed := true, recurses := true, plainKeys := false, apart := false }
def ShoreBestSaid : Prop := shoreBestRow.holds Try.pinned (OpenSpec.ofChange shoreBestSpec)

/-- ITS FALSE NEIGHBOUR: 'it returns false'. Refute it at one input. -/
def shoreBestWrong : ChangeSpec := { name := "shoreBest", fn := fun _ => fun
  | [d] => { results := [.lit (.bool false)], args := [d] }
  | _ => none }
def ShoreBestWrongFalsely : Prop := shoreBestRow.holds Try.pinned (OpenSpec.ofChange shoreBestWrong)

/-- 'skimmerlaw06.ShoreOthers': WHATEVER THE INPUT: true; the input reads as it did. -/
def shoreOthersSpec : ChangeSpec := { name := "shoreOthers", fn := fun _ => fun
  | [d] => { results := [.lit (.bool true)], args := [d] }
  | _ => none }
def shoreOthersRow : OpenClaim := { program := "ytjijjncddjkdlaa", sum := "ed572eeaacaa4ce9ad2780c7bfef3278542499c703c79cfff54010b2edfa27cf", func := "skimmer/skimmerlaw06.ShoreOthers", spec := "shoreOthers", unfollowed := true, recurses := true, plainKeys := false, apart := false }
def ShoreOthersSaid : Prop := shoreOthersRow.holds Try.pinned (OpenSpec.ofChange shoreOthersSpec)

/-- ITS FALSE NEIGHBOUR: 'it returns false'. Refute it at one input. -/
def shoreOthersWrong : ChangeSpec := { name := "shoreOthers", fn := fun _ => fun
  | [d] => { results := [.lit (.bool false)], args := [d] }
  | _ => none }
def ShoreOthersWrongFalsely : Prop := shoreOthersRow.holds Try.pinned (OpenSpec.ofChange shoreOthersWrong)

/-- 'skimmertop.TopShore': WHATEVER THE INPUT: true; the input reads as it did. -/
def topShoreSpec : ChangeSpec := { name := "topShore", fn := fun _ => fun
  | [d1, d2] => { results := [.lit (.bool true)], args := [d1, d2] }
  | _ => none }
def topShoreRow : OpenClaim := { program := "ytjijjncddjkdlaa", sum := "ed572eeaacaa4ce9ad2780c7bfef3278542499c703c79cfff54010b2edfa27cf", func := "skimmer/skimmertop.TopShore", spec := "topShore", unfollowed := true, recurses := true, plainKeys := false, apart := false }
def TopShoreSaid : Prop := topShoreRow.holds Try.pinned (OpenSpec.ofChange topShoreSpec)

/-- ITS FALSE NEIGHBOUR: 'it returns false'. Refute it at one input. -/
def topShoreWrong : ChangeSpec := { name := "topShore", fn := fun _ => fun
  | [d1, d2] => { results := [.lit (.bool false)], args := [d1, d2] }
  | _ => none }
def TopShoreWrongFalsely : Prop := topShoreRow.holds Try.pinned (OpenSpec.ofChange topShoreWrong)

/-- 'skimmerlaw06.ShoreSwaps': WHATEVER THE INPUT: true; the input reads as it did. -/
def shoreSwapsSpec : ChangeSpec := { name := "shoreSwaps", fn := fun _ => fun
  | [d1, d2, d3] => { results := [.lit (.bool true)], args := [d1, d2, d3] }
  | _ => none }
def shoreSwapsRow : OpenClaim := { program := "ytjijjncddjkdlaa", sum := "ed572eeaacaa4ce9ad2780c7bfef3278542499c703c79cfff54010b2edfa27cf", func := "skimmer/skimmerlaw06.ShoreSwaps", spec := "shoreSwaps", unfollowed := true, recurses := true, plainKeys := false, apart := false }
def ShoreSwapsSaid : Prop := shoreSwapsRow.holds Try.pinned (OpenSpec.ofChange shoreSwapsSpec)

/-- ITS FALSE NEIGHBOUR: 'it returns false'. Refute it at one input. -/
def shoreSwapsWrong : ChangeSpec := { name := "shoreSwaps", fn := fun _ => fun
  | [d1, d2, d3] => { results := [.lit (.bool false)], args := [d1, d2, d3] }
  | _ => none }
def ShoreSwapsWrongFalsely : Prop := shoreSwapsRow.holds Try.pinned (OpenSpec.ofChange shoreSwapsWrong)

/-- 'skimmerlaw06.ShoreEnds': WHATEVER THE INPUT: true; the input reads as it did. -/
def shoreEndsSpec : ChangeSpec := { name := "shoreEnds", fn := fun _ => fun
  | [d1, d2] => { results := [.lit (.bool true)], args := [d1, d2] }
  | _ => none }
def shoreEndsRow : OpenClaim := { program := "ytjijjncddjkdlaa", sum := "ed572eeaacaa4ce9ad2780c7bfef3278542499c703c79cfff54010b2edfa27cf", func := "skimmer/skimmerlaw06.ShoreEnds", spec := "shoreEnds", unfollowed := true, recurses := true, plainKeys := false, apart := false }
def ShoreEndsSaid : Prop := shoreEndsRow.holds Try.pinned (OpenSpec.ofChange shoreEndsSpec)

/-- ITS FALSE NEIGHBOUR: 'it returns false'. Refute it at one input. -/
def shoreEndsWrong : ChangeSpec := { name := "shoreEnds", fn := fun _ => fun
  | [d1, d2] => { results := [.lit (.bool false)], args := [d1, d2] }
  | _ => none }
def ShoreEndsWrongFalsely : Prop := shoreEndsRow.holds Try.pinned (OpenSpec.ofChange shoreEndsWrong)

/-- 'skimmerlaw06.ShoreCounts': WHATEVER THE INPUT: true; the input reads as it did. -/
def shoreCountsSpec : ChangeSpec := { name := "shoreCounts", fn := fun _ => fun
  | [d] => { results := [.lit (.bool true)], args := [d] }
  | _ => none }
def shoreCountsRow : OpenClaim := { program := "ytjijjncddjkdlaa", sum := "ed572eeaacaa4ce9ad2780c7bfef3278542499c703c79cfff54010b2edfa27cf", func := "skimmer/skimmerlaw06.ShoreCounts", spec := "shoreCounts", unfollowed := true, recurses := true, plainKeys := false, apart := false }
def ShoreCountsSaid : Prop := shoreCountsRow.holds Try.pinned (OpenSpec.ofChange shoreCountsSpec)

/-- ITS FALSE NEIGHBOUR: 'it returns false'. Refute it at one input. -/
def shoreCountsWrong : ChangeSpec := { name := "shoreCounts", fn := fun _ => fun
  | [d] => { results := [.lit (.bool false)], args := [d] }
  | _ => none }
def ShoreCountsWrongFalsely : Prop := shoreCountsRow.holds Try.pinned (OpenSpec.ofChange shoreCountsWrong)

/-- 'skimmerlaw06.ShoreFrees': WHATEVER THE INPUT: true; the input reads as it did. -/
def shoreFreesSpec : ChangeSpec := { name := "shoreFrees", fn := fun _ => fun
  | [d] => { results := [.lit (.bool true)], args := [d] }
  | _ => none }
def shoreFreesRow : OpenClaim := { program := "ytjijjncddjkdlaa", sum := "ed572eeaacaa4ce9ad2780c7bfef3278542499c703c79cfff54010b2edfa27cf", func := "skimmer/skimmerlaw06.ShoreFrees", spec := "shoreFrees", unfollowed := true, recurses := true, plainKeys := false, apart := false }
def ShoreFreesSaid : Prop := shoreFreesRow.holds Try.pinned (OpenSpec.ofChange shoreFreesSpec)

/-- ITS FALSE NEIGHBOUR: 'it returns false'. Refute it at one input. -/
def shoreFreesWrong : ChangeSpec := { name := "shoreFrees", fn := fun _ => fun
  | [d] => { results := [.lit (.bool false)], args := [d] }
  | _ => none }
def ShoreFreesWrongFalsely : Prop := shoreFreesRow.holds Try.pinned (OpenSpec.ofChange shoreFreesWrong)

/- THE SECOND FORM. 'bulk': how many values and letters a reading holds, each counted each time it is reached (what is shared counts as often as it is met; a slice's spare places count too). A statement '..UptoSaid' is the law's where the arguments, and the package variables that the reading takes, are together of bulk at most 1048576: NARROWER than '..Said'. Prove '..Said' where nothing that the law and all that it calls make is longer than what came in: it says more and counts as full. Else prove '..UptoSaid'. A law counts once. -/
mutual
def uptoBulk {H : Type} : DataW H → Nat
  | .lit (.string bytes) => bytes.length + 1
  | .lit _ => 1
  | .nil => 1
  | .ptr d => uptoBulk d + 1
  | .slice elems spare => uptoBulkAll elems + uptoBulkAll spare + 1
  | .agg parts => uptoBulkAll parts + 1
  | .iface _ d => uptoBulk d + 1
  | .map entries => uptoBulkEntries entries + 1
  | .held _ => 1
def uptoBulkAll {H : Type} : List (DataW H) → Nat
  | [] => 0
  | d :: r => uptoBulk d + uptoBulkAll r
def uptoBulkEntries {H : Type} : List (Lit × DataW H) → Nat
  | [] => 0
  | x :: r => uptoBulkEntry x + uptoBulkEntries r
def uptoBulkEntry {H : Type} : Lit × DataW H → Nat
  | (.string bytes, d) => bytes.length + uptoBulk d + 1
  | (_, d) => uptoBulk d + 1
 end
def uptoSmall : (H : Type) → List (DataW H) → Bool := fun _ ds => decide (uptoBulkAll ds ≤ 1048576)
def OpenSpec.upto (s : _root_.Go.ChangeSpec) : _root_.Go.OpenSpec := { _root_.Go.OpenSpec.ofChange s with cond := some uptoSmall }

/-- 'skimmerlaw06.ShoreLeads', WHERE WHAT IT READS IS OF BULK AT MOST 1048576: true; the input reads as it did. -/
def shoreLeadsUptoRow : OpenClaim := { program := "ytjijjncddjkdlaa", sum := "ed572eeaacaa4ce9ad2780c7bfef3278542499c703c79cfff54010b2edfa27cf", func := "skimmer/skimmerlaw06.ShoreLeads", spec := "shoreLeads", unfollowed := true, recurses := true, plainKeys := false, apart := false, narrowed := true }
def ShoreLeadsUptoSaid : Prop := shoreLeadsUptoRow.holds Try.pinned (OpenSpec.upto shoreLeadsSpec)

/-- 'skimmerlaw06.ShoreMore', WHERE WHAT IT READS IS OF BULK AT MOST 1048576: true; the input reads as it did. -/
def shoreMoreUptoRow : OpenClaim := { program := "ytjijjncddjkdlaa", sum := "ed572eeaacaa4ce9ad2780c7bfef3278542499c703c79cfff54010b2edfa27cf", func := "skimmer/skimmerlaw06.ShoreMore", spec := "shoreMore", unfollowed := true, recurses := true, plainKeys := false, apart := false, narrowed := true }
def ShoreMoreUptoSaid : Prop := shoreMoreUptoRow.holds Try.pinned (OpenSpec.upto shoreMoreSpec)

/-- 'skimmerlaw06.ShoreOrders', WHERE WHAT IT READS IS OF BULK AT MOST 1048576: true; the input reads as it did. -/
def shoreOrdersUptoRow : OpenClaim := { program := "ytjijjncddjkdlaa", sum := "ed572eeaacaa4ce9ad2780c7bfef3278542499c703c79cfff54010b2edfa27cf", func := "skimmer/skimmerlaw06.ShoreOrders", spec := "shoreOrders", unfollowed := true, recurses := true, plainKeys := false, apart := false, narrowed := true }
def ShoreOrdersUptoSaid : Prop := shoreOrdersUptoRow.holds Try.pinned (OpenSpec.upto shoreOrdersSpec)

/-- 'skimmerlaw06.ShoreSwapped', WHERE WHAT IT READS IS OF BULK AT MOST 1048576: true; the input reads as it did. -/
def shoreSwappedUptoRow : OpenClaim := { program := "ytjijjncddjkdlaa", sum := "ed572eeaacaa4ce9ad2780c7bfef3278542499c703c79cfff54010b2edfa27cf", func := "skimmer/skimmerlaw06.ShoreSwapped", spec := "shoreSwapped", unfollowed := true, recurses := true, plainKeys := false, apart := false, narrowed := true }
def ShoreSwappedUptoSaid : Prop := shoreSwappedUptoRow.holds Try.pinned (OpenSpec.upto shoreSwappedSpec)

/-- 'skimmerlaw06.ShoreBest', WHERE WHAT IT READS IS OF BULK AT MOST 1048576: true; the input reads as it did. -/
def shoreBestUptoRow : OpenClaim := { program := "ytjijjncddjkdlaa", sum := "ed572eeaacaa4ce9ad2780c7bfef3278542499c703c79cfff54010b2edfa27cf", func := "skimmer/skimmerlaw06.ShoreBest", spec := "shoreBest", unfollowed := true, recurses := true, plainKeys := false, apart := false, narrowed := true }
def ShoreBestUptoSaid : Prop := shoreBestUptoRow.holds Try.pinned (OpenSpec.upto shoreBestSpec)

/-- 'skimmerlaw06.ShoreOthers', WHERE WHAT IT READS IS OF BULK AT MOST 1048576: true; the input reads as it did. -/
def shoreOthersUptoRow : OpenClaim := { program := "ytjijjncddjkdlaa", sum := "ed572eeaacaa4ce9ad2780c7bfef3278542499c703c79cfff54010b2edfa27cf", func := "skimmer/skimmerlaw06.ShoreOthers", spec := "shoreOthers", unfollowed := true, recurses := true, plainKeys := false, apart := false, narrowed := true }
def ShoreOthersUptoSaid : Prop := shoreOthersUptoRow.holds Try.pinned (OpenSpec.upto shoreOthersSpec)

/-- 'skimmertop.TopShore', WHERE WHAT IT READS IS OF BULK AT MOST 1048576: true; the input reads as it did. -/
def topShoreUptoRow : OpenClaim := { program := "ytjijjncddjkdlaa", sum := "ed572eeaacaa4ce9ad2780c7bfef3278542499c703c79cfff54010b2edfa27cf", func := "skimmer/skimmertop.TopShore", spec := "topShore", unfollowed := true, recurses := true, plainKeys := false, apart := false, narrowed := true }
def TopShoreUptoSaid : Prop := topShoreUptoRow.holds Try.pinned (OpenSpec.upto topShoreSpec)

/-- 'skimmerlaw06.ShoreSwaps', WHERE WHAT IT READS IS OF BULK AT MOST 1048576: true; the input reads as it did. -/
def shoreSwapsUptoRow : OpenClaim := { program := "ytjijjncddjkdlaa", sum := "ed572eeaacaa4ce9ad2780c7bfef3278542499c703c79cfff54010b2edfa27cf", func := "skimmer/skimmerlaw06.ShoreSwaps", spec := "shoreSwaps", unfollowed := true, recurses := true, plainKeys := false, apart := false, narrowed := true }
def ShoreSwapsUptoSaid : Prop := shoreSwapsUptoRow.holds Try.pinned (OpenSpec.upto shoreSwapsSpec)

/-- 'skimmerlaw06.ShoreEnds', WHERE WHAT IT READS IS OF BULK AT MOST 1048576: true; the input reads as it did. -/
def shoreEndsUptoRow : OpenClaim := { program := "ytjijjncddjkdlaa", sum := "ed572eeaacaa4ce9ad2780c7bfef3278542499c703c79cfff54010b2edfa27cf", func := "skimmer/skimmerlaw06.ShoreEnds", spec := "shoreEnds", unfollowed := true, recurses := true, plainKeys := false, apart := false, narrowed := true }
def ShoreEndsUptoSaid : Prop := shoreEndsUptoRow.holds Try.pinned (OpenSpec.upto shoreEndsSpec)

/-- 'skimmerlaw06.ShoreCounts', WHERE WHAT IT READS IS OF BULK AT MOST 1048576: true; the input reads as it did. -/
def shoreCountsUptoRow : OpenClaim := { program := "ytjijjncddjkdlaa", sum := "ed572eeaacaa4ce9ad2780c7bfef3278542499c703c79cfff54010b2edfa27cf", func := "skimmer/skimmerlaw06.ShoreCounts", spec := "shoreCounts", unfollowed := true, recurses := true, plainKeys := false, apart := false, narrowed := true }
def ShoreCountsUptoSaid : Prop := shoreCountsUptoRow.holds Try.pinned (OpenSpec.upto shoreCountsSpec)

/-- 'skimmerlaw06.ShoreFrees', WHERE WHAT IT READS IS OF BULK AT MOST 1048576: true; the input reads as it did. -/
def shoreFreesUptoRow : OpenClaim := { program := "ytjijjncddjkdlaa", sum := "ed572eeaacaa4ce9ad2780c7bfef3278542499c703c79cfff54010b2edfa27cf", func := "skimmer/skimmerlaw06.ShoreFrees", spec := "shoreFrees", unfollowed := true, recurses := true, plainKeys := false, apart := false, narrowed := true }
def ShoreFreesUptoSaid : Prop := shoreFreesUptoRow.holds Try.pinned (OpenSpec.upto shoreFreesSpec)

end Rows
end Go.Proofs.Ytjijjncddjkdlaa
