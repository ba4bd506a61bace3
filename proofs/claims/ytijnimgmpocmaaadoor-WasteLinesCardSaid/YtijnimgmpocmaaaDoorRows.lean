/-
  NARROWER THAN 'FOR EVERY INPUT', by the rows' own cells (each row's printed sentence says how): WasteFills: laid · TopWaste: laid · WastePairs: laid · WasteCounts: laid · WasteOthers: laid · WasteLoadings: laid · WasteClears: laid · WasteLists: laid · WasteFewest: laid · WasteSkips: laid · WasteLines: laid.
  DERIVED. THE GIVEN ROWS OF THIS SEAT. 11 by the template 'for every input the law returns true; each argument reads behind the call as it read before'; 0 by the template 'total and deterministic' (their statements: YtijnimgmpocmaaaDoorTotals.lean).
  GIVEN WITH THE SEED: the statements are not yours to turn. If you find one false, say at which input.
  Laid BY PROGRAM, IN A SANDBOX (cutbox-rows.mjs): the forced cells as the released guide's own fill.sh prints them over the translation 6de08ce754bf975d… (all of the seat's roots in one cut). By AI agents, Wed Nov 11 2026. No macro, syntax, notation, axiom, sorry.
-/
import Derived.Test.YtijnimgmpocmaaaDoorChecked
import GoSem.Claim
import GoSem.ClaimJoined
import GoSem.ClaimMapViews
import Derived.JoinedTies
import Derived.KernelRfl
namespace Go.Proofs.YtijnimgmpocmaaaDoor
/- THE CELL 'sum', in the pinned program and in every row, IS THE sha256 OF THE DUMP (.gsa) THAT YtijnimgmpocmaaaDoorProg.lean LOADS. Nothing in Lean hashes anything: it is a label: what it is worth is what the hold of that sum in a sandbox is worth. -/
noncomputable def Tryd.pinned : Pinned := { name := "ytijnimgmpocmaaadoor", sum := "6de08ce754bf975d8f238dd4bcd0877fe71c6fc119bdf56185d50e99c21e0309", checked := Tryd.checked }
namespace Rows
def none {H : Type} : Left H := { results := [], args := [] }

/- WHAT THE LISTED PACKAGE-LEVEL VARIABLES READ AS WHEN THE CALL BEGINS. Each datum BY PROGRAM (the guide's laid-datum.mjs) off the statement by which the dump's own 'gosem.cut.vars' lays the variable. In a bare row this is a premise. The card (YtijnimgmpocmaaaDoorCards.lean) ties it to the program's text. -/
def laid_math_bits_deBruijn32tab {H : Type} : DataW H := .agg [.lit (.int .u8 0), .lit (.int .u8 1), .lit (.int .u8 28), .lit (.int .u8 2), .lit (.int .u8 29), .lit (.int .u8 14), .lit (.int .u8 24), .lit (.int .u8 3), .lit (.int .u8 30), .lit (.int .u8 22), .lit (.int .u8 20), .lit (.int .u8 15), .lit (.int .u8 25), .lit (.int .u8 17), .lit (.int .u8 4), .lit (.int .u8 8), .lit (.int .u8 31), .lit (.int .u8 27), .lit (.int .u8 13), .lit (.int .u8 23), .lit (.int .u8 21), .lit (.int .u8 19), .lit (.int .u8 16), .lit (.int .u8 7), .lit (.int .u8 26), .lit (.int .u8 12), .lit (.int .u8 18), .lit (.int .u8 6), .lit (.int .u8 11), .lit (.int .u8 5), .lit (.int .u8 10), .lit (.int .u8 9)]
def laid_math_bits_deBruijn64tab {H : Type} : DataW H := .agg [.lit (.int .u8 0), .lit (.int .u8 1), .lit (.int .u8 56), .lit (.int .u8 2), .lit (.int .u8 57), .lit (.int .u8 49), .lit (.int .u8 28), .lit (.int .u8 3), .lit (.int .u8 61), .lit (.int .u8 58), .lit (.int .u8 42), .lit (.int .u8 50), .lit (.int .u8 38), .lit (.int .u8 29), .lit (.int .u8 17), .lit (.int .u8 4), .lit (.int .u8 62), .lit (.int .u8 47), .lit (.int .u8 59), .lit (.int .u8 36), .lit (.int .u8 45), .lit (.int .u8 43), .lit (.int .u8 51), .lit (.int .u8 22), .lit (.int .u8 53), .lit (.int .u8 39), .lit (.int .u8 33), .lit (.int .u8 30), .lit (.int .u8 24), .lit (.int .u8 18), .lit (.int .u8 12), .lit (.int .u8 5), .lit (.int .u8 63), .lit (.int .u8 55), .lit (.int .u8 48), .lit (.int .u8 27), .lit (.int .u8 60), .lit (.int .u8 41), .lit (.int .u8 37), .lit (.int .u8 16), .lit (.int .u8 46), .lit (.int .u8 35), .lit (.int .u8 44), .lit (.int .u8 21), .lit (.int .u8 52), .lit (.int .u8 32), .lit (.int .u8 23), .lit (.int .u8 11), .lit (.int .u8 54), .lit (.int .u8 26), .lit (.int .u8 40), .lit (.int .u8 15), .lit (.int .u8 34), .lit (.int .u8 20), .lit (.int .u8 31), .lit (.int .u8 10), .lit (.int .u8 25), .lit (.int .u8 14), .lit (.int .u8 19), .lit (.int .u8 9), .lit (.int .u8 13), .lit (.int .u8 8), .lit (.int .u8 7), .lit (.int .u8 6)]

/-- 'skimmerlaw07.WasteFills': WHATEVER THE INPUT: true; the input reads as it did. -/
def wasteFillsSpec : ChangeSpec := { name := "wasteFills", fn := fun _ => fun
  | [d1, d2] => { results := [.lit (.bool true)], args := [d1, d2] }
  | _ => none }
def wasteFillsRow : OpenClaim := { program := "ytijnimgmpocmaaadoor", sum := "6de08ce754bf975d8f238dd4bcd0877fe71c6fc119bdf56185d50e99c21e0309", func := "skimmer/skimmerlaw07.WasteFills", spec := "wasteFills", unfollowed := true, recurses := true, named := ["math/bits.deBruijn32tab", "math/bits.deBruijn64tab"], plainKeys := false, apart := false, laid := [("math/bits.deBruijn32tab", laid_math_bits_deBruijn32tab), ("math/bits.deBruijn64tab", laid_math_bits_deBruijn64tab)] }
def WasteFillsSaid : Prop := wasteFillsRow.holds Tryd.pinned (OpenSpec.ofChange wasteFillsSpec)

/-- ITS FALSE NEIGHBOUR: 'it returns false'. Refute it at one input. -/
def wasteFillsWrong : ChangeSpec := { name := "wasteFills", fn := fun _ => fun
  | [d1, d2] => { results := [.lit (.bool false)], args := [d1, d2] }
  | _ => none }
def WasteFillsWrongFalsely : Prop := wasteFillsRow.holds Tryd.pinned (OpenSpec.ofChange wasteFillsWrong)

/-- 'skimmertop.TopWaste': WHATEVER THE INPUT: true; the input reads as it did. -/
def topWasteSpec : ChangeSpec := { name := "topWaste", fn := fun _ => fun
  | [d1, d2, d3, d4] => { results := [.lit (.bool true)], args := [d1, d2, d3, d4] }
  | _ => none }
def topWasteRow : OpenClaim := { program := "ytijnimgmpocmaaadoor", sum := "6de08ce754bf975d8f238dd4bcd0877fe71c6fc119bdf56185d50e99c21e0309", func := "skimmer/skimmertop.TopWaste", spec := "topWaste", unfollowed := true, recurses := true, named := ["math/bits.deBruijn32tab", "math/bits.deBruijn64tab"], plainKeys := false, apart := false, laid := [("math/bits.deBruijn32tab", laid_math_bits_deBruijn32tab), ("math/bits.deBruijn64tab", laid_math_bits_deBruijn64tab)] }
def TopWasteSaid : Prop := topWasteRow.holds Tryd.pinned (OpenSpec.ofChange topWasteSpec)

/-- ITS FALSE NEIGHBOUR: 'it returns false'. Refute it at one input. -/
def topWasteWrong : ChangeSpec := { name := "topWaste", fn := fun _ => fun
  | [d1, d2, d3, d4] => { results := [.lit (.bool false)], args := [d1, d2, d3, d4] }
  | _ => none }
def TopWasteWrongFalsely : Prop := topWasteRow.holds Tryd.pinned (OpenSpec.ofChange topWasteWrong)

/-- 'skimmerlaw07.WastePairs': WHATEVER THE INPUT: true; the input reads as it did. -/
def wastePairsSpec : ChangeSpec := { name := "wastePairs", fn := fun _ => fun
  | [d1, d2] => { results := [.lit (.bool true)], args := [d1, d2] }
  | _ => none }
def wastePairsRow : OpenClaim := { program := "ytijnimgmpocmaaadoor", sum := "6de08ce754bf975d8f238dd4bcd0877fe71c6fc119bdf56185d50e99c21e0309", func := "skimmer/skimmerlaw07.WastePairs", spec := "wastePairs", unfollowed := true, recurses := true, named := ["math/bits.deBruijn32tab", "math/bits.deBruijn64tab"], plainKeys := false, apart := false, laid := [("math/bits.deBruijn32tab", laid_math_bits_deBruijn32tab), ("math/bits.deBruijn64tab", laid_math_bits_deBruijn64tab)] }
def WastePairsSaid : Prop := wastePairsRow.holds Tryd.pinned (OpenSpec.ofChange wastePairsSpec)

/-- ITS FALSE NEIGHBOUR: 'it returns false'. Refute it at one input. -/
def wastePairsWrong : ChangeSpec := { name := "wastePairs", fn := fun _ => fun
  | [d1, d2] => { results := [.lit (.bool false)], args := [d1, d2] }
  | _ => none }
def WastePairsWrongFalsely : Prop := wastePairsRow.holds Tryd.pinned (OpenSpec.ofChange wastePairsWrong)

/-- 'skimmerlaw07.WasteCounts': WHATEVER THE INPUT: true; the input reads as it did. -/
def wasteCountsSpec : ChangeSpec := { name := "wasteCounts", fn := fun _ => fun
  | [d1, d2] => { results := [.lit (.bool true)], args := [d1, d2] }
  | _ => none }
def wasteCountsRow : OpenClaim := { program := "ytijnimgmpocmaaadoor", sum := "6de08ce754bf975d8f238dd4bcd0877fe71c6fc119bdf56185d50e99c21e0309", func := "skimmer/skimmerlaw07.WasteCounts", spec := "wasteCounts", unfollowed := true, recurses := true, named := ["math/bits.deBruijn32tab", "math/bits.deBruijn64tab"], plainKeys := false, apart := false, laid := [("math/bits.deBruijn32tab", laid_math_bits_deBruijn32tab), ("math/bits.deBruijn64tab", laid_math_bits_deBruijn64tab)] }
def WasteCountsSaid : Prop := wasteCountsRow.holds Tryd.pinned (OpenSpec.ofChange wasteCountsSpec)

/-- ITS FALSE NEIGHBOUR: 'it returns false'. Refute it at one input. -/
def wasteCountsWrong : ChangeSpec := { name := "wasteCounts", fn := fun _ => fun
  | [d1, d2] => { results := [.lit (.bool false)], args := [d1, d2] }
  | _ => none }
def WasteCountsWrongFalsely : Prop := wasteCountsRow.holds Tryd.pinned (OpenSpec.ofChange wasteCountsWrong)

/-- 'skimmerlaw07.WasteOthers': WHATEVER THE INPUT: true; the input reads as it did. -/
def wasteOthersSpec : ChangeSpec := { name := "wasteOthers", fn := fun _ => fun
  | [d1, d2] => { results := [.lit (.bool true)], args := [d1, d2] }
  | _ => none }
def wasteOthersRow : OpenClaim := { program := "ytijnimgmpocmaaadoor", sum := "6de08ce754bf975d8f238dd4bcd0877fe71c6fc119bdf56185d50e99c21e0309", func := "skimmer/skimmerlaw07.WasteOthers", spec := "wasteOthers", unfollowed := true, recurses := true, named := ["math/bits.deBruijn32tab", "math/bits.deBruijn64tab"], plainKeys := false, apart := false, laid := [("math/bits.deBruijn32tab", laid_math_bits_deBruijn32tab), ("math/bits.deBruijn64tab", laid_math_bits_deBruijn64tab)] }
def WasteOthersSaid : Prop := wasteOthersRow.holds Tryd.pinned (OpenSpec.ofChange wasteOthersSpec)

/-- ITS FALSE NEIGHBOUR: 'it returns false'. Refute it at one input. -/
def wasteOthersWrong : ChangeSpec := { name := "wasteOthers", fn := fun _ => fun
  | [d1, d2] => { results := [.lit (.bool false)], args := [d1, d2] }
  | _ => none }
def WasteOthersWrongFalsely : Prop := wasteOthersRow.holds Tryd.pinned (OpenSpec.ofChange wasteOthersWrong)

/-- 'skimmerlaw07.WasteLoadings': WHATEVER THE INPUT: true; the input reads as it did. -/
def wasteLoadingsSpec : ChangeSpec := { name := "wasteLoadings", fn := fun _ => fun
  | [d1, d2] => { results := [.lit (.bool true)], args := [d1, d2] }
  | _ => none }
def wasteLoadingsRow : OpenClaim := { program := "ytijnimgmpocmaaadoor", sum := "6de08ce754bf975d8f238dd4bcd0877fe71c6fc119bdf56185d50e99c21e0309", func := "skimmer/skimmerlaw07.WasteLoadings", spec := "wasteLoadings", unfollowed := true, recurses := true, named := ["math/bits.deBruijn32tab", "math/bits.deBruijn64tab"], plainKeys := false, apart := false, laid := [("math/bits.deBruijn32tab", laid_math_bits_deBruijn32tab), ("math/bits.deBruijn64tab", laid_math_bits_deBruijn64tab)] }
def WasteLoadingsSaid : Prop := wasteLoadingsRow.holds Tryd.pinned (OpenSpec.ofChange wasteLoadingsSpec)

/-- ITS FALSE NEIGHBOUR: 'it returns false'. Refute it at one input. -/
def wasteLoadingsWrong : ChangeSpec := { name := "wasteLoadings", fn := fun _ => fun
  | [d1, d2] => { results := [.lit (.bool false)], args := [d1, d2] }
  | _ => none }
def WasteLoadingsWrongFalsely : Prop := wasteLoadingsRow.holds Tryd.pinned (OpenSpec.ofChange wasteLoadingsWrong)

/-- 'skimmerlaw07.WasteClears': WHATEVER THE INPUT: true; the input reads as it did. -/
def wasteClearsSpec : ChangeSpec := { name := "wasteClears", fn := fun _ => fun
  | [d1, d2] => { results := [.lit (.bool true)], args := [d1, d2] }
  | _ => none }
def wasteClearsRow : OpenClaim := { program := "ytijnimgmpocmaaadoor", sum := "6de08ce754bf975d8f238dd4bcd0877fe71c6fc119bdf56185d50e99c21e0309", func := "skimmer/skimmerlaw07.WasteClears", spec := "wasteClears", unfollowed := true, recurses := true, named := ["math/bits.deBruijn32tab", "math/bits.deBruijn64tab"], plainKeys := false, apart := false, laid := [("math/bits.deBruijn32tab", laid_math_bits_deBruijn32tab), ("math/bits.deBruijn64tab", laid_math_bits_deBruijn64tab)] }
def WasteClearsSaid : Prop := wasteClearsRow.holds Tryd.pinned (OpenSpec.ofChange wasteClearsSpec)

/-- ITS FALSE NEIGHBOUR: 'it returns false'. Refute it at one input. -/
def wasteClearsWrong : ChangeSpec := { name := "wasteClears", fn := fun _ => fun
  | [d1, d2] => { results := [.lit (.bool false)], args := [d1, d2] }
  | _ => none }
def WasteClearsWrongFalsely : Prop := wasteClearsRow.holds Tryd.pinned (OpenSpec.ofChange wasteClearsWrong)

/-- 'skimmerlaw07.WasteLists': WHATEVER THE INPUT: true; the input reads as it did. -/
def wasteListsSpec : ChangeSpec := { name := "wasteLists", fn := fun _ => fun
  | [d] => { results := [.lit (.bool true)], args := [d] }
  | _ => none }
def wasteListsRow : OpenClaim := { program := "ytijnimgmpocmaaadoor", sum := "6de08ce754bf975d8f238dd4bcd0877fe71c6fc119bdf56185d50e99c21e0309", func := "skimmer/skimmerlaw07.WasteLists", spec := "wasteLists", unfollowed := true, recurses := true, named := ["math/bits.deBruijn32tab", "math/bits.deBruijn64tab"], plainKeys := false, apart := false, laid := [("math/bits.deBruijn32tab", laid_math_bits_deBruijn32tab), ("math/bits.deBruijn64tab", laid_math_bits_deBruijn64tab)] }
def WasteListsSaid : Prop := wasteListsRow.holds Tryd.pinned (OpenSpec.ofChange wasteListsSpec)

/-- ITS FALSE NEIGHBOUR: 'it returns false'. Refute it at one input. -/
def wasteListsWrong : ChangeSpec := { name := "wasteLists", fn := fun _ => fun
  | [d] => { results := [.lit (.bool false)], args := [d] }
  | _ => none }
def WasteListsWrongFalsely : Prop := wasteListsRow.holds Tryd.pinned (OpenSpec.ofChange wasteListsWrong)

/-- 'skimmerlaw07.WasteFewest': WHATEVER THE INPUT: true; the input reads as it did. -/
def wasteFewestSpec : ChangeSpec := { name := "wasteFewest", fn := fun _ => fun
  | [d1, d2] => { results := [.lit (.bool true)], args := [d1, d2] }
  | _ => none }
def wasteFewestRow : OpenClaim := { program := "ytijnimgmpocmaaadoor", sum := "6de08ce754bf975d8f238dd4bcd0877fe71c6fc119bdf56185d50e99c21e0309", func := "skimmer/skimmerlaw07.WasteFewest", spec := "wasteFewest", unfollowed := true, recurses := true, named := ["math/bits.deBruijn32tab", "math/bits.deBruijn64tab"], plainKeys := false, apart := false, laid := [("math/bits.deBruijn32tab", laid_math_bits_deBruijn32tab), ("math/bits.deBruijn64tab", laid_math_bits_deBruijn64tab)] }
def WasteFewestSaid : Prop := wasteFewestRow.holds Tryd.pinned (OpenSpec.ofChange wasteFewestSpec)

/-- ITS FALSE NEIGHBOUR: 'it returns false'. Refute it at one input. -/
def wasteFewestWrong : ChangeSpec := { name := "wasteFewest", fn := fun _ => fun
  | [d1, d2] => { results := [.lit (.bool false)], args := [d1, d2] }
  | _ => none }
def WasteFewestWrongFalsely : Prop := wasteFewestRow.holds Tryd.pinned (OpenSpec.ofChange wasteFewestWrong)

/-- 'skimmerlaw07.WasteSkips': WHATEVER THE INPUT: true; the input reads as it did. -/
def wasteSkipsSpec : ChangeSpec := { name := "wasteSkips", fn := fun _ => fun
  | [d1, d2, d3] => { results := [.lit (.bool true)], args := [d1, d2, d3] }
  | _ => none }
def wasteSkipsRow : OpenClaim := { program := "ytijnimgmpocmaaadoor", sum := "6de08ce754bf975d8f238dd4bcd0877fe71c6fc119bdf56185d50e99c21e0309", func := "skimmer/skimmerlaw07.WasteSkips", spec := "wasteSkips", unfollowed := true, recurses := true, named := ["math/bits.deBruijn32tab", "math/bits.deBruijn64tab"], plainKeys := false, apart := false, laid := [("math/bits.deBruijn32tab", laid_math_bits_deBruijn32tab), ("math/bits.deBruijn64tab", laid_math_bits_deBruijn64tab)] }
def WasteSkipsSaid : Prop := wasteSkipsRow.holds Tryd.pinned (OpenSpec.ofChange wasteSkipsSpec)

/-- ITS FALSE NEIGHBOUR: 'it returns false'. Refute it at one input. -/
def wasteSkipsWrong : ChangeSpec := { name := "wasteSkips", fn := fun _ => fun
  | [d1, d2, d3] => { results := [.lit (.bool false)], args := [d1, d2, d3] }
  | _ => none }
def WasteSkipsWrongFalsely : Prop := wasteSkipsRow.holds Tryd.pinned (OpenSpec.ofChange wasteSkipsWrong)

/-- 'skimmerlaw07.WasteLines': WHATEVER THE INPUT: true; the input reads as it did. -/
def wasteLinesSpec : ChangeSpec := { name := "wasteLines", fn := fun _ => fun
  | [d1, d2] => { results := [.lit (.bool true)], args := [d1, d2] }
  | _ => none }
def wasteLinesRow : OpenClaim := { program := "ytijnimgmpocmaaadoor", sum := "6de08ce754bf975d8f238dd4bcd0877fe71c6fc119bdf56185d50e99c21e0309", func := "skimmer/skimmerlaw07.WasteLines", spec := "wasteLines", unfollowed := true, recurses := true, named := ["math/bits.deBruijn32tab", "math/bits.deBruijn64tab"], plainKeys := false, apart := false, laid := [("math/bits.deBruijn32tab", laid_math_bits_deBruijn32tab), ("math/bits.deBruijn64tab", laid_math_bits_deBruijn64tab)] }
def WasteLinesSaid : Prop := wasteLinesRow.holds Tryd.pinned (OpenSpec.ofChange wasteLinesSpec)

/-- ITS FALSE NEIGHBOUR: 'it returns false'. Refute it at one input. -/
def wasteLinesWrong : ChangeSpec := { name := "wasteLines", fn := fun _ => fun
  | [d1, d2] => { results := [.lit (.bool false)], args := [d1, d2] }
  | _ => none }
def WasteLinesWrongFalsely : Prop := wasteLinesRow.holds Tryd.pinned (OpenSpec.ofChange wasteLinesWrong)

/- THE SECOND FORM. 'bulk': how many values and letters a reading holds, each counted each time it is reached (what is shared counts as often as it is met; a slice's spare places count too). A statement '..UptoSaid' is the law's where the arguments, and the package variables that the reading takes, are together of bulk at most 1048576: NARROWER than '..Said'. Prove '..Said' where nothing that the law and all that it calls make is longer than what came in: it says more and counts as full. Else prove '..UptoSaid'. A law counts once. -/
mutual
def uptoBulk {H : Type} : DataW H → Nat
  | .lit (.string bytes) => bytes.length + 1
  | .lit _ => 1
  | .nil => 1
  | .ptr d => uptoBulk d + 1
  | .slice elems spare => uptoBulkAll elems + uptoBulkAll spare + 1
  | .agg parts => uptoBulkAll parts + 1
  | .iface _ d => uptoBulk d + 1
  | .map entries => uptoBulkEntries entries + 1
  | .held _ => 1
def uptoBulkAll {H : Type} : List (DataW H) → Nat
  | [] => 0
  | d :: r => uptoBulk d + uptoBulkAll r
def uptoBulkEntries {H : Type} : List (Lit × DataW H) → Nat
  | [] => 0
  | x :: r => uptoBulkEntry x + uptoBulkEntries r
def uptoBulkEntry {H : Type} : Lit × DataW H → Nat
  | (.string bytes, d) => bytes.length + uptoBulk d + 1
  | (_, d) => uptoBulk d + 1
 end
def uptoSmall : (H : Type) → List (DataW H) → Bool := fun _ ds => decide (uptoBulkAll ds ≤ 1048576)
def OpenSpec.upto (s : _root_.Go.ChangeSpec) : _root_.Go.OpenSpec := { _root_.Go.OpenSpec.ofChange s with cond := some uptoSmall }

/-- 'skimmerlaw07.WasteFills', WHERE WHAT IT READS IS OF BULK AT MOST 1048576: true; the input reads as it did. -/
def wasteFillsUptoRow : OpenClaim := { program := "ytijnimgmpocmaaadoor", sum := "6de08ce754bf975d8f238dd4bcd0877fe71c6fc119bdf56185d50e99c21e0309", func := "skimmer/skimmerlaw07.WasteFills", spec := "wasteFills", unfollowed := true, recurses := true, named := ["math/bits.deBruijn32tab", "math/bits.deBruijn64tab"], plainKeys := false, apart := false, laid := [("math/bits.deBruijn32tab", laid_math_bits_deBruijn32tab), ("math/bits.deBruijn64tab", laid_math_bits_deBruijn64tab)], narrowed := true }
def WasteFillsUptoSaid : Prop := wasteFillsUptoRow.holds Tryd.pinned (OpenSpec.upto wasteFillsSpec)

/-- 'skimmertop.TopWaste', WHERE WHAT IT READS IS OF BULK AT MOST 1048576: true; the input reads as it did. -/
def topWasteUptoRow : OpenClaim := { program := "ytijnimgmpocmaaadoor", sum := "6de08ce754bf975d8f238dd4bcd0877fe71c6fc119bdf56185d50e99c21e0309", func := "skimmer/skimmertop.TopWaste", spec := "topWaste", unfollowed := true, recurses := true, named := ["math/bits.deBruijn32tab", "math/bits.deBruijn64tab"], plainKeys := false, apart := false, laid := [("math/bits.deBruijn32tab", laid_math_bits_deBruijn32tab), ("math/bits.deBruijn64tab", laid_math_bits_deBruijn64tab)], narrowed := true }
def TopWasteUptoSaid : Prop := topWasteUptoRow.holds Tryd.pinned (OpenSpec.upto topWasteSpec)

/-- 'skimmerlaw07.WastePairs', WHERE WHAT IT READS IS OF BULK AT MOST 1048576: true; the input reads as it did. -/
def wastePairsUptoRow : OpenClaim := { program := "ytijnimgmpocmaaadoor", sum := "6de08ce754bf975d8f238dd4bcd0877fe71c6fc119bdf56185d50e99c21e0309", func := "skimmer/skimmerlaw07.WastePairs", spec := "wastePairs", unfollowed := true, recurses := true, named := ["math/bits.deBruijn32tab", "math/bits.deBruijn64tab"], plainKeys := false, apart := false, laid := [("math/bits.deBruijn32tab", laid_math_bits_deBruijn32tab), ("math/bits.deBruijn64tab", laid_math_bits_deBruijn64tab)], narrowed := true }
def WastePairsUptoSaid : Prop := wastePairsUptoRow.holds Tryd.pinned (OpenSpec.upto wastePairsSpec)

/-- 'skimmerlaw07.WasteCounts', WHERE WHAT IT READS IS OF BULK AT MOST 1048576: true; the input reads as it did. -/
def wasteCountsUptoRow : OpenClaim := { program := "ytijnimgmpocmaaadoor", sum := "6de08ce754bf975d8f238dd4bcd0877fe71c6fc119bdf56185d50e99c21e0309", func := "skimmer/skimmerlaw07.WasteCounts", spec := "wasteCounts", unfollowed := true, recurses := true, named := ["math/bits.deBruijn32tab", "math/bits.deBruijn64tab"], plainKeys := false, apart := false, laid := [("math/bits.deBruijn32tab", laid_math_bits_deBruijn32tab), ("math/bits.deBruijn64tab", laid_math_bits_deBruijn64tab)], narrowed := true }
def WasteCountsUptoSaid : Prop := wasteCountsUptoRow.holds Tryd.pinned (OpenSpec.upto wasteCountsSpec)

/-- 'skimmerlaw07.WasteOthers', WHERE WHAT IT READS IS OF BULK AT MOST 1048576: true; the input reads as it did. -/
def wasteOthersUptoRow : OpenClaim := { program := "ytijnimgmpocmaaadoor", sum := "6de08ce754bf975d8f238dd4bcd0877fe71c6fc119bdf56185d50e99c21e0309", func := "skimmer/skimmerlaw07.WasteOthers", spec := "wasteOthers", unfollowed := true, recurses := true, named := ["math/bits.deBruijn32tab", "math/bits.deBruijn64tab"], plainKeys := false, apart := false, laid := [("math/bits.deBruijn32tab", laid_math_bits_deBruijn32tab), ("math/bits.deBruijn64tab", laid_math_bits_deBruijn64tab)], narrowed := true }
def WasteOthersUptoSaid : Prop := wasteOthersUptoRow.holds Tryd.pinned (OpenSpec.upto wasteOthersSpec)

/-- 'skimmerlaw07.WasteLoadings', WHERE WHAT IT READS IS OF BULK AT MOST 1048576: true; the input reads as it did. -/
def wasteLoadingsUptoRow : OpenClaim := { program := "ytijnimgmpocmaaadoor", sum := "6de08ce754bf975d8f238dd4bcd0877fe71c6fc119bdf56185d50e99c21e0309", func := "skimmer/skimmerlaw07.WasteLoadings", spec := "wasteLoadings", unfollowed := true, recurses := true, named := ["math/bits.deBruijn32tab", "math/bits.deBruijn64tab"], plainKeys := false, apart := false, laid := [("math/bits.deBruijn32tab", laid_math_bits_deBruijn32tab), ("math/bits.deBruijn64tab", laid_math_bits_deBruijn64tab)], narrowed := true }
def WasteLoadingsUptoSaid : Prop := wasteLoadingsUptoRow.holds Tryd.pinned (OpenSpec.upto wasteLoadingsSpec)

/-- 'skimmerlaw07.WasteClears', WHERE WHAT IT READS IS OF BULK AT MOST 1048576: true; the input reads as it did. -/
def wasteClearsUptoRow : OpenClaim := { program := "ytijnimgmpocmaaadoor", sum := "6de08ce754bf975d8f238dd4bcd0877fe71c6fc119bdf56185d50e99c21e0309", func := "skimmer/skimmerlaw07.WasteClears", spec := "wasteClears", unfollowed := true, recurses := true, named := ["math/bits.deBruijn32tab", "math/bits.deBruijn64tab"], plainKeys := false, apart := false, laid := [("math/bits.deBruijn32tab", laid_math_bits_deBruijn32tab), ("math/bits.deBruijn64tab", laid_math_bits_deBruijn64tab)], narrowed := true }
def WasteClearsUptoSaid : Prop := wasteClearsUptoRow.holds Tryd.pinned (OpenSpec.upto wasteClearsSpec)

/-- 'skimmerlaw07.WasteLists', WHERE WHAT IT READS IS OF BULK AT MOST 1048576: true; the input reads as it did. -/
def wasteListsUptoRow : OpenClaim := { program := "ytijnimgmpocmaaadoor", sum := "6de08ce754bf975d8f238dd4bcd0877fe71c6fc119bdf56185d50e99c21e0309", func := "skimmer/skimmerlaw07.WasteLists", spec := "wasteLists", unfollowed := true, recurses := true, named := ["math/bits.deBruijn32tab", "math/bits.deBruijn64tab"], plainKeys := false, apart := false, laid := [("math/bits.deBruijn32tab", laid_math_bits_deBruijn32tab), ("math/bits.deBruijn64tab", laid_math_bits_deBruijn64tab)], narrowed := true }
def WasteListsUptoSaid : Prop := wasteListsUptoRow.holds Tryd.pinned (OpenSpec.upto wasteListsSpec)

/-- 'skimmerlaw07.WasteFewest', WHERE WHAT IT READS IS OF BULK AT MOST 1048576: true; the input reads as it did. -/
def wasteFewestUptoRow : OpenClaim := { program := "ytijnimgmpocmaaadoor", sum := "6de08ce754bf975d8f238dd4bcd0877fe71c6fc119bdf56185d50e99c21e0309", func := "skimmer/skimmerlaw07.WasteFewest", spec := "wasteFewest", unfollowed := true, recurses := true, named := ["math/bits.deBruijn32tab", "math/bits.deBruijn64tab"], plainKeys := false, apart := false, laid := [("math/bits.deBruijn32tab", laid_math_bits_deBruijn32tab), ("math/bits.deBruijn64tab", laid_math_bits_deBruijn64tab)], narrowed := true }
def WasteFewestUptoSaid : Prop := wasteFewestUptoRow.holds Tryd.pinned (OpenSpec.upto wasteFewestSpec)

/-- 'skimmerlaw07.WasteSkips', WHERE WHAT IT READS IS OF BULK AT MOST 1048576: true; the input reads as it did. -/
def wasteSkipsUptoRow : OpenClaim := { program := "ytijnimgmpocmaaadoor", sum := "6de08ce754bf975d8f238dd4bcd0877fe71c6fc119bdf56185d50e99c21e0309", func := "skimmer/skimmerlaw07.WasteSkips", spec := "wasteSkips", unfollowed := true, recurses := true, named := ["math/bits.deBruijn32tab", "math/bits.deBruijn64tab"], plainKeys := false, apart := false, laid := [("math/bits.deBruijn32tab", laid_math_bits_deBruijn32tab), ("math/bits.deBruijn64tab", laid_math_bits_deBruijn64tab)], narrowed := true }
def WasteSkipsUptoSaid : Prop := wasteSkipsUptoRow.holds Tryd.pinned (OpenSpec.upto wasteSkipsSpec)

/-- 'skimmerlaw07.WasteLines', WHERE WHAT IT READS IS OF BULK AT MOST 1048576: true; the input reads as it did. -/
def wasteLinesUptoRow : OpenClaim := { program := "ytijnimgmpocmaaadoor", sum := "6de08ce754bf975d8f238dd4bcd0877fe71c6fc119bdf56185d50e99c21e0309", func := "skimmer/skimmerlaw07.WasteLines", spec := "wasteLines", unfollowed := true, recurses := true, named := ["math/bits.deBruijn32tab", "math/bits.deBruijn64tab"], plainKeys := false, apart := false, laid := [("math/bits.deBruijn32tab", laid_math_bits_deBruijn32tab), ("math/bits.deBruijn64tab", laid_math_bits_deBruijn64tab)], narrowed := true }
def WasteLinesUptoSaid : Prop := wasteLinesUptoRow.holds Tryd.pinned (OpenSpec.upto wasteLinesSpec)

end Rows
end Go.Proofs.YtijnimgmpocmaaaDoor
