/-
  DERIVED. GIVEN WITH THE SEED: THE CARDS: each row of YtijnimgmpocmaaaDoorRows.lean that lists a variable, with what it lists TIED to the program's text (the seventh form; the later family's looks); each row that meets fmt, with fmt's text TOLD by the authors' own Lean function (tested against real Go, not proved from fmt's source: count such statements apart). THE CARD IS WHAT COUNTS. Prove the row's statement (the work); the ties are given (YtijnimgmpocmaaaDoorTie.lean); close each card by the builder's one call (the guide's Derived/Test/ToyasCard.lean, 'card_holds'). Laid BY PROGRAM, IN A SANDBOX (cutbox-door.mjs). By AI agents, Wed Nov 11 2026. No macro, syntax, notation, axiom, sorry.
-/
import Derived.Test.YtijnimgmpocmaaaDoorRows
import GoSem.ClaimSeven
namespace Go.Proofs.YtijnimgmpocmaaaDoor
namespace Rows

/-- THE TIED CARD OF 'skimmerlaw07.WasteFills'. -/
def wasteFillsCard : Claim7 := { stood := { row := wasteFillsRow, standIns := [], harness := (true, "3271a7d91e99500cf3ef510ac14b91d3a12477018a0ff66f07e9554893238c24"), looks := false }, kinds := [], alts := [], laidByText := true, laidKinds := [.data, .data], laidTests := true, laidLooks := .later }
def WasteFillsCardSaid : Prop := Claim7.holds Tryd.pinned (.plain (OpenSpec.ofChange wasteFillsSpec)) wasteFillsCard

/-- THE TIED CARD OF 'skimmertop.TopWaste'. -/
def topWasteCard : Claim7 := { stood := { row := topWasteRow, standIns := [], harness := (true, "3271a7d91e99500cf3ef510ac14b91d3a12477018a0ff66f07e9554893238c24"), looks := false }, kinds := [], alts := [], laidByText := true, laidKinds := [.data, .data], laidTests := true, laidLooks := .later }
def TopWasteCardSaid : Prop := Claim7.holds Tryd.pinned (.plain (OpenSpec.ofChange topWasteSpec)) topWasteCard

/-- THE TIED CARD OF 'skimmerlaw07.WastePairs'. -/
def wastePairsCard : Claim7 := { stood := { row := wastePairsRow, standIns := [], harness := (true, "3271a7d91e99500cf3ef510ac14b91d3a12477018a0ff66f07e9554893238c24"), looks := false }, kinds := [], alts := [], laidByText := true, laidKinds := [.data, .data], laidTests := true, laidLooks := .later }
def WastePairsCardSaid : Prop := Claim7.holds Tryd.pinned (.plain (OpenSpec.ofChange wastePairsSpec)) wastePairsCard

/-- THE TIED CARD OF 'skimmerlaw07.WasteCounts'. -/
def wasteCountsCard : Claim7 := { stood := { row := wasteCountsRow, standIns := [], harness := (true, "3271a7d91e99500cf3ef510ac14b91d3a12477018a0ff66f07e9554893238c24"), looks := false }, kinds := [], alts := [], laidByText := true, laidKinds := [.data, .data], laidTests := true, laidLooks := .later }
def WasteCountsCardSaid : Prop := Claim7.holds Tryd.pinned (.plain (OpenSpec.ofChange wasteCountsSpec)) wasteCountsCard

/-- THE TIED CARD OF 'skimmerlaw07.WasteOthers'. -/
def wasteOthersCard : Claim7 := { stood := { row := wasteOthersRow, standIns := [], harness := (true, "3271a7d91e99500cf3ef510ac14b91d3a12477018a0ff66f07e9554893238c24"), looks := false }, kinds := [], alts := [], laidByText := true, laidKinds := [.data, .data], laidTests := true, laidLooks := .later }
def WasteOthersCardSaid : Prop := Claim7.holds Tryd.pinned (.plain (OpenSpec.ofChange wasteOthersSpec)) wasteOthersCard

/-- THE TIED CARD OF 'skimmerlaw07.WasteLoadings'. -/
def wasteLoadingsCard : Claim7 := { stood := { row := wasteLoadingsRow, standIns := [], harness := (true, "3271a7d91e99500cf3ef510ac14b91d3a12477018a0ff66f07e9554893238c24"), looks := false }, kinds := [], alts := [], laidByText := true, laidKinds := [.data, .data], laidTests := true, laidLooks := .later }
def WasteLoadingsCardSaid : Prop := Claim7.holds Tryd.pinned (.plain (OpenSpec.ofChange wasteLoadingsSpec)) wasteLoadingsCard

/-- THE TIED CARD OF 'skimmerlaw07.WasteClears'. -/
def wasteClearsCard : Claim7 := { stood := { row := wasteClearsRow, standIns := [], harness := (true, "3271a7d91e99500cf3ef510ac14b91d3a12477018a0ff66f07e9554893238c24"), looks := false }, kinds := [], alts := [], laidByText := true, laidKinds := [.data, .data], laidTests := true, laidLooks := .later }
def WasteClearsCardSaid : Prop := Claim7.holds Tryd.pinned (.plain (OpenSpec.ofChange wasteClearsSpec)) wasteClearsCard

/-- THE TIED CARD OF 'skimmerlaw07.WasteLists'. -/
def wasteListsCard : Claim7 := { stood := { row := wasteListsRow, standIns := [], harness := (true, "3271a7d91e99500cf3ef510ac14b91d3a12477018a0ff66f07e9554893238c24"), looks := false }, kinds := [], alts := [], laidByText := true, laidKinds := [.data, .data], laidTests := true, laidLooks := .later }
def WasteListsCardSaid : Prop := Claim7.holds Tryd.pinned (.plain (OpenSpec.ofChange wasteListsSpec)) wasteListsCard

/-- THE TIED CARD OF 'skimmerlaw07.WasteFewest'. -/
def wasteFewestCard : Claim7 := { stood := { row := wasteFewestRow, standIns := [], harness := (true, "3271a7d91e99500cf3ef510ac14b91d3a12477018a0ff66f07e9554893238c24"), looks := false }, kinds := [], alts := [], laidByText := true, laidKinds := [.data, .data], laidTests := true, laidLooks := .later }
def WasteFewestCardSaid : Prop := Claim7.holds Tryd.pinned (.plain (OpenSpec.ofChange wasteFewestSpec)) wasteFewestCard

/-- THE TIED CARD OF 'skimmerlaw07.WasteSkips'. -/
def wasteSkipsCard : Claim7 := { stood := { row := wasteSkipsRow, standIns := [], harness := (true, "3271a7d91e99500cf3ef510ac14b91d3a12477018a0ff66f07e9554893238c24"), looks := false }, kinds := [], alts := [], laidByText := true, laidKinds := [.data, .data], laidTests := true, laidLooks := .later }
def WasteSkipsCardSaid : Prop := Claim7.holds Tryd.pinned (.plain (OpenSpec.ofChange wasteSkipsSpec)) wasteSkipsCard

/-- THE TIED CARD OF 'skimmerlaw07.WasteLines'. -/
def wasteLinesCard : Claim7 := { stood := { row := wasteLinesRow, standIns := [], harness := (true, "3271a7d91e99500cf3ef510ac14b91d3a12477018a0ff66f07e9554893238c24"), looks := false }, kinds := [], alts := [], laidByText := true, laidKinds := [.data, .data], laidTests := true, laidLooks := .later }
def WasteLinesCardSaid : Prop := Claim7.holds Tryd.pinned (.plain (OpenSpec.ofChange wasteLinesSpec)) wasteLinesCard

/-- THE SECOND FORM's CARD OF 'skimmerlaw07.WasteFills'. -/
def wasteFillsUptoCard : Claim7 := { stood := { row := wasteFillsUptoRow, standIns := [], harness := (true, "3271a7d91e99500cf3ef510ac14b91d3a12477018a0ff66f07e9554893238c24"), looks := false }, kinds := [], alts := [], laidByText := true, laidKinds := [.data, .data], laidTests := true, laidLooks := .later }
def WasteFillsUptoCardSaid : Prop := Claim7.holds Tryd.pinned (.plain (OpenSpec.upto wasteFillsSpec)) wasteFillsUptoCard

/-- THE SECOND FORM's CARD OF 'skimmertop.TopWaste'. -/
def topWasteUptoCard : Claim7 := { stood := { row := topWasteUptoRow, standIns := [], harness := (true, "3271a7d91e99500cf3ef510ac14b91d3a12477018a0ff66f07e9554893238c24"), looks := false }, kinds := [], alts := [], laidByText := true, laidKinds := [.data, .data], laidTests := true, laidLooks := .later }
def TopWasteUptoCardSaid : Prop := Claim7.holds Tryd.pinned (.plain (OpenSpec.upto topWasteSpec)) topWasteUptoCard

/-- THE SECOND FORM's CARD OF 'skimmerlaw07.WastePairs'. -/
def wastePairsUptoCard : Claim7 := { stood := { row := wastePairsUptoRow, standIns := [], harness := (true, "3271a7d91e99500cf3ef510ac14b91d3a12477018a0ff66f07e9554893238c24"), looks := false }, kinds := [], alts := [], laidByText := true, laidKinds := [.data, .data], laidTests := true, laidLooks := .later }
def WastePairsUptoCardSaid : Prop := Claim7.holds Tryd.pinned (.plain (OpenSpec.upto wastePairsSpec)) wastePairsUptoCard

/-- THE SECOND FORM's CARD OF 'skimmerlaw07.WasteCounts'. -/
def wasteCountsUptoCard : Claim7 := { stood := { row := wasteCountsUptoRow, standIns := [], harness := (true, "3271a7d91e99500cf3ef510ac14b91d3a12477018a0ff66f07e9554893238c24"), looks := false }, kinds := [], alts := [], laidByText := true, laidKinds := [.data, .data], laidTests := true, laidLooks := .later }
def WasteCountsUptoCardSaid : Prop := Claim7.holds Tryd.pinned (.plain (OpenSpec.upto wasteCountsSpec)) wasteCountsUptoCard

/-- THE SECOND FORM's CARD OF 'skimmerlaw07.WasteOthers'. -/
def wasteOthersUptoCard : Claim7 := { stood := { row := wasteOthersUptoRow, standIns := [], harness := (true, "3271a7d91e99500cf3ef510ac14b91d3a12477018a0ff66f07e9554893238c24"), looks := false }, kinds := [], alts := [], laidByText := true, laidKinds := [.data, .data], laidTests := true, laidLooks := .later }
def WasteOthersUptoCardSaid : Prop := Claim7.holds Tryd.pinned (.plain (OpenSpec.upto wasteOthersSpec)) wasteOthersUptoCard

/-- THE SECOND FORM's CARD OF 'skimmerlaw07.WasteLoadings'. -/
def wasteLoadingsUptoCard : Claim7 := { stood := { row := wasteLoadingsUptoRow, standIns := [], harness := (true, "3271a7d91e99500cf3ef510ac14b91d3a12477018a0ff66f07e9554893238c24"), looks := false }, kinds := [], alts := [], laidByText := true, laidKinds := [.data, .data], laidTests := true, laidLooks := .later }
def WasteLoadingsUptoCardSaid : Prop := Claim7.holds Tryd.pinned (.plain (OpenSpec.upto wasteLoadingsSpec)) wasteLoadingsUptoCard

/-- THE SECOND FORM's CARD OF 'skimmerlaw07.WasteClears'. -/
def wasteClearsUptoCard : Claim7 := { stood := { row := wasteClearsUptoRow, standIns := [], harness := (true, "3271a7d91e99500cf3ef510ac14b91d3a12477018a0ff66f07e9554893238c24"), looks := false }, kinds := [], alts := [], laidByText := true, laidKinds := [.data, .data], laidTests := true, laidLooks := .later }
def WasteClearsUptoCardSaid : Prop := Claim7.holds Tryd.pinned (.plain (OpenSpec.upto wasteClearsSpec)) wasteClearsUptoCard

/-- THE SECOND FORM's CARD OF 'skimmerlaw07.WasteLists'. -/
def wasteListsUptoCard : Claim7 := { stood := { row := wasteListsUptoRow, standIns := [], harness := (true, "3271a7d91e99500cf3ef510ac14b91d3a12477018a0ff66f07e9554893238c24"), looks := false }, kinds := [], alts := [], laidByText := true, laidKinds := [.data, .data], laidTests := true, laidLooks := .later }
def WasteListsUptoCardSaid : Prop := Claim7.holds Tryd.pinned (.plain (OpenSpec.upto wasteListsSpec)) wasteListsUptoCard

/-- THE SECOND FORM's CARD OF 'skimmerlaw07.WasteFewest'. -/
def wasteFewestUptoCard : Claim7 := { stood := { row := wasteFewestUptoRow, standIns := [], harness := (true, "3271a7d91e99500cf3ef510ac14b91d3a12477018a0ff66f07e9554893238c24"), looks := false }, kinds := [], alts := [], laidByText := true, laidKinds := [.data, .data], laidTests := true, laidLooks := .later }
def WasteFewestUptoCardSaid : Prop := Claim7.holds Tryd.pinned (.plain (OpenSpec.upto wasteFewestSpec)) wasteFewestUptoCard

/-- THE SECOND FORM's CARD OF 'skimmerlaw07.WasteSkips'. -/
def wasteSkipsUptoCard : Claim7 := { stood := { row := wasteSkipsUptoRow, standIns := [], harness := (true, "3271a7d91e99500cf3ef510ac14b91d3a12477018a0ff66f07e9554893238c24"), looks := false }, kinds := [], alts := [], laidByText := true, laidKinds := [.data, .data], laidTests := true, laidLooks := .later }
def WasteSkipsUptoCardSaid : Prop := Claim7.holds Tryd.pinned (.plain (OpenSpec.upto wasteSkipsSpec)) wasteSkipsUptoCard

/-- THE SECOND FORM's CARD OF 'skimmerlaw07.WasteLines'. -/
def wasteLinesUptoCard : Claim7 := { stood := { row := wasteLinesUptoRow, standIns := [], harness := (true, "3271a7d91e99500cf3ef510ac14b91d3a12477018a0ff66f07e9554893238c24"), looks := false }, kinds := [], alts := [], laidByText := true, laidKinds := [.data, .data], laidTests := true, laidLooks := .later }
def WasteLinesUptoCardSaid : Prop := Claim7.holds Tryd.pinned (.plain (OpenSpec.upto wasteLinesSpec)) wasteLinesUptoCard
end Rows
end Go.Proofs.YtijnimgmpocmaaaDoor
