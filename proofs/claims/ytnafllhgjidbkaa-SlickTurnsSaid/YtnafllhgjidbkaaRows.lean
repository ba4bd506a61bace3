/-
  No cell of these rows narrows 'for every input' (looked for: loops, veiled, ifaces, maps, wideKeys, modest, calm, conditions, laid).
  DERIVED. THE GIVEN ROWS OF THIS SEAT. 12 by the template 'for every input the law returns true; each argument reads behind the call as it read before'; 0 by the template 'total and deterministic' (their statements: YtnafllhgjidbkaaTotals.lean).
  GIVEN WITH THE SEED: the statements are not yours to turn. If you find one false, say at which input.
  Laid BY PROGRAM, IN A SANDBOX (cutbox-rows.mjs): the forced cells as the released guide's own fill.sh prints them over the translation 15a33296f73f8b0e… (all of the seat's roots in one cut). By AI agents, Wed Nov 11 2026. No macro, syntax, notation, axiom, sorry.
-/
import Derived.Test.YtnafllhgjidbkaaChecked
import GoSem.Claim
import GoSem.ClaimJoined
import GoSem.ClaimMapViews
import Derived.JoinedTies
import Derived.KernelRfl
namespace Go.Proofs.Ytnafllhgjidbkaa
/- THE CELL 'sum', in the pinned program and in every row, IS THE sha256 OF THE DUMP (.gsa) THAT YtnafllhgjidbkaaProg.lean LOADS. Nothing in Lean hashes anything: it is a label: what it is worth is what the hold of that sum in a sandbox is worth. -/
noncomputable def Try.pinned : Pinned := { name := "ytnafllhgjidbkaa", sum := "15a33296f73f8b0eddae93c0a38357389d3be22287aa6ab26923654e3dc236e7", checked := Try.checked }
namespace Rows
def none {H : Type} : Left H := { results := [], args := [] }

/-- 'skimmerlaw02.SlickMoves': WHATEVER THE INPUT: true; the input reads as it did. -/
def slickMovesSpec : ChangeSpec := { name := "slickMoves", fn := fun _ => fun
  | [d1, d2, d3] => { results := [.lit (.bool true)], args := [d1, d2, d3] }
  | _ => none }
def slickMovesRow : OpenClaim := { program := "ytnafllhgjidbkaa", sum := "15a33296f73f8b0eddae93c0a38357389d3be22287aa6ab26923654e3dc236e7", func := "skimmer/skimmerlaw02.SlickMoves", spec := "slickMoves", unfollowed := true, recurses := true, apart := false }
def SlickMovesSaid : Prop := slickMovesRow.holds Try.pinned (OpenSpec.ofChange slickMovesSpec)

/-- ITS FALSE NEIGHBOUR: 'it returns false'. Refute it at one input. -/
def slickMovesWrong : ChangeSpec := { name := "slickMoves", fn := fun _ => fun
  | [d1, d2, d3] => { results := [.lit (.bool false)], args := [d1, d2, d3] }
  | _ => none }
def SlickMovesWrongFalsely : Prop := slickMovesRow.holds Try.pinned (OpenSpec.ofChange slickMovesWrong)

/-- 'skimmerlaw02.SlickMirrors': WHATEVER THE INPUT: true; the input reads as it did. -/
def slickMirrorsSpec : ChangeSpec := { name := "slickMirrors", fn := fun _ => fun
  | [d] => { results := [.lit (.bool true)], args := [d] }
  | _ => none }
def slickMirrorsRow : OpenClaim := { program := "ytnafllhgjidbkaa", sum := "15a33296f73f8b0eddae93c0a38357389d3be22287aa6ab26923654e3dc236e7", func := "skimmer/skimmerlaw02.SlickMirrors", spec := "slickMirrors", unfollowed := true, recurses := true, apart := false }
def SlickMirrorsSaid : Prop := slickMirrorsRow.holds Try.pinned (OpenSpec.ofChange slickMirrorsSpec)

/-- ITS FALSE NEIGHBOUR: 'it returns false'. Refute it at one input. -/
def slickMirrorsWrong : ChangeSpec := { name := "slickMirrors", fn := fun _ => fun
  | [d] => { results := [.lit (.bool false)], args := [d] }
  | _ => none }
def SlickMirrorsWrongFalsely : Prop := slickMirrorsRow.holds Try.pinned (OpenSpec.ofChange slickMirrorsWrong)

/-- 'skimmerlaw02.SlickTurns': WHATEVER THE INPUT: true; the input reads as it did. -/
def slickTurnsSpec : ChangeSpec := { name := "slickTurns", fn := fun _ => fun
  | [d1, d2, d3] => { results := [.lit (.bool true)], args := [d1, d2, d3] }
  | _ => none }
def slickTurnsRow : OpenClaim := { program := "ytnafllhgjidbkaa", sum := "15a33296f73f8b0eddae93c0a38357389d3be22287aa6ab26923654e3dc236e7", func := "skimmer/skimmerlaw02.SlickTurns", spec := "slickTurns", unfollowed := true, recurses := true, apart := false }
def SlickTurnsSaid : Prop := slickTurnsRow.holds Try.pinned (OpenSpec.ofChange slickTurnsSpec)

/-- ITS FALSE NEIGHBOUR: 'it returns false'. Refute it at one input. -/
def slickTurnsWrong : ChangeSpec := { name := "slickTurns", fn := fun _ => fun
  | [d1, d2, d3] => { results := [.lit (.bool false)], args := [d1, d2, d3] }
  | _ => none }
def SlickTurnsWrongFalsely : Prop := slickTurnsRow.holds Try.pinned (OpenSpec.ofChange slickTurnsWrong)

/-- 'skimmerlaw02.SlickMass': WHATEVER THE INPUT: true; the input reads as it did. -/
def slickMassSpec : ChangeSpec := { name := "slickMass", fn := fun _ => fun
  | [d1, d2, d3] => { results := [.lit (.bool true)], args := [d1, d2, d3] }
  | _ => none }
def slickMassRow : OpenClaim := { program := "ytnafllhgjidbkaa", sum := "15a33296f73f8b0eddae93c0a38357389d3be22287aa6ab26923654e3dc236e7", func := "skimmer/skimmerlaw02.SlickMass", spec := "slickMass", unfollowed := true, recurses := true, apart := false }
def SlickMassSaid : Prop := slickMassRow.holds Try.pinned (OpenSpec.ofChange slickMassSpec)

/-- ITS FALSE NEIGHBOUR: 'it returns false'. Refute it at one input. -/
def slickMassWrong : ChangeSpec := { name := "slickMass", fn := fun _ => fun
  | [d1, d2, d3] => { results := [.lit (.bool false)], args := [d1, d2, d3] }
  | _ => none }
def SlickMassWrongFalsely : Prop := slickMassRow.holds Try.pinned (OpenSpec.ofChange slickMassWrong)

/-- 'skimmerlaw02.SlickBays': WHATEVER THE INPUT: true; the input reads as it did. -/
def slickBaysSpec : ChangeSpec := { name := "slickBays", fn := fun _ => fun
  | [d1, d2] => { results := [.lit (.bool true)], args := [d1, d2] }
  | _ => none }
def slickBaysRow : OpenClaim := { program := "ytnafllhgjidbkaa", sum := "15a33296f73f8b0eddae93c0a38357389d3be22287aa6ab26923654e3dc236e7", func := "skimmer/skimmerlaw02.SlickBays", spec := "slickBays", unfollowed := true, recurses := true, apart := false }
def SlickBaysSaid : Prop := slickBaysRow.holds Try.pinned (OpenSpec.ofChange slickBaysSpec)

/-- ITS FALSE NEIGHBOUR: 'it returns false'. Refute it at one input. -/
def slickBaysWrong : ChangeSpec := { name := "slickBays", fn := fun _ => fun
  | [d1, d2] => { results := [.lit (.bool false)], args := [d1, d2] }
  | _ => none }
def SlickBaysWrongFalsely : Prop := slickBaysRow.holds Try.pinned (OpenSpec.ofChange slickBaysWrong)

/-- 'skimmerlaw02.SlickSums': WHATEVER THE INPUT: true; the input reads as it did. -/
def slickSumsSpec : ChangeSpec := { name := "slickSums", fn := fun _ => fun
  | [d1, d2, d3] => { results := [.lit (.bool true)], args := [d1, d2, d3] }
  | _ => none }
def slickSumsRow : OpenClaim := { program := "ytnafllhgjidbkaa", sum := "15a33296f73f8b0eddae93c0a38357389d3be22287aa6ab26923654e3dc236e7", func := "skimmer/skimmerlaw02.SlickSums", spec := "slickSums", unfollowed := true, recurses := true, apart := false }
def SlickSumsSaid : Prop := slickSumsRow.holds Try.pinned (OpenSpec.ofChange slickSumsSpec)

/-- ITS FALSE NEIGHBOUR: 'it returns false'. Refute it at one input. -/
def slickSumsWrong : ChangeSpec := { name := "slickSums", fn := fun _ => fun
  | [d1, d2, d3] => { results := [.lit (.bool false)], args := [d1, d2, d3] }
  | _ => none }
def SlickSumsWrongFalsely : Prop := slickSumsRow.holds Try.pinned (OpenSpec.ofChange slickSumsWrong)

/-- 'skimmerlaw02.SlickAdds': WHATEVER THE INPUT: true; the input reads as it did. -/
def slickAddsSpec : ChangeSpec := { name := "slickAdds", fn := fun _ => fun
  | [d1, d2, d3] => { results := [.lit (.bool true)], args := [d1, d2, d3] }
  | _ => none }
def slickAddsRow : OpenClaim := { program := "ytnafllhgjidbkaa", sum := "15a33296f73f8b0eddae93c0a38357389d3be22287aa6ab26923654e3dc236e7", func := "skimmer/skimmerlaw02.SlickAdds", spec := "slickAdds", unfollowed := true, recurses := true, apart := false }
def SlickAddsSaid : Prop := slickAddsRow.holds Try.pinned (OpenSpec.ofChange slickAddsSpec)

/-- ITS FALSE NEIGHBOUR: 'it returns false'. Refute it at one input. -/
def slickAddsWrong : ChangeSpec := { name := "slickAdds", fn := fun _ => fun
  | [d1, d2, d3] => { results := [.lit (.bool false)], args := [d1, d2, d3] }
  | _ => none }
def SlickAddsWrongFalsely : Prop := slickAddsRow.holds Try.pinned (OpenSpec.ofChange slickAddsWrong)

/-- 'skimmertop.TopSlick': WHATEVER THE INPUT: true; the input reads as it did. -/
def topSlickSpec : ChangeSpec := { name := "topSlick", fn := fun _ => fun
  | [d1, d2, d3] => { results := [.lit (.bool true)], args := [d1, d2, d3] }
  | _ => none }
def topSlickRow : OpenClaim := { program := "ytnafllhgjidbkaa", sum := "15a33296f73f8b0eddae93c0a38357389d3be22287aa6ab26923654e3dc236e7", func := "skimmer/skimmertop.TopSlick", spec := "topSlick", unfollowed := true, recurses := true, apart := false }
def TopSlickSaid : Prop := topSlickRow.holds Try.pinned (OpenSpec.ofChange topSlickSpec)

/-- ITS FALSE NEIGHBOUR: 'it returns false'. Refute it at one input. -/
def topSlickWrong : ChangeSpec := { name := "topSlick", fn := fun _ => fun
  | [d1, d2, d3] => { results := [.lit (.bool false)], args := [d1, d2, d3] }
  | _ => none }
def TopSlickWrongFalsely : Prop := topSlickRow.holds Try.pinned (OpenSpec.ofChange topSlickWrong)

/-- 'skimmerlaw02.SlickCosts': WHATEVER THE INPUT: true; the input reads as it did. -/
def slickCostsSpec : ChangeSpec := { name := "slickCosts", fn := fun _ => fun
  | [d1, d2, d3] => { results := [.lit (.bool true)], args := [d1, d2, d3] }
  | _ => none }
def slickCostsRow : OpenClaim := { program := "ytnafllhgjidbkaa", sum := "15a33296f73f8b0eddae93c0a38357389d3be22287aa6ab26923654e3dc236e7", func := "skimmer/skimmerlaw02.SlickCosts", spec := "slickCosts", unfollowed := true, recurses := true, apart := false }
def SlickCostsSaid : Prop := slickCostsRow.holds Try.pinned (OpenSpec.ofChange slickCostsSpec)

/-- ITS FALSE NEIGHBOUR: 'it returns false'. Refute it at one input. -/
def slickCostsWrong : ChangeSpec := { name := "slickCosts", fn := fun _ => fun
  | [d1, d2, d3] => { results := [.lit (.bool false)], args := [d1, d2, d3] }
  | _ => none }
def SlickCostsWrongFalsely : Prop := slickCostsRow.holds Try.pinned (OpenSpec.ofChange slickCostsWrong)

/-- 'skimmerlaw02.SlickBoth': WHATEVER THE INPUT: true; the input reads as it did. -/
def slickBothSpec : ChangeSpec := { name := "slickBoth", fn := fun _ => fun
  | [d1, d2, d3] => { results := [.lit (.bool true)], args := [d1, d2, d3] }
  | _ => none }
def slickBothRow : OpenClaim := { program := "ytnafllhgjidbkaa", sum := "15a33296f73f8b0eddae93c0a38357389d3be22287aa6ab26923654e3dc236e7", func := "skimmer/skimmerlaw02.SlickBoth", spec := "slickBoth", unfollowed := true, recurses := true, apart := false }
def SlickBothSaid : Prop := slickBothRow.holds Try.pinned (OpenSpec.ofChange slickBothSpec)

/-- ITS FALSE NEIGHBOUR: 'it returns false'. Refute it at one input. -/
def slickBothWrong : ChangeSpec := { name := "slickBoth", fn := fun _ => fun
  | [d1, d2, d3] => { results := [.lit (.bool false)], args := [d1, d2, d3] }
  | _ => none }
def SlickBothWrongFalsely : Prop := slickBothRow.holds Try.pinned (OpenSpec.ofChange slickBothWrong)

/-- 'skimmerlaw02.SlickWorst': WHATEVER THE INPUT: true; the input reads as it did. -/
def slickWorstSpec : ChangeSpec := { name := "slickWorst", fn := fun _ => fun
  | [d1, d2, d3] => { results := [.lit (.bool true)], args := [d1, d2, d3] }
  | _ => none }
def slickWorstRow : OpenClaim := { program := "ytnafllhgjidbkaa", sum := "15a33296f73f8b0eddae93c0a38357389d3be22287aa6ab26923654e3dc236e7", func := "skimmer/skimmerlaw02.SlickWorst", spec := "slickWorst", unfollowed := true, recurses := true, apart := false }
def SlickWorstSaid : Prop := slickWorstRow.holds Try.pinned (OpenSpec.ofChange slickWorstSpec)

/-- ITS FALSE NEIGHBOUR: 'it returns false'. Refute it at one input. -/
def slickWorstWrong : ChangeSpec := { name := "slickWorst", fn := fun _ => fun
  | [d1, d2, d3] => { results := [.lit (.bool false)], args := [d1, d2, d3] }
  | _ => none }
def SlickWorstWrongFalsely : Prop := slickWorstRow.holds Try.pinned (OpenSpec.ofChange slickWorstWrong)

/-- 'skimmerlaw02.SlickSpreads': WHATEVER THE INPUT: true; the input reads as it did. -/
def slickSpreadsSpec : ChangeSpec := { name := "slickSpreads", fn := fun _ => fun
  | [d1, d2, d3] => { results := [.lit (.bool true)], args := [d1, d2, d3] }
  | _ => none }
def slickSpreadsRow : OpenClaim := { program := "ytnafllhgjidbkaa", sum := "15a33296f73f8b0eddae93c0a38357389d3be22287aa6ab26923654e3dc236e7", func := "skimmer/skimmerlaw02.SlickSpreads", spec := "slickSpreads", unfollowed := true, recurses := true, apart := false }
def SlickSpreadsSaid : Prop := slickSpreadsRow.holds Try.pinned (OpenSpec.ofChange slickSpreadsSpec)

/-- ITS FALSE NEIGHBOUR: 'it returns false'. Refute it at one input. -/
def slickSpreadsWrong : ChangeSpec := { name := "slickSpreads", fn := fun _ => fun
  | [d1, d2, d3] => { results := [.lit (.bool false)], args := [d1, d2, d3] }
  | _ => none }
def SlickSpreadsWrongFalsely : Prop := slickSpreadsRow.holds Try.pinned (OpenSpec.ofChange slickSpreadsWrong)

/- THE SECOND FORM. 'bulk': how many values and letters a reading holds, each counted each time it is reached (what is shared counts as often as it is met; a slice's spare places count too). A statement '..UptoSaid' is the law's where the arguments, and the package variables that the reading takes, are together of bulk at most 1048576: NARROWER than '..Said'. Prove '..Said' where nothing that the law and all that it calls make is longer than what came in: it says more and counts as full. Else prove '..UptoSaid'. A law counts once. -/
mutual
def uptoBulk {H : Type} : DataW H → Nat
  | .lit (.string bytes) => bytes.length + 1
  | .lit _ => 1
  | .nil => 1
  | .ptr d => uptoBulk d + 1
  | .slice elems spare => uptoBulkAll elems + uptoBulkAll spare + 1
  | .agg parts => uptoBulkAll parts + 1
  | .iface _ d => uptoBulk d + 1
  | .map entries => uptoBulkEntries entries + 1
  | .held _ => 1
def uptoBulkAll {H : Type} : List (DataW H) → Nat
  | [] => 0
  | d :: r => uptoBulk d + uptoBulkAll r
def uptoBulkEntries {H : Type} : List (Lit × DataW H) → Nat
  | [] => 0
  | x :: r => uptoBulkEntry x + uptoBulkEntries r
def uptoBulkEntry {H : Type} : Lit × DataW H → Nat
  | (.string bytes, d) => bytes.length + uptoBulk d + 1
  | (_, d) => uptoBulk d + 1
 end
def uptoSmall : (H : Type) → List (DataW H) → Bool := fun _ ds => decide (uptoBulkAll ds ≤ 1048576)
def OpenSpec.upto (s : _root_.Go.ChangeSpec) : _root_.Go.OpenSpec := { _root_.Go.OpenSpec.ofChange s with cond := some uptoSmall }

/-- 'skimmerlaw02.SlickMoves', WHERE WHAT IT READS IS OF BULK AT MOST 1048576: true; the input reads as it did. -/
def slickMovesUptoRow : OpenClaim := { program := "ytnafllhgjidbkaa", sum := "15a33296f73f8b0eddae93c0a38357389d3be22287aa6ab26923654e3dc236e7", func := "skimmer/skimmerlaw02.SlickMoves", spec := "slickMoves", unfollowed := true, recurses := true, apart := false, narrowed := true }
def SlickMovesUptoSaid : Prop := slickMovesUptoRow.holds Try.pinned (OpenSpec.upto slickMovesSpec)

/-- 'skimmerlaw02.SlickMirrors', WHERE WHAT IT READS IS OF BULK AT MOST 1048576: true; the input reads as it did. -/
def slickMirrorsUptoRow : OpenClaim := { program := "ytnafllhgjidbkaa", sum := "15a33296f73f8b0eddae93c0a38357389d3be22287aa6ab26923654e3dc236e7", func := "skimmer/skimmerlaw02.SlickMirrors", spec := "slickMirrors", unfollowed := true, recurses := true, apart := false, narrowed := true }
def SlickMirrorsUptoSaid : Prop := slickMirrorsUptoRow.holds Try.pinned (OpenSpec.upto slickMirrorsSpec)

/-- 'skimmerlaw02.SlickTurns', WHERE WHAT IT READS IS OF BULK AT MOST 1048576: true; the input reads as it did. -/
def slickTurnsUptoRow : OpenClaim := { program := "ytnafllhgjidbkaa", sum := "15a33296f73f8b0eddae93c0a38357389d3be22287aa6ab26923654e3dc236e7", func := "skimmer/skimmerlaw02.SlickTurns", spec := "slickTurns", unfollowed := true, recurses := true, apart := false, narrowed := true }
def SlickTurnsUptoSaid : Prop := slickTurnsUptoRow.holds Try.pinned (OpenSpec.upto slickTurnsSpec)

/-- 'skimmerlaw02.SlickMass', WHERE WHAT IT READS IS OF BULK AT MOST 1048576: true; the input reads as it did. -/
def slickMassUptoRow : OpenClaim := { program := "ytnafllhgjidbkaa", sum := "15a33296f73f8b0eddae93c0a38357389d3be22287aa6ab26923654e3dc236e7", func := "skimmer/skimmerlaw02.SlickMass", spec := "slickMass", unfollowed := true, recurses := true, apart := false, narrowed := true }
def SlickMassUptoSaid : Prop := slickMassUptoRow.holds Try.pinned (OpenSpec.upto slickMassSpec)

/-- 'skimmerlaw02.SlickBays', WHERE WHAT IT READS IS OF BULK AT MOST 1048576: true; the input reads as it did. -/
def slickBaysUptoRow : OpenClaim := { program := "ytnafllhgjidbkaa", sum := "15a33296f73f8b0eddae93c0a38357389d3be22287aa6ab26923654e3dc236e7", func := "skimmer/skimmerlaw02.SlickBays", spec := "slickBays", unfollowed := true, recurses := true, apart := false, narrowed := true }
def SlickBaysUptoSaid : Prop := slickBaysUptoRow.holds Try.pinned (OpenSpec.upto slickBaysSpec)

/-- 'skimmerlaw02.SlickSums', WHERE WHAT IT READS IS OF BULK AT MOST 1048576: true; the input reads as it did. -/
def slickSumsUptoRow : OpenClaim := { program := "ytnafllhgjidbkaa", sum := "15a33296f73f8b0eddae93c0a38357389d3be22287aa6ab26923654e3dc236e7", func := "skimmer/skimmerlaw02.SlickSums", spec := "slickSums", unfollowed := true, recurses := true, apart := false, narrowed := true }
def SlickSumsUptoSaid : Prop := slickSumsUptoRow.holds Try.pinned (OpenSpec.upto slickSumsSpec)

/-- 'skimmerlaw02.SlickAdds', WHERE WHAT IT READS IS OF BULK AT MOST 1048576: true; the input reads as it did. -/
def slickAddsUptoRow : OpenClaim := { program := "ytnafllhgjidbkaa", sum := "15a33296f73f8b0eddae93c0a38357389d3be22287aa6ab26923654e3dc236e7", func := "skimmer/skimmerlaw02.SlickAdds", spec := "slickAdds", unfollowed := true, recurses := true, apart := false, narrowed := true }
def SlickAddsUptoSaid : Prop := slickAddsUptoRow.holds Try.pinned (OpenSpec.upto slickAddsSpec)

/-- 'skimmertop.TopSlick', WHERE WHAT IT READS IS OF BULK AT MOST 1048576: true; the input reads as it did. -/
def topSlickUptoRow : OpenClaim := { program := "ytnafllhgjidbkaa", sum := "15a33296f73f8b0eddae93c0a38357389d3be22287aa6ab26923654e3dc236e7", func := "skimmer/skimmertop.TopSlick", spec := "topSlick", unfollowed := true, recurses := true, apart := false, narrowed := true }
def TopSlickUptoSaid : Prop := topSlickUptoRow.holds Try.pinned (OpenSpec.upto topSlickSpec)

/-- 'skimmerlaw02.SlickCosts', WHERE WHAT IT READS IS OF BULK AT MOST 1048576: true; the input reads as it did. -/
def slickCostsUptoRow : OpenClaim := { program := "ytnafllhgjidbkaa", sum := "15a33296f73f8b0eddae93c0a38357389d3be22287aa6ab26923654e3dc236e7", func := "skimmer/skimmerlaw02.SlickCosts", spec := "slickCosts", unfollowed := true, recurses := true, apart := false, narrowed := true }
def SlickCostsUptoSaid : Prop := slickCostsUptoRow.holds Try.pinned (OpenSpec.upto slickCostsSpec)

/-- 'skimmerlaw02.SlickBoth', WHERE WHAT IT READS IS OF BULK AT MOST 1048576: true; the input reads as it did. -/
def slickBothUptoRow : OpenClaim := { program := "ytnafllhgjidbkaa", sum := "15a33296f73f8b0eddae93c0a38357389d3be22287aa6ab26923654e3dc236e7", func := "skimmer/skimmerlaw02.SlickBoth", spec := "slickBoth", unfollowed := true, recurses := true, apart := false, narrowed := true }
def SlickBothUptoSaid : Prop := slickBothUptoRow.holds Try.pinned (OpenSpec.upto slickBothSpec)

/-- 'skimmerlaw02.SlickWorst', WHERE WHAT IT READS IS OF BULK AT MOST 1048576: true; the input reads as it did. -/
def slickWorstUptoRow : OpenClaim := { program := "ytnafllhgjidbkaa", sum := "15a33296f73f8b0eddae93c0a38357389d3be22287aa6ab26923654e3dc236e7", func := "skimmer/skimmerlaw02.SlickWorst", spec := "slickWorst", unfollowed := true, recurses := true, apart := false, narrowed := true }
def SlickWorstUptoSaid : Prop := slickWorstUptoRow.holds Try.pinned (OpenSpec.upto slickWorstSpec)

/-- 'skimmerlaw02.SlickSpreads', WHERE WHAT IT READS IS OF BULK AT MOST 1048576: true; the input reads as it did. -/
def slickSpreadsUptoRow : OpenClaim := { program := "ytnafllhgjidbkaa", sum := "15a33296f73f8b0eddae93c0a38357389d3be22287aa6ab26923654e3dc236e7", func := "skimmer/skimmerlaw02.SlickSpreads", spec := "slickSpreads", unfollowed := true, recurses := true, apart := false, narrowed := true }
def SlickSpreadsUptoSaid : Prop := slickSpreadsUptoRow.holds Try.pinned (OpenSpec.upto slickSpreadsSpec)

end Rows
end Go.Proofs.Ytnafllhgjidbkaa
