/-
  DERIVED. GIVEN WITH THE SEED: THE CARDS: each row of YtnmmglnadnfoiaaGreatDoorRows.lean that lists a variable, with what it lists TIED to the program's text (the seventh form; the later family's looks); each row that meets fmt, with fmt's text TOLD by the authors' own Lean function (tested against real Go, not proved from fmt's source: count such statements apart). THE CARD IS WHAT COUNTS. Prove the row's statement (the work); the ties are given (YtnmmglnadnfoiaaGreatDoorTie.lean); close each card by the builder's one call (the guide's Derived/Test/ToyasCard.lean, 'card_holds'). Laid BY PROGRAM, IN A SANDBOX (cutbox-door.mjs). By AI agents, Wed Nov 11 2026. No macro, syntax, notation, axiom, sorry.
-/
import Derived.Test.YtnmmglnadnfoiaaGreatDoorRows
import GoSem.ClaimSeven
namespace Go.Proofs.YtnmmglnadnfoiaaGreatDoor
namespace Rows

/-- THE TIED CARD OF 'schismalaw44.LayoutNotes'. -/
def layoutNotesCard : Claim7 := { stood := { row := layoutNotesRow, standIns := [], harness := (true, "07cffd44b402b6ced35291fa06eafe9d18d486cdf2c15955e5a9ca4dfa98b27a"), looks := true }, kinds := [], alts := [], laidByText := true, laidKinds := [.data, .data, .data, .sentinel, .sentinel], laidTests := true, laidLooks := .later }
def LayoutNotesCardSaid : Prop := Claim7.holds Tryz.pinned (.plain (OpenSpec.ofChange layoutNotesSpec)) layoutNotesCard

/-- THE TIED CARD OF 'schismalaw44.LayoutNeighbours'. -/
def layoutNeighboursCard : Claim7 := { stood := { row := layoutNeighboursRow, standIns := [], harness := (true, "07cffd44b402b6ced35291fa06eafe9d18d486cdf2c15955e5a9ca4dfa98b27a"), looks := true }, kinds := [], alts := [], laidByText := true, laidKinds := [.data, .data, .data, .sentinel, .sentinel], laidTests := true, laidLooks := .later }
def LayoutNeighboursCardSaid : Prop := Claim7.holds Tryz.pinned (.plain (OpenSpec.ofChange layoutNeighboursSpec)) layoutNeighboursCard

/-- THE TIED CARD OF 'schismalaw08.SmithCombines'. -/
def smithCombinesCard : Claim7 := { stood := { row := smithCombinesRow, standIns := [], harness := (true, "07cffd44b402b6ced35291fa06eafe9d18d486cdf2c15955e5a9ca4dfa98b27a"), looks := true }, kinds := [], alts := [], laidByText := true, laidKinds := [.data, .data, .data, .sentinel, .sentinel], laidTests := true, laidLooks := .later }
def SmithCombinesCardSaid : Prop := Claim7.holds Tryz.pinned (.plain (OpenSpec.ofChange smithCombinesSpec)) smithCombinesCard

/-- THE TIED CARD OF 'schismalaw08.SmithLaws'. -/
def smithLawsCard : Claim7 := { stood := { row := smithLawsRow, standIns := [], harness := (true, "07cffd44b402b6ced35291fa06eafe9d18d486cdf2c15955e5a9ca4dfa98b27a"), looks := true }, kinds := [], alts := [], laidByText := true, laidKinds := [.data, .data, .data, .sentinel, .sentinel], laidTests := true, laidLooks := .later }
def SmithLawsCardSaid : Prop := Claim7.holds Tryz.pinned (.plain (OpenSpec.ofChange smithLawsSpec)) smithLawsCard

/-- THE TIED CARD OF 'schismalaw08.SmithKernels'. -/
def smithKernelsCard : Claim7 := { stood := { row := smithKernelsRow, standIns := [], harness := (true, "07cffd44b402b6ced35291fa06eafe9d18d486cdf2c15955e5a9ca4dfa98b27a"), looks := true }, kinds := [], alts := [], laidByText := true, laidKinds := [.data, .data, .data, .sentinel, .sentinel], laidTests := true, laidLooks := .later }
def SmithKernelsCardSaid : Prop := Claim7.holds Tryz.pinned (.plain (OpenSpec.ofChange smithKernelsSpec)) smithKernelsCard

/-- THE TIED CARD OF 'schismalaw08.SmithSolves'. -/
def smithSolvesCard : Claim7 := { stood := { row := smithSolvesRow, standIns := [], harness := (true, "07cffd44b402b6ced35291fa06eafe9d18d486cdf2c15955e5a9ca4dfa98b27a"), looks := true }, kinds := [], alts := [], laidByText := true, laidKinds := [.data, .data, .data, .sentinel, .sentinel], laidTests := true, laidLooks := .later }
def SmithSolvesCardSaid : Prop := Claim7.holds Tryz.pinned (.plain (OpenSpec.ofChange smithSolvesSpec)) smithSolvesCard

/-- THE TIED CARD OF 'schismalaw08.SmithFactors'. -/
def smithFactorsCard : Claim7 := { stood := { row := smithFactorsRow, standIns := [], harness := (true, "07cffd44b402b6ced35291fa06eafe9d18d486cdf2c15955e5a9ca4dfa98b27a"), looks := true }, kinds := [], alts := [], laidByText := true, laidKinds := [.data, .data, .data, .sentinel, .sentinel], laidTests := true, laidLooks := .later }
def SmithFactorsCardSaid : Prop := Claim7.holds Tryz.pinned (.plain (OpenSpec.ofChange smithFactorsSpec)) smithFactorsCard

/-- THE TIED CARD OF 'schismalaw44.LayoutMoves'. -/
def layoutMovesCard : Claim7 := { stood := { row := layoutMovesRow, standIns := [], harness := (true, "07cffd44b402b6ced35291fa06eafe9d18d486cdf2c15955e5a9ca4dfa98b27a"), looks := true }, kinds := [], alts := [], laidByText := true, laidKinds := [.data, .data, .data, .sentinel, .sentinel], laidTests := true, laidLooks := .later }
def LayoutMovesCardSaid : Prop := Claim7.holds Tryz.pinned (.plain (OpenSpec.ofChange layoutMovesSpec)) layoutMovesCard

/-- THE TIED CARD OF 'schismalaw44.LayoutWindows'. -/
def layoutWindowsCard : Claim7 := { stood := { row := layoutWindowsRow, standIns := [], harness := (true, "07cffd44b402b6ced35291fa06eafe9d18d486cdf2c15955e5a9ca4dfa98b27a"), looks := true }, kinds := [], alts := [], laidByText := true, laidKinds := [.data, .data, .data, .sentinel, .sentinel], laidTests := true, laidLooks := .later }
def LayoutWindowsCardSaid : Prop := Claim7.holds Tryz.pinned (.plain (OpenSpec.ofChange layoutWindowsSpec)) layoutWindowsCard

/-- THE TIED CARD OF 'schismalaw44.LayoutAdds'. -/
def layoutAddsCard : Claim7 := { stood := { row := layoutAddsRow, standIns := [], harness := (true, "07cffd44b402b6ced35291fa06eafe9d18d486cdf2c15955e5a9ca4dfa98b27a"), looks := true }, kinds := [], alts := [], laidByText := true, laidKinds := [.data, .data, .data, .sentinel, .sentinel], laidTests := true, laidLooks := .later }
def LayoutAddsCardSaid : Prop := Claim7.holds Tryz.pinned (.plain (OpenSpec.ofChange layoutAddsSpec)) layoutAddsCard

/-- THE TIED CARD OF 'schismalaw44.LayoutPictures'. -/
def layoutPicturesCard : Claim7 := { stood := { row := layoutPicturesRow, standIns := [], harness := (true, "07cffd44b402b6ced35291fa06eafe9d18d486cdf2c15955e5a9ca4dfa98b27a"), looks := true }, kinds := [], alts := [], laidByText := true, laidKinds := [.data, .data, .data, .sentinel, .sentinel], laidTests := true, laidLooks := .later }
def LayoutPicturesCardSaid : Prop := Claim7.holds Tryz.pinned (.plain (OpenSpec.ofChange layoutPicturesSpec)) layoutPicturesCard

/-- THE TIED CARD OF 'schismalaw44.LayoutChecks'. -/
def layoutChecksCard : Claim7 := { stood := { row := layoutChecksRow, standIns := [], harness := (true, "07cffd44b402b6ced35291fa06eafe9d18d486cdf2c15955e5a9ca4dfa98b27a"), looks := true }, kinds := [], alts := [], laidByText := true, laidKinds := [.data, .data, .data, .sentinel, .sentinel], laidTests := true, laidLooks := .later }
def LayoutChecksCardSaid : Prop := Claim7.holds Tryz.pinned (.plain (OpenSpec.ofChange layoutChecksSpec)) layoutChecksCard

/-- THE SECOND FORM's CARD OF 'schismalaw44.LayoutNotes'. -/
def layoutNotesUptoCard : Claim7 := { stood := { row := layoutNotesUptoRow, standIns := [], harness := (true, "07cffd44b402b6ced35291fa06eafe9d18d486cdf2c15955e5a9ca4dfa98b27a"), looks := true }, kinds := [], alts := [], laidByText := true, laidKinds := [.data, .data, .data, .sentinel, .sentinel], laidTests := true, laidLooks := .later }
def LayoutNotesUptoCardSaid : Prop := Claim7.holds Tryz.pinned (.plain (OpenSpec.upto layoutNotesSpec)) layoutNotesUptoCard

/-- THE SECOND FORM's CARD OF 'schismalaw44.LayoutNeighbours'. -/
def layoutNeighboursUptoCard : Claim7 := { stood := { row := layoutNeighboursUptoRow, standIns := [], harness := (true, "07cffd44b402b6ced35291fa06eafe9d18d486cdf2c15955e5a9ca4dfa98b27a"), looks := true }, kinds := [], alts := [], laidByText := true, laidKinds := [.data, .data, .data, .sentinel, .sentinel], laidTests := true, laidLooks := .later }
def LayoutNeighboursUptoCardSaid : Prop := Claim7.holds Tryz.pinned (.plain (OpenSpec.upto layoutNeighboursSpec)) layoutNeighboursUptoCard

/-- THE SECOND FORM's CARD OF 'schismalaw08.SmithCombines'. -/
def smithCombinesUptoCard : Claim7 := { stood := { row := smithCombinesUptoRow, standIns := [], harness := (true, "07cffd44b402b6ced35291fa06eafe9d18d486cdf2c15955e5a9ca4dfa98b27a"), looks := true }, kinds := [], alts := [], laidByText := true, laidKinds := [.data, .data, .data, .sentinel, .sentinel], laidTests := true, laidLooks := .later }
def SmithCombinesUptoCardSaid : Prop := Claim7.holds Tryz.pinned (.plain (OpenSpec.upto smithCombinesSpec)) smithCombinesUptoCard

/-- THE SECOND FORM's CARD OF 'schismalaw08.SmithLaws'. -/
def smithLawsUptoCard : Claim7 := { stood := { row := smithLawsUptoRow, standIns := [], harness := (true, "07cffd44b402b6ced35291fa06eafe9d18d486cdf2c15955e5a9ca4dfa98b27a"), looks := true }, kinds := [], alts := [], laidByText := true, laidKinds := [.data, .data, .data, .sentinel, .sentinel], laidTests := true, laidLooks := .later }
def SmithLawsUptoCardSaid : Prop := Claim7.holds Tryz.pinned (.plain (OpenSpec.upto smithLawsSpec)) smithLawsUptoCard

/-- THE SECOND FORM's CARD OF 'schismalaw08.SmithKernels'. -/
def smithKernelsUptoCard : Claim7 := { stood := { row := smithKernelsUptoRow, standIns := [], harness := (true, "07cffd44b402b6ced35291fa06eafe9d18d486cdf2c15955e5a9ca4dfa98b27a"), looks := true }, kinds := [], alts := [], laidByText := true, laidKinds := [.data, .data, .data, .sentinel, .sentinel], laidTests := true, laidLooks := .later }
def SmithKernelsUptoCardSaid : Prop := Claim7.holds Tryz.pinned (.plain (OpenSpec.upto smithKernelsSpec)) smithKernelsUptoCard

/-- THE SECOND FORM's CARD OF 'schismalaw08.SmithSolves'. -/
def smithSolvesUptoCard : Claim7 := { stood := { row := smithSolvesUptoRow, standIns := [], harness := (true, "07cffd44b402b6ced35291fa06eafe9d18d486cdf2c15955e5a9ca4dfa98b27a"), looks := true }, kinds := [], alts := [], laidByText := true, laidKinds := [.data, .data, .data, .sentinel, .sentinel], laidTests := true, laidLooks := .later }
def SmithSolvesUptoCardSaid : Prop := Claim7.holds Tryz.pinned (.plain (OpenSpec.upto smithSolvesSpec)) smithSolvesUptoCard

/-- THE SECOND FORM's CARD OF 'schismalaw08.SmithFactors'. -/
def smithFactorsUptoCard : Claim7 := { stood := { row := smithFactorsUptoRow, standIns := [], harness := (true, "07cffd44b402b6ced35291fa06eafe9d18d486cdf2c15955e5a9ca4dfa98b27a"), looks := true }, kinds := [], alts := [], laidByText := true, laidKinds := [.data, .data, .data, .sentinel, .sentinel], laidTests := true, laidLooks := .later }
def SmithFactorsUptoCardSaid : Prop := Claim7.holds Tryz.pinned (.plain (OpenSpec.upto smithFactorsSpec)) smithFactorsUptoCard

/-- THE SECOND FORM's CARD OF 'schismalaw44.LayoutMoves'. -/
def layoutMovesUptoCard : Claim7 := { stood := { row := layoutMovesUptoRow, standIns := [], harness := (true, "07cffd44b402b6ced35291fa06eafe9d18d486cdf2c15955e5a9ca4dfa98b27a"), looks := true }, kinds := [], alts := [], laidByText := true, laidKinds := [.data, .data, .data, .sentinel, .sentinel], laidTests := true, laidLooks := .later }
def LayoutMovesUptoCardSaid : Prop := Claim7.holds Tryz.pinned (.plain (OpenSpec.upto layoutMovesSpec)) layoutMovesUptoCard

/-- THE SECOND FORM's CARD OF 'schismalaw44.LayoutWindows'. -/
def layoutWindowsUptoCard : Claim7 := { stood := { row := layoutWindowsUptoRow, standIns := [], harness := (true, "07cffd44b402b6ced35291fa06eafe9d18d486cdf2c15955e5a9ca4dfa98b27a"), looks := true }, kinds := [], alts := [], laidByText := true, laidKinds := [.data, .data, .data, .sentinel, .sentinel], laidTests := true, laidLooks := .later }
def LayoutWindowsUptoCardSaid : Prop := Claim7.holds Tryz.pinned (.plain (OpenSpec.upto layoutWindowsSpec)) layoutWindowsUptoCard

/-- THE SECOND FORM's CARD OF 'schismalaw44.LayoutAdds'. -/
def layoutAddsUptoCard : Claim7 := { stood := { row := layoutAddsUptoRow, standIns := [], harness := (true, "07cffd44b402b6ced35291fa06eafe9d18d486cdf2c15955e5a9ca4dfa98b27a"), looks := true }, kinds := [], alts := [], laidByText := true, laidKinds := [.data, .data, .data, .sentinel, .sentinel], laidTests := true, laidLooks := .later }
def LayoutAddsUptoCardSaid : Prop := Claim7.holds Tryz.pinned (.plain (OpenSpec.upto layoutAddsSpec)) layoutAddsUptoCard

/-- THE SECOND FORM's CARD OF 'schismalaw44.LayoutPictures'. -/
def layoutPicturesUptoCard : Claim7 := { stood := { row := layoutPicturesUptoRow, standIns := [], harness := (true, "07cffd44b402b6ced35291fa06eafe9d18d486cdf2c15955e5a9ca4dfa98b27a"), looks := true }, kinds := [], alts := [], laidByText := true, laidKinds := [.data, .data, .data, .sentinel, .sentinel], laidTests := true, laidLooks := .later }
def LayoutPicturesUptoCardSaid : Prop := Claim7.holds Tryz.pinned (.plain (OpenSpec.upto layoutPicturesSpec)) layoutPicturesUptoCard

/-- THE SECOND FORM's CARD OF 'schismalaw44.LayoutChecks'. -/
def layoutChecksUptoCard : Claim7 := { stood := { row := layoutChecksUptoRow, standIns := [], harness := (true, "07cffd44b402b6ced35291fa06eafe9d18d486cdf2c15955e5a9ca4dfa98b27a"), looks := true }, kinds := [], alts := [], laidByText := true, laidKinds := [.data, .data, .data, .sentinel, .sentinel], laidTests := true, laidLooks := .later }
def LayoutChecksUptoCardSaid : Prop := Claim7.holds Tryz.pinned (.plain (OpenSpec.upto layoutChecksSpec)) layoutChecksUptoCard
end Rows
end Go.Proofs.YtnmmglnadnfoiaaGreatDoor
