/-
  DERIVED. GIVEN WITH THE SEED: THE CARDS: each row of YtcklioolpicmcaaGreatDoorRows.lean that lists a variable, with what it lists TIED to the program's text (the seventh form; the later family's looks); each row that meets fmt, with fmt's text TOLD by the authors' own Lean function (tested against real Go, not proved from fmt's source: count such statements apart). THE CARD IS WHAT COUNTS. Prove the row's statement (the work); the ties are given (YtcklioolpicmcaaGreatDoorTie.lean); close each card by the builder's one call (the guide's Derived/Test/ToyasCard.lean, 'card_holds'). Laid BY PROGRAM, IN A SANDBOX (cutbox-door.mjs). By AI agents, Wed Nov 11 2026. No macro, syntax, notation, axiom, sorry.
-/
import Derived.Test.YtcklioolpicmcaaGreatDoorRows
import GoSem.ClaimSeven
namespace Go.Proofs.YtcklioolpicmcaaGreatDoor
namespace Rows

/-- THE TIED CARD OF 'schismalaw08.SmithCombines'. -/
def smithCombinesCard : Claim7 := { stood := { row := smithCombinesRow, standIns := [], harness := (true, "f3171be37d84880da3c394ff91b45e1e9f3488d77b6fc18ee18dee58407629be"), looks := true }, kinds := [], alts := [], laidByText := true, laidKinds := [.data, .data, .data, .sentinel, .sentinel], laidTests := true, laidLooks := .later }
def SmithCombinesCardSaid : Prop := Claim7.holds Tryz.pinned (.plain (OpenSpec.ofChange smithCombinesSpec)) smithCombinesCard

/-- THE TIED CARD OF 'schismalaw08.SmithErrors'. -/
def smithErrorsCard : Claim7 := { stood := { row := smithErrorsRow, standIns := [], harness := (true, "f3171be37d84880da3c394ff91b45e1e9f3488d77b6fc18ee18dee58407629be"), looks := true }, kinds := [], alts := [], laidByText := true, laidKinds := [.data, .data, .data, .sentinel, .sentinel], laidTests := true, laidLooks := .later }
def SmithErrorsCardSaid : Prop := Claim7.holds Tryz.pinned (.plain (OpenSpec.ofChange smithErrorsSpec)) smithErrorsCard

/-- THE TIED CARD OF 'schismalaw44.LayoutPictures'. -/
def layoutPicturesCard : Claim7 := { stood := { row := layoutPicturesRow, standIns := [], harness := (true, "f3171be37d84880da3c394ff91b45e1e9f3488d77b6fc18ee18dee58407629be"), looks := true }, kinds := [], alts := [], laidByText := true, laidKinds := [.data, .data, .data, .sentinel, .sentinel], laidTests := true, laidLooks := .later }
def LayoutPicturesCardSaid : Prop := Claim7.holds Tryz.pinned (.plain (OpenSpec.ofChange layoutPicturesSpec)) layoutPicturesCard

/-- THE TIED CARD OF 'schismalaw44.LayoutChecks'. -/
def layoutChecksCard : Claim7 := { stood := { row := layoutChecksRow, standIns := [], harness := (true, "f3171be37d84880da3c394ff91b45e1e9f3488d77b6fc18ee18dee58407629be"), looks := true }, kinds := [], alts := [], laidByText := true, laidKinds := [.data, .data, .data, .sentinel, .sentinel], laidTests := true, laidLooks := .later }
def LayoutChecksCardSaid : Prop := Claim7.holds Tryz.pinned (.plain (OpenSpec.ofChange layoutChecksSpec)) layoutChecksCard

/-- THE TIED CARD OF 'schismalaw08.SmithLaws'. -/
def smithLawsCard : Claim7 := { stood := { row := smithLawsRow, standIns := [], harness := (true, "f3171be37d84880da3c394ff91b45e1e9f3488d77b6fc18ee18dee58407629be"), looks := true }, kinds := [], alts := [], laidByText := true, laidKinds := [.data, .data, .data, .sentinel, .sentinel], laidTests := true, laidLooks := .later }
def SmithLawsCardSaid : Prop := Claim7.holds Tryz.pinned (.plain (OpenSpec.ofChange smithLawsSpec)) smithLawsCard

/-- THE TIED CARD OF 'schismalaw08.SmithKernels'. -/
def smithKernelsCard : Claim7 := { stood := { row := smithKernelsRow, standIns := [], harness := (true, "f3171be37d84880da3c394ff91b45e1e9f3488d77b6fc18ee18dee58407629be"), looks := true }, kinds := [], alts := [], laidByText := true, laidKinds := [.data, .data, .data, .sentinel, .sentinel], laidTests := true, laidLooks := .later }
def SmithKernelsCardSaid : Prop := Claim7.holds Tryz.pinned (.plain (OpenSpec.ofChange smithKernelsSpec)) smithKernelsCard

/-- THE TIED CARD OF 'schismalaw08.SmithSolves'. -/
def smithSolvesCard : Claim7 := { stood := { row := smithSolvesRow, standIns := [], harness := (true, "f3171be37d84880da3c394ff91b45e1e9f3488d77b6fc18ee18dee58407629be"), looks := true }, kinds := [], alts := [], laidByText := true, laidKinds := [.data, .data, .data, .sentinel, .sentinel], laidTests := true, laidLooks := .later }
def SmithSolvesCardSaid : Prop := Claim7.holds Tryz.pinned (.plain (OpenSpec.ofChange smithSolvesSpec)) smithSolvesCard

/-- THE TIED CARD OF 'schismalaw08.SmithFactors'. -/
def smithFactorsCard : Claim7 := { stood := { row := smithFactorsRow, standIns := [], harness := (true, "f3171be37d84880da3c394ff91b45e1e9f3488d77b6fc18ee18dee58407629be"), looks := true }, kinds := [], alts := [], laidByText := true, laidKinds := [.data, .data, .data, .sentinel, .sentinel], laidTests := true, laidLooks := .later }
def SmithFactorsCardSaid : Prop := Claim7.holds Tryz.pinned (.plain (OpenSpec.ofChange smithFactorsSpec)) smithFactorsCard

/-- THE TIED CARD OF 'schismalaw08.SmithOrders'. -/
def smithOrdersCard : Claim7 := { stood := { row := smithOrdersRow, standIns := [], harness := (true, "f3171be37d84880da3c394ff91b45e1e9f3488d77b6fc18ee18dee58407629be"), looks := true }, kinds := [], alts := [], laidByText := true, laidKinds := [.data, .data, .data, .sentinel, .sentinel], laidTests := true, laidLooks := .later }
def SmithOrdersCardSaid : Prop := Claim7.holds Tryz.pinned (.plain (OpenSpec.ofChange smithOrdersSpec)) smithOrdersCard

/-- THE TIED CARD OF 'schismalaw08.SmithQuotients'. -/
def smithQuotientsCard : Claim7 := { stood := { row := smithQuotientsRow, standIns := [], harness := (true, "f3171be37d84880da3c394ff91b45e1e9f3488d77b6fc18ee18dee58407629be"), looks := true }, kinds := [], alts := [], laidByText := true, laidKinds := [.data, .data, .data, .sentinel, .sentinel], laidTests := true, laidLooks := .later }
def SmithQuotientsCardSaid : Prop := Claim7.holds Tryz.pinned (.plain (OpenSpec.ofChange smithQuotientsSpec)) smithQuotientsCard

/-- THE TIED CARD OF 'schismalaw08.SmithVerifies'. -/
def smithVerifiesCard : Claim7 := { stood := { row := smithVerifiesRow, standIns := [], harness := (true, "f3171be37d84880da3c394ff91b45e1e9f3488d77b6fc18ee18dee58407629be"), looks := true }, kinds := [], alts := [], laidByText := true, laidKinds := [.data, .data, .data, .sentinel, .sentinel], laidTests := true, laidLooks := .later }
def SmithVerifiesCardSaid : Prop := Claim7.holds Tryz.pinned (.plain (OpenSpec.ofChange smithVerifiesSpec)) smithVerifiesCard

/-- THE TIED CARD OF 'schismalaw08.SmithTransforms'. -/
def smithTransformsCard : Claim7 := { stood := { row := smithTransformsRow, standIns := [], harness := (true, "f3171be37d84880da3c394ff91b45e1e9f3488d77b6fc18ee18dee58407629be"), looks := true }, kinds := [], alts := [], laidByText := true, laidKinds := [.data, .data, .data, .sentinel, .sentinel], laidTests := true, laidLooks := .later }
def SmithTransformsCardSaid : Prop := Claim7.holds Tryz.pinned (.plain (OpenSpec.ofChange smithTransformsSpec)) smithTransformsCard

/-- THE SECOND FORM's CARD OF 'schismalaw08.SmithCombines'. -/
def smithCombinesUptoCard : Claim7 := { stood := { row := smithCombinesUptoRow, standIns := [], harness := (true, "f3171be37d84880da3c394ff91b45e1e9f3488d77b6fc18ee18dee58407629be"), looks := true }, kinds := [], alts := [], laidByText := true, laidKinds := [.data, .data, .data, .sentinel, .sentinel], laidTests := true, laidLooks := .later }
def SmithCombinesUptoCardSaid : Prop := Claim7.holds Tryz.pinned (.plain (OpenSpec.upto smithCombinesSpec)) smithCombinesUptoCard

/-- THE SECOND FORM's CARD OF 'schismalaw08.SmithErrors'. -/
def smithErrorsUptoCard : Claim7 := { stood := { row := smithErrorsUptoRow, standIns := [], harness := (true, "f3171be37d84880da3c394ff91b45e1e9f3488d77b6fc18ee18dee58407629be"), looks := true }, kinds := [], alts := [], laidByText := true, laidKinds := [.data, .data, .data, .sentinel, .sentinel], laidTests := true, laidLooks := .later }
def SmithErrorsUptoCardSaid : Prop := Claim7.holds Tryz.pinned (.plain (OpenSpec.upto smithErrorsSpec)) smithErrorsUptoCard

/-- THE SECOND FORM's CARD OF 'schismalaw44.LayoutPictures'. -/
def layoutPicturesUptoCard : Claim7 := { stood := { row := layoutPicturesUptoRow, standIns := [], harness := (true, "f3171be37d84880da3c394ff91b45e1e9f3488d77b6fc18ee18dee58407629be"), looks := true }, kinds := [], alts := [], laidByText := true, laidKinds := [.data, .data, .data, .sentinel, .sentinel], laidTests := true, laidLooks := .later }
def LayoutPicturesUptoCardSaid : Prop := Claim7.holds Tryz.pinned (.plain (OpenSpec.upto layoutPicturesSpec)) layoutPicturesUptoCard

/-- THE SECOND FORM's CARD OF 'schismalaw44.LayoutChecks'. -/
def layoutChecksUptoCard : Claim7 := { stood := { row := layoutChecksUptoRow, standIns := [], harness := (true, "f3171be37d84880da3c394ff91b45e1e9f3488d77b6fc18ee18dee58407629be"), looks := true }, kinds := [], alts := [], laidByText := true, laidKinds := [.data, .data, .data, .sentinel, .sentinel], laidTests := true, laidLooks := .later }
def LayoutChecksUptoCardSaid : Prop := Claim7.holds Tryz.pinned (.plain (OpenSpec.upto layoutChecksSpec)) layoutChecksUptoCard

/-- THE SECOND FORM's CARD OF 'schismalaw08.SmithLaws'. -/
def smithLawsUptoCard : Claim7 := { stood := { row := smithLawsUptoRow, standIns := [], harness := (true, "f3171be37d84880da3c394ff91b45e1e9f3488d77b6fc18ee18dee58407629be"), looks := true }, kinds := [], alts := [], laidByText := true, laidKinds := [.data, .data, .data, .sentinel, .sentinel], laidTests := true, laidLooks := .later }
def SmithLawsUptoCardSaid : Prop := Claim7.holds Tryz.pinned (.plain (OpenSpec.upto smithLawsSpec)) smithLawsUptoCard

/-- THE SECOND FORM's CARD OF 'schismalaw08.SmithKernels'. -/
def smithKernelsUptoCard : Claim7 := { stood := { row := smithKernelsUptoRow, standIns := [], harness := (true, "f3171be37d84880da3c394ff91b45e1e9f3488d77b6fc18ee18dee58407629be"), looks := true }, kinds := [], alts := [], laidByText := true, laidKinds := [.data, .data, .data, .sentinel, .sentinel], laidTests := true, laidLooks := .later }
def SmithKernelsUptoCardSaid : Prop := Claim7.holds Tryz.pinned (.plain (OpenSpec.upto smithKernelsSpec)) smithKernelsUptoCard

/-- THE SECOND FORM's CARD OF 'schismalaw08.SmithSolves'. -/
def smithSolvesUptoCard : Claim7 := { stood := { row := smithSolvesUptoRow, standIns := [], harness := (true, "f3171be37d84880da3c394ff91b45e1e9f3488d77b6fc18ee18dee58407629be"), looks := true }, kinds := [], alts := [], laidByText := true, laidKinds := [.data, .data, .data, .sentinel, .sentinel], laidTests := true, laidLooks := .later }
def SmithSolvesUptoCardSaid : Prop := Claim7.holds Tryz.pinned (.plain (OpenSpec.upto smithSolvesSpec)) smithSolvesUptoCard

/-- THE SECOND FORM's CARD OF 'schismalaw08.SmithFactors'. -/
def smithFactorsUptoCard : Claim7 := { stood := { row := smithFactorsUptoRow, standIns := [], harness := (true, "f3171be37d84880da3c394ff91b45e1e9f3488d77b6fc18ee18dee58407629be"), looks := true }, kinds := [], alts := [], laidByText := true, laidKinds := [.data, .data, .data, .sentinel, .sentinel], laidTests := true, laidLooks := .later }
def SmithFactorsUptoCardSaid : Prop := Claim7.holds Tryz.pinned (.plain (OpenSpec.upto smithFactorsSpec)) smithFactorsUptoCard

/-- THE SECOND FORM's CARD OF 'schismalaw08.SmithOrders'. -/
def smithOrdersUptoCard : Claim7 := { stood := { row := smithOrdersUptoRow, standIns := [], harness := (true, "f3171be37d84880da3c394ff91b45e1e9f3488d77b6fc18ee18dee58407629be"), looks := true }, kinds := [], alts := [], laidByText := true, laidKinds := [.data, .data, .data, .sentinel, .sentinel], laidTests := true, laidLooks := .later }
def SmithOrdersUptoCardSaid : Prop := Claim7.holds Tryz.pinned (.plain (OpenSpec.upto smithOrdersSpec)) smithOrdersUptoCard

/-- THE SECOND FORM's CARD OF 'schismalaw08.SmithQuotients'. -/
def smithQuotientsUptoCard : Claim7 := { stood := { row := smithQuotientsUptoRow, standIns := [], harness := (true, "f3171be37d84880da3c394ff91b45e1e9f3488d77b6fc18ee18dee58407629be"), looks := true }, kinds := [], alts := [], laidByText := true, laidKinds := [.data, .data, .data, .sentinel, .sentinel], laidTests := true, laidLooks := .later }
def SmithQuotientsUptoCardSaid : Prop := Claim7.holds Tryz.pinned (.plain (OpenSpec.upto smithQuotientsSpec)) smithQuotientsUptoCard

/-- THE SECOND FORM's CARD OF 'schismalaw08.SmithVerifies'. -/
def smithVerifiesUptoCard : Claim7 := { stood := { row := smithVerifiesUptoRow, standIns := [], harness := (true, "f3171be37d84880da3c394ff91b45e1e9f3488d77b6fc18ee18dee58407629be"), looks := true }, kinds := [], alts := [], laidByText := true, laidKinds := [.data, .data, .data, .sentinel, .sentinel], laidTests := true, laidLooks := .later }
def SmithVerifiesUptoCardSaid : Prop := Claim7.holds Tryz.pinned (.plain (OpenSpec.upto smithVerifiesSpec)) smithVerifiesUptoCard

/-- THE SECOND FORM's CARD OF 'schismalaw08.SmithTransforms'. -/
def smithTransformsUptoCard : Claim7 := { stood := { row := smithTransformsUptoRow, standIns := [], harness := (true, "f3171be37d84880da3c394ff91b45e1e9f3488d77b6fc18ee18dee58407629be"), looks := true }, kinds := [], alts := [], laidByText := true, laidKinds := [.data, .data, .data, .sentinel, .sentinel], laidTests := true, laidLooks := .later }
def SmithTransformsUptoCardSaid : Prop := Claim7.holds Tryz.pinned (.plain (OpenSpec.upto smithTransformsSpec)) smithTransformsUptoCard
end Rows
end Go.Proofs.YtcklioolpicmcaaGreatDoor
