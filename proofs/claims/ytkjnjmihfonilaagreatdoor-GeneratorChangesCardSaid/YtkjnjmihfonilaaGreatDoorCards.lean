/-
  DERIVED. GIVEN WITH THE SEED: THE CARDS: each row of YtkjnjmihfonilaaGreatDoorRows.lean that lists a variable, with what it lists TIED to the program's text (the seventh form; the later family's looks); each row that meets fmt, with fmt's text TOLD by the authors' own Lean function (tested against real Go, not proved from fmt's source: count such statements apart). THE CARD IS WHAT COUNTS. Prove the row's statement (the work); the ties are given (YtkjnjmihfonilaaGreatDoorTie.lean); close each card by the builder's one call (the guide's Derived/Test/ToyasCard.lean, 'card_holds'). Laid BY PROGRAM, IN A SANDBOX (cutbox-door.mjs). By AI agents, Wed Nov 11 2026. No macro, syntax, notation, axiom, sorry.
-/
import Derived.Test.YtkjnjmihfonilaaGreatDoorRows
import GoSem.ClaimSeven
namespace Go.Proofs.YtkjnjmihfonilaaGreatDoor
namespace Rows

/-- THE TIED CARD OF 'schismalaw20.GeneratorBoxes'. -/
def generatorBoxesCard : Claim7 := { stood := { row := generatorBoxesRow, standIns := [], harness := (true, "4bd4630f5edfedcffc50ca172557d496bb30bc1ba47312d828065906a9dca47c"), looks := true }, kinds := [], alts := [], laidByText := true, laidKinds := [.data, .data, .data, .sentinel, .sentinel], laidTests := true, laidLooks := .later }
def GeneratorBoxesCardSaid : Prop := Claim7.holds Tryz.pinned (.plain (OpenSpec.ofChange generatorBoxesSpec)) generatorBoxesCard

/-- THE TIED CARD OF 'schismalaw20.GeneratorPreimages'. -/
def generatorPreimagesCard : Claim7 := { stood := { row := generatorPreimagesRow, standIns := [], harness := (true, "4bd4630f5edfedcffc50ca172557d496bb30bc1ba47312d828065906a9dca47c"), looks := true }, kinds := [], alts := [], laidByText := true, laidKinds := [.data, .data, .data, .sentinel, .sentinel], laidTests := true, laidLooks := .later }
def GeneratorPreimagesCardSaid : Prop := Claim7.holds Tryz.pinned (.plain (OpenSpec.ofChange generatorPreimagesSpec)) generatorPreimagesCard

/-- THE TIED CARD OF 'schismalaw20.GeneratorLaws'. -/
def generatorLawsCard : Claim7 := { stood := { row := generatorLawsRow, standIns := [], harness := (true, "4bd4630f5edfedcffc50ca172557d496bb30bc1ba47312d828065906a9dca47c"), looks := true }, kinds := [], alts := [], laidByText := true, laidKinds := [.data, .data, .data, .sentinel, .sentinel], laidTests := true, laidLooks := .later }
def GeneratorLawsCardSaid : Prop := Claim7.holds Tryz.pinned (.plain (OpenSpec.ofChange generatorLawsSpec)) generatorLawsCard

/-- THE TIED CARD OF 'schismalaw20.GeneratorSections'. -/
def generatorSectionsCard : Claim7 := { stood := { row := generatorSectionsRow, standIns := [], harness := (true, "4bd4630f5edfedcffc50ca172557d496bb30bc1ba47312d828065906a9dca47c"), looks := true }, kinds := [], alts := [], laidByText := true, laidKinds := [.data, .data, .data, .sentinel, .sentinel], laidTests := true, laidLooks := .later }
def GeneratorSectionsCardSaid : Prop := Claim7.holds Tryz.pinned (.plain (OpenSpec.ofChange generatorSectionsSpec)) generatorSectionsCard

/-- THE TIED CARD OF 'schismalaw20.GeneratorChanges'. -/
def generatorChangesCard : Claim7 := { stood := { row := generatorChangesRow, standIns := [], harness := (true, "4bd4630f5edfedcffc50ca172557d496bb30bc1ba47312d828065906a9dca47c"), looks := true }, kinds := [], alts := [], laidByText := true, laidKinds := [.data, .data, .data, .sentinel, .sentinel], laidTests := true, laidLooks := .later }
def GeneratorChangesCardSaid : Prop := Claim7.holds Tryz.pinned (.plain (OpenSpec.ofChange generatorChangesSpec)) generatorChangesCard

/-- THE TIED CARD OF 'schismalaw20.GeneratorMany'. -/
def generatorManyCard : Claim7 := { stood := { row := generatorManyRow, standIns := [], harness := (true, "4bd4630f5edfedcffc50ca172557d496bb30bc1ba47312d828065906a9dca47c"), looks := true }, kinds := [], alts := [], laidByText := true, laidKinds := [.data, .data, .data, .sentinel, .sentinel], laidTests := true, laidLooks := .later }
def GeneratorManyCardSaid : Prop := Claim7.holds Tryz.pinned (.plain (OpenSpec.ofChange generatorManySpec)) generatorManyCard

/-- THE SECOND FORM's CARD OF 'schismalaw20.GeneratorBoxes'. -/
def generatorBoxesUptoCard : Claim7 := { stood := { row := generatorBoxesUptoRow, standIns := [], harness := (true, "4bd4630f5edfedcffc50ca172557d496bb30bc1ba47312d828065906a9dca47c"), looks := true }, kinds := [], alts := [], laidByText := true, laidKinds := [.data, .data, .data, .sentinel, .sentinel], laidTests := true, laidLooks := .later }
def GeneratorBoxesUptoCardSaid : Prop := Claim7.holds Tryz.pinned (.plain (OpenSpec.upto generatorBoxesSpec)) generatorBoxesUptoCard

/-- THE SECOND FORM's CARD OF 'schismalaw20.GeneratorPreimages'. -/
def generatorPreimagesUptoCard : Claim7 := { stood := { row := generatorPreimagesUptoRow, standIns := [], harness := (true, "4bd4630f5edfedcffc50ca172557d496bb30bc1ba47312d828065906a9dca47c"), looks := true }, kinds := [], alts := [], laidByText := true, laidKinds := [.data, .data, .data, .sentinel, .sentinel], laidTests := true, laidLooks := .later }
def GeneratorPreimagesUptoCardSaid : Prop := Claim7.holds Tryz.pinned (.plain (OpenSpec.upto generatorPreimagesSpec)) generatorPreimagesUptoCard

/-- THE SECOND FORM's CARD OF 'schismalaw20.GeneratorLaws'. -/
def generatorLawsUptoCard : Claim7 := { stood := { row := generatorLawsUptoRow, standIns := [], harness := (true, "4bd4630f5edfedcffc50ca172557d496bb30bc1ba47312d828065906a9dca47c"), looks := true }, kinds := [], alts := [], laidByText := true, laidKinds := [.data, .data, .data, .sentinel, .sentinel], laidTests := true, laidLooks := .later }
def GeneratorLawsUptoCardSaid : Prop := Claim7.holds Tryz.pinned (.plain (OpenSpec.upto generatorLawsSpec)) generatorLawsUptoCard

/-- THE SECOND FORM's CARD OF 'schismalaw20.GeneratorSections'. -/
def generatorSectionsUptoCard : Claim7 := { stood := { row := generatorSectionsUptoRow, standIns := [], harness := (true, "4bd4630f5edfedcffc50ca172557d496bb30bc1ba47312d828065906a9dca47c"), looks := true }, kinds := [], alts := [], laidByText := true, laidKinds := [.data, .data, .data, .sentinel, .sentinel], laidTests := true, laidLooks := .later }
def GeneratorSectionsUptoCardSaid : Prop := Claim7.holds Tryz.pinned (.plain (OpenSpec.upto generatorSectionsSpec)) generatorSectionsUptoCard

/-- THE SECOND FORM's CARD OF 'schismalaw20.GeneratorChanges'. -/
def generatorChangesUptoCard : Claim7 := { stood := { row := generatorChangesUptoRow, standIns := [], harness := (true, "4bd4630f5edfedcffc50ca172557d496bb30bc1ba47312d828065906a9dca47c"), looks := true }, kinds := [], alts := [], laidByText := true, laidKinds := [.data, .data, .data, .sentinel, .sentinel], laidTests := true, laidLooks := .later }
def GeneratorChangesUptoCardSaid : Prop := Claim7.holds Tryz.pinned (.plain (OpenSpec.upto generatorChangesSpec)) generatorChangesUptoCard

/-- THE SECOND FORM's CARD OF 'schismalaw20.GeneratorMany'. -/
def generatorManyUptoCard : Claim7 := { stood := { row := generatorManyUptoRow, standIns := [], harness := (true, "4bd4630f5edfedcffc50ca172557d496bb30bc1ba47312d828065906a9dca47c"), looks := true }, kinds := [], alts := [], laidByText := true, laidKinds := [.data, .data, .data, .sentinel, .sentinel], laidTests := true, laidLooks := .later }
def GeneratorManyUptoCardSaid : Prop := Claim7.holds Tryz.pinned (.plain (OpenSpec.upto generatorManySpec)) generatorManyUptoCard
end Rows
end Go.Proofs.YtkjnjmihfonilaaGreatDoor
