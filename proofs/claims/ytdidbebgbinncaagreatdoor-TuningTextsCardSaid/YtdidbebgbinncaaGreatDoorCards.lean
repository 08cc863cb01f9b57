/-
  DERIVED. GIVEN WITH THE SEED: THE CARDS: each row of YtdidbebgbinncaaGreatDoorRows.lean that lists a variable, with what it lists TIED to the program's text (the seventh form; the later family's looks); each row that meets fmt, with fmt's text TOLD by the authors' own Lean function (tested against real Go, not proved from fmt's source: count such statements apart). THE CARD IS WHAT COUNTS. Prove the row's statement (the work); the ties are given (YtdidbebgbinncaaGreatDoorTie.lean); close each card by the builder's one call (the guide's Derived/Test/ToyasCard.lean, 'card_holds'). Laid BY PROGRAM, IN A SANDBOX (cutbox-door.mjs). By AI agents, Wed Nov 11 2026. No macro, syntax, notation, axiom, sorry.
-/
import Derived.Test.YtdidbebgbinncaaGreatDoorRows
import GoSem.ClaimSeven
namespace Go.Proofs.YtdidbebgbinncaaGreatDoor
namespace Rows

/-- THE TIED CARD OF 'schismalaw24.TuningIntervals'. -/
def tuningIntervalsCard : Claim7 := { stood := { row := tuningIntervalsRow, standIns := [], harness := (true, "9219c88df9da9b9dc9ba4482d46845b35a43a77d603356399f061b1c21c95f42"), looks := true }, kinds := [], alts := [], laidByText := true, laidKinds := [.data, .data, .data, .sentinel, .sentinel], laidTests := true, laidLooks := .later }
def TuningIntervalsCardSaid : Prop := Claim7.holds Tryz.pinned (.plain (OpenSpec.ofChange tuningIntervalsSpec)) tuningIntervalsCard

/-- THE TIED CARD OF 'schismalaw24.TuningTexts'. -/
def tuningTextsCard : Claim7 := { stood := { row := tuningTextsRow, standIns := [], harness := (true, "9219c88df9da9b9dc9ba4482d46845b35a43a77d603356399f061b1c21c95f42"), looks := true }, kinds := [], alts := [], laidByText := true, laidKinds := [.data, .data, .data, .sentinel, .sentinel], laidTests := true, laidLooks := .later }
def TuningTextsCardSaid : Prop := Claim7.holds Tryz.pinned (.plain (OpenSpec.ofChange tuningTextsSpec)) tuningTextsCard

/-- THE TIED CARD OF 'schismalaw24.TuningSizes'. -/
def tuningSizesCard : Claim7 := { stood := { row := tuningSizesRow, standIns := [], harness := (true, "9219c88df9da9b9dc9ba4482d46845b35a43a77d603356399f061b1c21c95f42"), looks := true }, kinds := [], alts := [], laidByText := true, laidKinds := [.data, .data, .data, .sentinel, .sentinel], laidTests := true, laidLooks := .later }
def TuningSizesCardSaid : Prop := Claim7.holds Tryz.pinned (.plain (OpenSpec.ofChange tuningSizesSpec)) tuningSizesCard

/-- THE TIED CARD OF 'schismalaw24.TuningShifts'. -/
def tuningShiftsCard : Claim7 := { stood := { row := tuningShiftsRow, standIns := [], harness := (true, "9219c88df9da9b9dc9ba4482d46845b35a43a77d603356399f061b1c21c95f42"), looks := true }, kinds := [], alts := [], laidByText := true, laidKinds := [.data, .data, .data, .sentinel, .sentinel], laidTests := true, laidLooks := .later }
def TuningShiftsCardSaid : Prop := Claim7.holds Tryz.pinned (.plain (OpenSpec.ofChange tuningShiftsSpec)) tuningShiftsCard

/-- THE TIED CARD OF 'schismalaw24.TuningBlends'. -/
def tuningBlendsCard : Claim7 := { stood := { row := tuningBlendsRow, standIns := [], harness := (true, "9219c88df9da9b9dc9ba4482d46845b35a43a77d603356399f061b1c21c95f42"), looks := true }, kinds := [], alts := [], laidByText := true, laidKinds := [.data, .data, .data, .sentinel, .sentinel], laidTests := true, laidLooks := .later }
def TuningBlendsCardSaid : Prop := Claim7.holds Tryz.pinned (.plain (OpenSpec.ofChange tuningBlendsSpec)) tuningBlendsCard

/-- THE TIED CARD OF 'schismalaw24.TuningChecks'. -/
def tuningChecksCard : Claim7 := { stood := { row := tuningChecksRow, standIns := [], harness := (true, "9219c88df9da9b9dc9ba4482d46845b35a43a77d603356399f061b1c21c95f42"), looks := true }, kinds := [], alts := [], laidByText := true, laidKinds := [.data, .data, .data, .sentinel, .sentinel], laidTests := true, laidLooks := .later }
def TuningChecksCardSaid : Prop := Claim7.holds Tryz.pinned (.plain (OpenSpec.ofChange tuningChecksSpec)) tuningChecksCard

/-- THE TIED CARD OF 'schismalaw24.TuningLaws'. -/
def tuningLawsCard : Claim7 := { stood := { row := tuningLawsRow, standIns := [], harness := (true, "9219c88df9da9b9dc9ba4482d46845b35a43a77d603356399f061b1c21c95f42"), looks := true }, kinds := [], alts := [], laidByText := true, laidKinds := [.data, .data, .data, .sentinel, .sentinel], laidTests := true, laidLooks := .later }
def TuningLawsCardSaid : Prop := Claim7.holds Tryz.pinned (.plain (OpenSpec.ofChange tuningLawsSpec)) tuningLawsCard

/-- THE TIED CARD OF 'schismalaw20.GeneratorForms'. -/
def generatorFormsCard : Claim7 := { stood := { row := generatorFormsRow, standIns := [], harness := (true, "9219c88df9da9b9dc9ba4482d46845b35a43a77d603356399f061b1c21c95f42"), looks := true }, kinds := [], alts := [], laidByText := true, laidKinds := [.data, .data, .data, .sentinel, .sentinel], laidTests := true, laidLooks := .later }
def GeneratorFormsCardSaid : Prop := Claim7.holds Tryz.pinned (.plain (OpenSpec.ofChange generatorFormsSpec)) generatorFormsCard

/-- THE SECOND FORM's CARD OF 'schismalaw24.TuningIntervals'. -/
def tuningIntervalsUptoCard : Claim7 := { stood := { row := tuningIntervalsUptoRow, standIns := [], harness := (true, "9219c88df9da9b9dc9ba4482d46845b35a43a77d603356399f061b1c21c95f42"), looks := true }, kinds := [], alts := [], laidByText := true, laidKinds := [.data, .data, .data, .sentinel, .sentinel], laidTests := true, laidLooks := .later }
def TuningIntervalsUptoCardSaid : Prop := Claim7.holds Tryz.pinned (.plain (OpenSpec.upto tuningIntervalsSpec)) tuningIntervalsUptoCard

/-- THE SECOND FORM's CARD OF 'schismalaw24.TuningTexts'. -/
def tuningTextsUptoCard : Claim7 := { stood := { row := tuningTextsUptoRow, standIns := [], harness := (true, "9219c88df9da9b9dc9ba4482d46845b35a43a77d603356399f061b1c21c95f42"), looks := true }, kinds := [], alts := [], laidByText := true, laidKinds := [.data, .data, .data, .sentinel, .sentinel], laidTests := true, laidLooks := .later }
def TuningTextsUptoCardSaid : Prop := Claim7.holds Tryz.pinned (.plain (OpenSpec.upto tuningTextsSpec)) tuningTextsUptoCard

/-- THE SECOND FORM's CARD OF 'schismalaw24.TuningSizes'. -/
def tuningSizesUptoCard : Claim7 := { stood := { row := tuningSizesUptoRow, standIns := [], harness := (true, "9219c88df9da9b9dc9ba4482d46845b35a43a77d603356399f061b1c21c95f42"), looks := true }, kinds := [], alts := [], laidByText := true, laidKinds := [.data, .data, .data, .sentinel, .sentinel], laidTests := true, laidLooks := .later }
def TuningSizesUptoCardSaid : Prop := Claim7.holds Tryz.pinned (.plain (OpenSpec.upto tuningSizesSpec)) tuningSizesUptoCard

/-- THE SECOND FORM's CARD OF 'schismalaw24.TuningShifts'. -/
def tuningShiftsUptoCard : Claim7 := { stood := { row := tuningShiftsUptoRow, standIns := [], harness := (true, "9219c88df9da9b9dc9ba4482d46845b35a43a77d603356399f061b1c21c95f42"), looks := true }, kinds := [], alts := [], laidByText := true, laidKinds := [.data, .data, .data, .sentinel, .sentinel], laidTests := true, laidLooks := .later }
def TuningShiftsUptoCardSaid : Prop := Claim7.holds Tryz.pinned (.plain (OpenSpec.upto tuningShiftsSpec)) tuningShiftsUptoCard

/-- THE SECOND FORM's CARD OF 'schismalaw24.TuningBlends'. -/
def tuningBlendsUptoCard : Claim7 := { stood := { row := tuningBlendsUptoRow, standIns := [], harness := (true, "9219c88df9da9b9dc9ba4482d46845b35a43a77d603356399f061b1c21c95f42"), looks := true }, kinds := [], alts := [], laidByText := true, laidKinds := [.data, .data, .data, .sentinel, .sentinel], laidTests := true, laidLooks := .later }
def TuningBlendsUptoCardSaid : Prop := Claim7.holds Tryz.pinned (.plain (OpenSpec.upto tuningBlendsSpec)) tuningBlendsUptoCard

/-- THE SECOND FORM's CARD OF 'schismalaw24.TuningChecks'. -/
def tuningChecksUptoCard : Claim7 := { stood := { row := tuningChecksUptoRow, standIns := [], harness := (true, "9219c88df9da9b9dc9ba4482d46845b35a43a77d603356399f061b1c21c95f42"), looks := true }, kinds := [], alts := [], laidByText := true, laidKinds := [.data, .data, .data, .sentinel, .sentinel], laidTests := true, laidLooks := .later }
def TuningChecksUptoCardSaid : Prop := Claim7.holds Tryz.pinned (.plain (OpenSpec.upto tuningChecksSpec)) tuningChecksUptoCard

/-- THE SECOND FORM's CARD OF 'schismalaw24.TuningLaws'. -/
def tuningLawsUptoCard : Claim7 := { stood := { row := tuningLawsUptoRow, standIns := [], harness := (true, "9219c88df9da9b9dc9ba4482d46845b35a43a77d603356399f061b1c21c95f42"), looks := true }, kinds := [], alts := [], laidByText := true, laidKinds := [.data, .data, .data, .sentinel, .sentinel], laidTests := true, laidLooks := .later }
def TuningLawsUptoCardSaid : Prop := Claim7.holds Tryz.pinned (.plain (OpenSpec.upto tuningLawsSpec)) tuningLawsUptoCard

/-- THE SECOND FORM's CARD OF 'schismalaw20.GeneratorForms'. -/
def generatorFormsUptoCard : Claim7 := { stood := { row := generatorFormsUptoRow, standIns := [], harness := (true, "9219c88df9da9b9dc9ba4482d46845b35a43a77d603356399f061b1c21c95f42"), looks := true }, kinds := [], alts := [], laidByText := true, laidKinds := [.data, .data, .data, .sentinel, .sentinel], laidTests := true, laidLooks := .later }
def GeneratorFormsUptoCardSaid : Prop := Claim7.holds Tryz.pinned (.plain (OpenSpec.upto generatorFormsSpec)) generatorFormsUptoCard
end Rows
end Go.Proofs.YtdidbebgbinncaaGreatDoor
