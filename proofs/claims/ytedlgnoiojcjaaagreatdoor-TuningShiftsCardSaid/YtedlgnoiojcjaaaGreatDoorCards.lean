/-
  DERIVED. GIVEN WITH THE SEED: THE CARDS: each row of YtedlgnoiojcjaaaGreatDoorRows.lean that lists a variable, with what it lists TIED to the program's text (the seventh form; the later family's looks); each row that meets fmt, with fmt's text TOLD by the authors' own Lean function (tested against real Go, not proved from fmt's source: count such statements apart). THE CARD IS WHAT COUNTS. Prove the row's statement (the work); the ties are given (YtedlgnoiojcjaaaGreatDoorTie.lean); close each card by the builder's one call (the guide's Derived/Test/ToyasCard.lean, 'card_holds'). Laid BY PROGRAM, IN A SANDBOX (cutbox-door.mjs). By AI agents, Wed Nov 11 2026. No macro, syntax, notation, axiom, sorry.
-/
import Derived.Test.YtedlgnoiojcjaaaGreatDoorRows
import GoSem.ClaimSeven
namespace Go.Proofs.YtedlgnoiojcjaaaGreatDoor
namespace Rows

/-- THE TIED CARD OF 'schismalaw24.TuningLaws'. -/
def tuningLawsCard : Claim7 := { stood := { row := tuningLawsRow, standIns := [], harness := (true, "08b8435a0b3203b33bb838a50e93610f1bc1ed654a4688d86f8b37e1a4332c29"), looks := true }, kinds := [], alts := [], laidByText := true, laidKinds := [.data, .data, .data, .sentinel, .sentinel], laidTests := true, laidLooks := .later }
def TuningLawsCardSaid : Prop := Claim7.holds Tryz.pinned (.plain (OpenSpec.ofChange tuningLawsSpec)) tuningLawsCard

/-- THE TIED CARD OF 'schismalaw24.TuningShifts'. -/
def tuningShiftsCard : Claim7 := { stood := { row := tuningShiftsRow, standIns := [], harness := (true, "08b8435a0b3203b33bb838a50e93610f1bc1ed654a4688d86f8b37e1a4332c29"), looks := true }, kinds := [], alts := [], laidByText := true, laidKinds := [.data, .data, .data, .sentinel, .sentinel], laidTests := true, laidLooks := .later }
def TuningShiftsCardSaid : Prop := Claim7.holds Tryz.pinned (.plain (OpenSpec.ofChange tuningShiftsSpec)) tuningShiftsCard

/-- THE TIED CARD OF 'schismalaw24.TuningBlends'. -/
def tuningBlendsCard : Claim7 := { stood := { row := tuningBlendsRow, standIns := [], harness := (true, "08b8435a0b3203b33bb838a50e93610f1bc1ed654a4688d86f8b37e1a4332c29"), looks := true }, kinds := [], alts := [], laidByText := true, laidKinds := [.data, .data, .data, .sentinel, .sentinel], laidTests := true, laidLooks := .later }
def TuningBlendsCardSaid : Prop := Claim7.holds Tryz.pinned (.plain (OpenSpec.ofChange tuningBlendsSpec)) tuningBlendsCard

/-- THE TIED CARD OF 'schismalaw24.TuningChecks'. -/
def tuningChecksCard : Claim7 := { stood := { row := tuningChecksRow, standIns := [], harness := (true, "08b8435a0b3203b33bb838a50e93610f1bc1ed654a4688d86f8b37e1a4332c29"), looks := true }, kinds := [], alts := [], laidByText := true, laidKinds := [.data, .data, .data, .sentinel, .sentinel], laidTests := true, laidLooks := .later }
def TuningChecksCardSaid : Prop := Claim7.holds Tryz.pinned (.plain (OpenSpec.ofChange tuningChecksSpec)) tuningChecksCard

/-- THE TIED CARD OF 'schismalaw24.TuningFrom'. -/
def tuningFromCard : Claim7 := { stood := { row := tuningFromRow, standIns := [], harness := (true, "08b8435a0b3203b33bb838a50e93610f1bc1ed654a4688d86f8b37e1a4332c29"), looks := true }, kinds := [], alts := [], laidByText := true, laidKinds := [.data, .data, .data, .sentinel, .sentinel], laidTests := true, laidLooks := .later }
def TuningFromCardSaid : Prop := Claim7.holds Tryz.pinned (.plain (OpenSpec.ofChange tuningFromSpec)) tuningFromCard

/-- THE TIED CARD OF 'schismalaw24.TuningJust'. -/
def tuningJustCard : Claim7 := { stood := { row := tuningJustRow, standIns := [], harness := (true, "08b8435a0b3203b33bb838a50e93610f1bc1ed654a4688d86f8b37e1a4332c29"), looks := true }, kinds := [], alts := [], laidByText := true, laidKinds := [.data, .data, .data, .sentinel, .sentinel], laidTests := true, laidLooks := .later }
def TuningJustCardSaid : Prop := Claim7.holds Tryz.pinned (.plain (OpenSpec.ofChange tuningJustSpec)) tuningJustCard

/-- THE TIED CARD OF 'schismalaw24.TuningPrimes'. -/
def tuningPrimesCard : Claim7 := { stood := { row := tuningPrimesRow, standIns := [], harness := (true, "08b8435a0b3203b33bb838a50e93610f1bc1ed654a4688d86f8b37e1a4332c29"), looks := true }, kinds := [], alts := [], laidByText := true, laidKinds := [.data, .data, .data, .sentinel, .sentinel], laidTests := true, laidLooks := .later }
def TuningPrimesCardSaid : Prop := Claim7.holds Tryz.pinned (.plain (OpenSpec.ofChange tuningPrimesSpec)) tuningPrimesCard

/-- THE TIED CARD OF 'schismalaw20.GeneratorForms'. -/
def generatorFormsCard : Claim7 := { stood := { row := generatorFormsRow, standIns := [], harness := (true, "08b8435a0b3203b33bb838a50e93610f1bc1ed654a4688d86f8b37e1a4332c29"), looks := true }, kinds := [], alts := [], laidByText := true, laidKinds := [.data, .data, .data, .sentinel, .sentinel], laidTests := true, laidLooks := .later }
def GeneratorFormsCardSaid : Prop := Claim7.holds Tryz.pinned (.plain (OpenSpec.ofChange generatorFormsSpec)) generatorFormsCard

/-- THE SECOND FORM's CARD OF 'schismalaw24.TuningLaws'. -/
def tuningLawsUptoCard : Claim7 := { stood := { row := tuningLawsUptoRow, standIns := [], harness := (true, "08b8435a0b3203b33bb838a50e93610f1bc1ed654a4688d86f8b37e1a4332c29"), looks := true }, kinds := [], alts := [], laidByText := true, laidKinds := [.data, .data, .data, .sentinel, .sentinel], laidTests := true, laidLooks := .later }
def TuningLawsUptoCardSaid : Prop := Claim7.holds Tryz.pinned (.plain (OpenSpec.upto tuningLawsSpec)) tuningLawsUptoCard

/-- THE SECOND FORM's CARD OF 'schismalaw24.TuningShifts'. -/
def tuningShiftsUptoCard : Claim7 := { stood := { row := tuningShiftsUptoRow, standIns := [], harness := (true, "08b8435a0b3203b33bb838a50e93610f1bc1ed654a4688d86f8b37e1a4332c29"), looks := true }, kinds := [], alts := [], laidByText := true, laidKinds := [.data, .data, .data, .sentinel, .sentinel], laidTests := true, laidLooks := .later }
def TuningShiftsUptoCardSaid : Prop := Claim7.holds Tryz.pinned (.plain (OpenSpec.upto tuningShiftsSpec)) tuningShiftsUptoCard

/-- THE SECOND FORM's CARD OF 'schismalaw24.TuningBlends'. -/
def tuningBlendsUptoCard : Claim7 := { stood := { row := tuningBlendsUptoRow, standIns := [], harness := (true, "08b8435a0b3203b33bb838a50e93610f1bc1ed654a4688d86f8b37e1a4332c29"), looks := true }, kinds := [], alts := [], laidByText := true, laidKinds := [.data, .data, .data, .sentinel, .sentinel], laidTests := true, laidLooks := .later }
def TuningBlendsUptoCardSaid : Prop := Claim7.holds Tryz.pinned (.plain (OpenSpec.upto tuningBlendsSpec)) tuningBlendsUptoCard

/-- THE SECOND FORM's CARD OF 'schismalaw24.TuningChecks'. -/
def tuningChecksUptoCard : Claim7 := { stood := { row := tuningChecksUptoRow, standIns := [], harness := (true, "08b8435a0b3203b33bb838a50e93610f1bc1ed654a4688d86f8b37e1a4332c29"), looks := true }, kinds := [], alts := [], laidByText := true, laidKinds := [.data, .data, .data, .sentinel, .sentinel], laidTests := true, laidLooks := .later }
def TuningChecksUptoCardSaid : Prop := Claim7.holds Tryz.pinned (.plain (OpenSpec.upto tuningChecksSpec)) tuningChecksUptoCard

/-- THE SECOND FORM's CARD OF 'schismalaw24.TuningFrom'. -/
def tuningFromUptoCard : Claim7 := { stood := { row := tuningFromUptoRow, standIns := [], harness := (true, "08b8435a0b3203b33bb838a50e93610f1bc1ed654a4688d86f8b37e1a4332c29"), looks := true }, kinds := [], alts := [], laidByText := true, laidKinds := [.data, .data, .data, .sentinel, .sentinel], laidTests := true, laidLooks := .later }
def TuningFromUptoCardSaid : Prop := Claim7.holds Tryz.pinned (.plain (OpenSpec.upto tuningFromSpec)) tuningFromUptoCard

/-- THE SECOND FORM's CARD OF 'schismalaw24.TuningJust'. -/
def tuningJustUptoCard : Claim7 := { stood := { row := tuningJustUptoRow, standIns := [], harness := (true, "08b8435a0b3203b33bb838a50e93610f1bc1ed654a4688d86f8b37e1a4332c29"), looks := true }, kinds := [], alts := [], laidByText := true, laidKinds := [.data, .data, .data, .sentinel, .sentinel], laidTests := true, laidLooks := .later }
def TuningJustUptoCardSaid : Prop := Claim7.holds Tryz.pinned (.plain (OpenSpec.upto tuningJustSpec)) tuningJustUptoCard

/-- THE SECOND FORM's CARD OF 'schismalaw24.TuningPrimes'. -/
def tuningPrimesUptoCard : Claim7 := { stood := { row := tuningPrimesUptoRow, standIns := [], harness := (true, "08b8435a0b3203b33bb838a50e93610f1bc1ed654a4688d86f8b37e1a4332c29"), looks := true }, kinds := [], alts := [], laidByText := true, laidKinds := [.data, .data, .data, .sentinel, .sentinel], laidTests := true, laidLooks := .later }
def TuningPrimesUptoCardSaid : Prop := Claim7.holds Tryz.pinned (.plain (OpenSpec.upto tuningPrimesSpec)) tuningPrimesUptoCard

/-- THE SECOND FORM's CARD OF 'schismalaw20.GeneratorForms'. -/
def generatorFormsUptoCard : Claim7 := { stood := { row := generatorFormsUptoRow, standIns := [], harness := (true, "08b8435a0b3203b33bb838a50e93610f1bc1ed654a4688d86f8b37e1a4332c29"), looks := true }, kinds := [], alts := [], laidByText := true, laidKinds := [.data, .data, .data, .sentinel, .sentinel], laidTests := true, laidLooks := .later }
def GeneratorFormsUptoCardSaid : Prop := Claim7.holds Tryz.pinned (.plain (OpenSpec.upto generatorFormsSpec)) generatorFormsUptoCard
end Rows
end Go.Proofs.YtedlgnoiojcjaaaGreatDoor
