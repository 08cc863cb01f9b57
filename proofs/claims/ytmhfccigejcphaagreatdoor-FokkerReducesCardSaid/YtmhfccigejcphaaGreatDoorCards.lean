/-
  DERIVED. GIVEN WITH THE SEED: THE CARDS: each row of YtmhfccigejcphaaGreatDoorRows.lean that lists a variable, with what it lists TIED to the program's text (the seventh form; the later family's looks); each row that meets fmt, with fmt's text TOLD by the authors' own Lean function (tested against real Go, not proved from fmt's source: count such statements apart). THE CARD IS WHAT COUNTS. Prove the row's statement (the work); the ties are given (YtmhfccigejcphaaGreatDoorTie.lean); close each card by the builder's one call (the guide's Derived/Test/ToyasCard.lean, 'card_holds'). Laid BY PROGRAM, IN A SANDBOX (cutbox-door.mjs). By AI agents, Wed Nov 11 2026. No macro, syntax, notation, axiom, sorry.
-/
import Derived.Test.YtmhfccigejcphaaGreatDoorRows
import GoSem.ClaimSeven
namespace Go.Proofs.YtmhfccigejcphaaGreatDoor
namespace Rows

/-- THE TIED CARD OF 'schismalaw20.GeneratorForms'. -/
def generatorFormsCard : Claim7 := { stood := { row := generatorFormsRow, standIns := [], harness := (true, "7f8c09b7f64818cb007aacce0eba7be25435b29cd8a6f6321cda0319a80df247"), looks := true }, kinds := [], alts := [], laidByText := true, laidKinds := [.data, .data, .data, .sentinel, .sentinel], laidTests := true, laidLooks := .later }
def GeneratorFormsCardSaid : Prop := Claim7.holds Tryz.pinned (.plain (OpenSpec.ofChange generatorFormsSpec)) generatorFormsCard

/-- THE TIED CARD OF 'schismalaw36.FokkerLaws'. -/
def fokkerLawsCard : Claim7 := { stood := { row := fokkerLawsRow, standIns := [], harness := (true, "7f8c09b7f64818cb007aacce0eba7be25435b29cd8a6f6321cda0319a80df247"), looks := true }, kinds := [], alts := [], laidByText := true, laidKinds := [.data, .data, .data, .sentinel, .sentinel], laidTests := true, laidLooks := .later }
def FokkerLawsCardSaid : Prop := Claim7.holds Tryz.pinned (.plain (OpenSpec.ofChange fokkerLawsSpec)) fokkerLawsCard

/-- THE TIED CARD OF 'schismalaw36.FokkerIntervals'. -/
def fokkerIntervalsCard : Claim7 := { stood := { row := fokkerIntervalsRow, standIns := [], harness := (true, "7f8c09b7f64818cb007aacce0eba7be25435b29cd8a6f6321cda0319a80df247"), looks := true }, kinds := [], alts := [], laidByText := true, laidKinds := [.data, .data, .data, .sentinel, .sentinel], laidTests := true, laidLooks := .later }
def FokkerIntervalsCardSaid : Prop := Claim7.holds Tryz.pinned (.plain (OpenSpec.ofChange fokkerIntervalsSpec)) fokkerIntervalsCard

/-- THE TIED CARD OF 'schismalaw36.FokkerFamilies'. -/
def fokkerFamiliesCard : Claim7 := { stood := { row := fokkerFamiliesRow, standIns := [], harness := (true, "7f8c09b7f64818cb007aacce0eba7be25435b29cd8a6f6321cda0319a80df247"), looks := true }, kinds := [], alts := [], laidByText := true, laidKinds := [.data, .data, .data, .sentinel, .sentinel], laidTests := true, laidLooks := .later }
def FokkerFamiliesCardSaid : Prop := Claim7.holds Tryz.pinned (.plain (OpenSpec.ofChange fokkerFamiliesSpec)) fokkerFamiliesCard

/-- THE TIED CARD OF 'schismalaw36.FokkerReduces'. -/
def fokkerReducesCard : Claim7 := { stood := { row := fokkerReducesRow, standIns := [], harness := (true, "7f8c09b7f64818cb007aacce0eba7be25435b29cd8a6f6321cda0319a80df247"), looks := true }, kinds := [], alts := [], laidByText := true, laidKinds := [.data, .data, .data, .sentinel, .sentinel], laidTests := true, laidLooks := .later }
def FokkerReducesCardSaid : Prop := Claim7.holds Tryz.pinned (.plain (OpenSpec.ofChange fokkerReducesSpec)) fokkerReducesCard

/-- THE TIED CARD OF 'schismalaw24.TuningJust'. -/
def tuningJustCard : Claim7 := { stood := { row := tuningJustRow, standIns := [], harness := (true, "7f8c09b7f64818cb007aacce0eba7be25435b29cd8a6f6321cda0319a80df247"), looks := true }, kinds := [], alts := [], laidByText := true, laidKinds := [.data, .data, .data, .sentinel, .sentinel], laidTests := true, laidLooks := .later }
def TuningJustCardSaid : Prop := Claim7.holds Tryz.pinned (.plain (OpenSpec.ofChange tuningJustSpec)) tuningJustCard

/-- THE SECOND FORM's CARD OF 'schismalaw20.GeneratorForms'. -/
def generatorFormsUptoCard : Claim7 := { stood := { row := generatorFormsUptoRow, standIns := [], harness := (true, "7f8c09b7f64818cb007aacce0eba7be25435b29cd8a6f6321cda0319a80df247"), looks := true }, kinds := [], alts := [], laidByText := true, laidKinds := [.data, .data, .data, .sentinel, .sentinel], laidTests := true, laidLooks := .later }
def GeneratorFormsUptoCardSaid : Prop := Claim7.holds Tryz.pinned (.plain (OpenSpec.upto generatorFormsSpec)) generatorFormsUptoCard

/-- THE SECOND FORM's CARD OF 'schismalaw36.FokkerLaws'. -/
def fokkerLawsUptoCard : Claim7 := { stood := { row := fokkerLawsUptoRow, standIns := [], harness := (true, "7f8c09b7f64818cb007aacce0eba7be25435b29cd8a6f6321cda0319a80df247"), looks := true }, kinds := [], alts := [], laidByText := true, laidKinds := [.data, .data, .data, .sentinel, .sentinel], laidTests := true, laidLooks := .later }
def FokkerLawsUptoCardSaid : Prop := Claim7.holds Tryz.pinned (.plain (OpenSpec.upto fokkerLawsSpec)) fokkerLawsUptoCard

/-- THE SECOND FORM's CARD OF 'schismalaw36.FokkerIntervals'. -/
def fokkerIntervalsUptoCard : Claim7 := { stood := { row := fokkerIntervalsUptoRow, standIns := [], harness := (true, "7f8c09b7f64818cb007aacce0eba7be25435b29cd8a6f6321cda0319a80df247"), looks := true }, kinds := [], alts := [], laidByText := true, laidKinds := [.data, .data, .data, .sentinel, .sentinel], laidTests := true, laidLooks := .later }
def FokkerIntervalsUptoCardSaid : Prop := Claim7.holds Tryz.pinned (.plain (OpenSpec.upto fokkerIntervalsSpec)) fokkerIntervalsUptoCard

/-- THE SECOND FORM's CARD OF 'schismalaw36.FokkerFamilies'. -/
def fokkerFamiliesUptoCard : Claim7 := { stood := { row := fokkerFamiliesUptoRow, standIns := [], harness := (true, "7f8c09b7f64818cb007aacce0eba7be25435b29cd8a6f6321cda0319a80df247"), looks := true }, kinds := [], alts := [], laidByText := true, laidKinds := [.data, .data, .data, .sentinel, .sentinel], laidTests := true, laidLooks := .later }
def FokkerFamiliesUptoCardSaid : Prop := Claim7.holds Tryz.pinned (.plain (OpenSpec.upto fokkerFamiliesSpec)) fokkerFamiliesUptoCard

/-- THE SECOND FORM's CARD OF 'schismalaw36.FokkerReduces'. -/
def fokkerReducesUptoCard : Claim7 := { stood := { row := fokkerReducesUptoRow, standIns := [], harness := (true, "7f8c09b7f64818cb007aacce0eba7be25435b29cd8a6f6321cda0319a80df247"), looks := true }, kinds := [], alts := [], laidByText := true, laidKinds := [.data, .data, .data, .sentinel, .sentinel], laidTests := true, laidLooks := .later }
def FokkerReducesUptoCardSaid : Prop := Claim7.holds Tryz.pinned (.plain (OpenSpec.upto fokkerReducesSpec)) fokkerReducesUptoCard

/-- THE SECOND FORM's CARD OF 'schismalaw24.TuningJust'. -/
def tuningJustUptoCard : Claim7 := { stood := { row := tuningJustUptoRow, standIns := [], harness := (true, "7f8c09b7f64818cb007aacce0eba7be25435b29cd8a6f6321cda0319a80df247"), looks := true }, kinds := [], alts := [], laidByText := true, laidKinds := [.data, .data, .data, .sentinel, .sentinel], laidTests := true, laidLooks := .later }
def TuningJustUptoCardSaid : Prop := Claim7.holds Tryz.pinned (.plain (OpenSpec.upto tuningJustSpec)) tuningJustUptoCard
end Rows
end Go.Proofs.YtmhfccigejcphaaGreatDoor
