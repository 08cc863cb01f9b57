/-
  DERIVED. GIVEN WITH THE SEED: THE CARDS: each row of YthmhmkkcjlgbjaaGreatDoorRows.lean that lists a variable, with what it lists TIED to the program's text (the seventh form; the later family's looks); each row that meets fmt, with fmt's text TOLD by the authors' own Lean function (tested against real Go, not proved from fmt's source: count such statements apart). THE CARD IS WHAT COUNTS. Prove the row's statement (the work); the ties are given (YthmhmkkcjlgbjaaGreatDoorTie.lean); close each card by the builder's one call (the guide's Derived/Test/ToyasCard.lean, 'card_holds'). Laid BY PROGRAM, IN A SANDBOX (cutbox-door.mjs). By AI agents, Wed Nov 11 2026. No macro, syntax, notation, axiom, sorry.
-/
import Derived.Test.YthmhmkkcjlgbjaaGreatDoorRows
import GoSem.ClaimSeven
namespace Go.Proofs.YthmhmkkcjlgbjaaGreatDoor
namespace Rows

/-- THE TIED CARD OF 'schismalaw07.HermiteSublattices'. -/
def hermiteSublatticesCard : Claim7 := { stood := { row := hermiteSublatticesRow, standIns := [], harness := (true, "96e1effa2a6bab4112e303ff1bf22ae5d9cb210981ee7ea62db324c29fd4277c"), looks := true }, kinds := [], alts := [], laidByText := true, laidKinds := [.data, .data, .data, .sentinel, .sentinel], laidTests := true, laidLooks := .later }
def HermiteSublatticesCardSaid : Prop := Claim7.holds Tryz.pinned (.plain (OpenSpec.ofChange hermiteSublatticesSpec)) hermiteSublatticesCard

/-- THE TIED CARD OF 'schismalaw07.HermiteKeeps'. -/
def hermiteKeepsCard : Claim7 := { stood := { row := hermiteKeepsRow, standIns := [], harness := (true, "96e1effa2a6bab4112e303ff1bf22ae5d9cb210981ee7ea62db324c29fd4277c"), looks := true }, kinds := [], alts := [], laidByText := true, laidKinds := [.data, .data, .data, .sentinel, .sentinel], laidTests := true, laidLooks := .later }
def HermiteKeepsCardSaid : Prop := Claim7.holds Tryz.pinned (.plain (OpenSpec.ofChange hermiteKeepsSpec)) hermiteKeepsCard

/-- THE TIED CARD OF 'schismalaw07.HermiteChecks'. -/
def hermiteChecksCard : Claim7 := { stood := { row := hermiteChecksRow, standIns := [], harness := (true, "96e1effa2a6bab4112e303ff1bf22ae5d9cb210981ee7ea62db324c29fd4277c"), looks := true }, kinds := [], alts := [], laidByText := true, laidKinds := [.data, .data, .data, .sentinel, .sentinel], laidTests := true, laidLooks := .later }
def HermiteChecksCardSaid : Prop := Claim7.holds Tryz.pinned (.plain (OpenSpec.ofChange hermiteChecksSpec)) hermiteChecksCard

/-- THE TIED CARD OF 'schismalaw07.HermiteIndexes'. -/
def hermiteIndexesCard : Claim7 := { stood := { row := hermiteIndexesRow, standIns := [], harness := (true, "96e1effa2a6bab4112e303ff1bf22ae5d9cb210981ee7ea62db324c29fd4277c"), looks := true }, kinds := [], alts := [], laidByText := true, laidKinds := [.data, .data, .data, .sentinel, .sentinel], laidTests := true, laidLooks := .later }
def HermiteIndexesCardSaid : Prop := Claim7.holds Tryz.pinned (.plain (OpenSpec.ofChange hermiteIndexesSpec)) hermiteIndexesCard

/-- THE TIED CARD OF 'schismalaw07.HermiteForms'. -/
def hermiteFormsCard : Claim7 := { stood := { row := hermiteFormsRow, standIns := [], harness := (true, "96e1effa2a6bab4112e303ff1bf22ae5d9cb210981ee7ea62db324c29fd4277c"), looks := true }, kinds := [], alts := [], laidByText := true, laidKinds := [.data, .data, .data, .sentinel, .sentinel], laidTests := true, laidLooks := .later }
def HermiteFormsCardSaid : Prop := Claim7.holds Tryz.pinned (.plain (OpenSpec.ofChange hermiteFormsSpec)) hermiteFormsCard

/-- THE TIED CARD OF 'schismalaw07.HermiteReduces'. -/
def hermiteReducesCard : Claim7 := { stood := { row := hermiteReducesRow, standIns := [], harness := (true, "96e1effa2a6bab4112e303ff1bf22ae5d9cb210981ee7ea62db324c29fd4277c"), looks := true }, kinds := [], alts := [], laidByText := true, laidKinds := [.data, .data, .data, .sentinel, .sentinel], laidTests := true, laidLooks := .later }
def HermiteReducesCardSaid : Prop := Claim7.holds Tryz.pinned (.plain (OpenSpec.ofChange hermiteReducesSpec)) hermiteReducesCard

/-- THE TIED CARD OF 'schismalaw07.HermiteVerifies'. -/
def hermiteVerifiesCard : Claim7 := { stood := { row := hermiteVerifiesRow, standIns := [], harness := (true, "96e1effa2a6bab4112e303ff1bf22ae5d9cb210981ee7ea62db324c29fd4277c"), looks := true }, kinds := [], alts := [], laidByText := true, laidKinds := [.data, .data, .data, .sentinel, .sentinel], laidTests := true, laidLooks := .later }
def HermiteVerifiesCardSaid : Prop := Claim7.holds Tryz.pinned (.plain (OpenSpec.ofChange hermiteVerifiesSpec)) hermiteVerifiesCard

/-- THE SECOND FORM's CARD OF 'schismalaw07.HermiteSublattices'. -/
def hermiteSublatticesUptoCard : Claim7 := { stood := { row := hermiteSublatticesUptoRow, standIns := [], harness := (true, "96e1effa2a6bab4112e303ff1bf22ae5d9cb210981ee7ea62db324c29fd4277c"), looks := true }, kinds := [], alts := [], laidByText := true, laidKinds := [.data, .data, .data, .sentinel, .sentinel], laidTests := true, laidLooks := .later }
def HermiteSublatticesUptoCardSaid : Prop := Claim7.holds Tryz.pinned (.plain (OpenSpec.upto hermiteSublatticesSpec)) hermiteSublatticesUptoCard

/-- THE SECOND FORM's CARD OF 'schismalaw07.HermiteKeeps'. -/
def hermiteKeepsUptoCard : Claim7 := { stood := { row := hermiteKeepsUptoRow, standIns := [], harness := (true, "96e1effa2a6bab4112e303ff1bf22ae5d9cb210981ee7ea62db324c29fd4277c"), looks := true }, kinds := [], alts := [], laidByText := true, laidKinds := [.data, .data, .data, .sentinel, .sentinel], laidTests := true, laidLooks := .later }
def HermiteKeepsUptoCardSaid : Prop := Claim7.holds Tryz.pinned (.plain (OpenSpec.upto hermiteKeepsSpec)) hermiteKeepsUptoCard

/-- THE SECOND FORM's CARD OF 'schismalaw07.HermiteChecks'. -/
def hermiteChecksUptoCard : Claim7 := { stood := { row := hermiteChecksUptoRow, standIns := [], harness := (true, "96e1effa2a6bab4112e303ff1bf22ae5d9cb210981ee7ea62db324c29fd4277c"), looks := true }, kinds := [], alts := [], laidByText := true, laidKinds := [.data, .data, .data, .sentinel, .sentinel], laidTests := true, laidLooks := .later }
def HermiteChecksUptoCardSaid : Prop := Claim7.holds Tryz.pinned (.plain (OpenSpec.upto hermiteChecksSpec)) hermiteChecksUptoCard

/-- THE SECOND FORM's CARD OF 'schismalaw07.HermiteIndexes'. -/
def hermiteIndexesUptoCard : Claim7 := { stood := { row := hermiteIndexesUptoRow, standIns := [], harness := (true, "96e1effa2a6bab4112e303ff1bf22ae5d9cb210981ee7ea62db324c29fd4277c"), looks := true }, kinds := [], alts := [], laidByText := true, laidKinds := [.data, .data, .data, .sentinel, .sentinel], laidTests := true, laidLooks := .later }
def HermiteIndexesUptoCardSaid : Prop := Claim7.holds Tryz.pinned (.plain (OpenSpec.upto hermiteIndexesSpec)) hermiteIndexesUptoCard

/-- THE SECOND FORM's CARD OF 'schismalaw07.HermiteForms'. -/
def hermiteFormsUptoCard : Claim7 := { stood := { row := hermiteFormsUptoRow, standIns := [], harness := (true, "96e1effa2a6bab4112e303ff1bf22ae5d9cb210981ee7ea62db324c29fd4277c"), looks := true }, kinds := [], alts := [], laidByText := true, laidKinds := [.data, .data, .data, .sentinel, .sentinel], laidTests := true, laidLooks := .later }
def HermiteFormsUptoCardSaid : Prop := Claim7.holds Tryz.pinned (.plain (OpenSpec.upto hermiteFormsSpec)) hermiteFormsUptoCard

/-- THE SECOND FORM's CARD OF 'schismalaw07.HermiteReduces'. -/
def hermiteReducesUptoCard : Claim7 := { stood := { row := hermiteReducesUptoRow, standIns := [], harness := (true, "96e1effa2a6bab4112e303ff1bf22ae5d9cb210981ee7ea62db324c29fd4277c"), looks := true }, kinds := [], alts := [], laidByText := true, laidKinds := [.data, .data, .data, .sentinel, .sentinel], laidTests := true, laidLooks := .later }
def HermiteReducesUptoCardSaid : Prop := Claim7.holds Tryz.pinned (.plain (OpenSpec.upto hermiteReducesSpec)) hermiteReducesUptoCard

/-- THE SECOND FORM's CARD OF 'schismalaw07.HermiteVerifies'. -/
def hermiteVerifiesUptoCard : Claim7 := { stood := { row := hermiteVerifiesUptoRow, standIns := [], harness := (true, "96e1effa2a6bab4112e303ff1bf22ae5d9cb210981ee7ea62db324c29fd4277c"), looks := true }, kinds := [], alts := [], laidByText := true, laidKinds := [.data, .data, .data, .sentinel, .sentinel], laidTests := true, laidLooks := .later }
def HermiteVerifiesUptoCardSaid : Prop := Claim7.holds Tryz.pinned (.plain (OpenSpec.upto hermiteVerifiesSpec)) hermiteVerifiesUptoCard
end Rows
end Go.Proofs.YthmhmkkcjlgbjaaGreatDoor
