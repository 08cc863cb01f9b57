/-
  DERIVED. GIVEN WITH THE SEED: THE CARDS: each row of YtokjolmpdfmnbaaGreatDoorRows.lean that lists a variable, with what it lists TIED to the program's text (the seventh form; the later family's looks); each row that meets fmt, with fmt's text TOLD by the authors' own Lean function (tested against real Go, not proved from fmt's source: count such statements apart). THE CARD IS WHAT COUNTS. Prove the row's statement (the work); the ties are given (YtokjolmpdfmnbaaGreatDoorTie.lean); close each card by the builder's one call (the guide's Derived/Test/ToyasCard.lean, 'card_holds'). Laid BY PROGRAM, IN A SANDBOX (cutbox-door.mjs). By AI agents, Wed Nov 11 2026. No macro, syntax, notation, axiom, sorry.
-/
import Derived.Test.YtokjolmpdfmnbaaGreatDoorRows
import GoSem.ClaimSeven
namespace Go.Proofs.YtokjolmpdfmnbaaGreatDoor
namespace Rows

/-- THE TIED CARD OF 'schismalaw08.SmithOrders'. -/
def smithOrdersCard : Claim7 := { stood := { row := smithOrdersRow, standIns := [], harness := (true, "f6c0ed796f428fb30ae7c0f8d940d9ff5cb27e925136e7881977e9a84ffca22e"), looks := true }, kinds := [], alts := [], laidByText := true, laidKinds := [.data, .data, .data, .sentinel, .sentinel], laidTests := true, laidLooks := .later }
def SmithOrdersCardSaid : Prop := Claim7.holds Tryz.pinned (.plain (OpenSpec.ofChange smithOrdersSpec)) smithOrdersCard

/-- THE TIED CARD OF 'schismalaw08.SmithVerifies'. -/
def smithVerifiesCard : Claim7 := { stood := { row := smithVerifiesRow, standIns := [], harness := (true, "f6c0ed796f428fb30ae7c0f8d940d9ff5cb27e925136e7881977e9a84ffca22e"), looks := true }, kinds := [], alts := [], laidByText := true, laidKinds := [.data, .data, .data, .sentinel, .sentinel], laidTests := true, laidLooks := .later }
def SmithVerifiesCardSaid : Prop := Claim7.holds Tryz.pinned (.plain (OpenSpec.ofChange smithVerifiesSpec)) smithVerifiesCard

/-- THE TIED CARD OF 'schismalaw08.SmithTransforms'. -/
def smithTransformsCard : Claim7 := { stood := { row := smithTransformsRow, standIns := [], harness := (true, "f6c0ed796f428fb30ae7c0f8d940d9ff5cb27e925136e7881977e9a84ffca22e"), looks := true }, kinds := [], alts := [], laidByText := true, laidKinds := [.data, .data, .data, .sentinel, .sentinel], laidTests := true, laidLooks := .later }
def SmithTransformsCardSaid : Prop := Claim7.holds Tryz.pinned (.plain (OpenSpec.ofChange smithTransformsSpec)) smithTransformsCard

/-- THE TIED CARD OF 'schismalaw44.LayoutChecks'. -/
def layoutChecksCard : Claim7 := { stood := { row := layoutChecksRow, standIns := [], harness := (true, "f6c0ed796f428fb30ae7c0f8d940d9ff5cb27e925136e7881977e9a84ffca22e"), looks := true }, kinds := [], alts := [], laidByText := true, laidKinds := [.data, .data, .data, .sentinel, .sentinel], laidTests := true, laidLooks := .later }
def LayoutChecksCardSaid : Prop := Claim7.holds Tryz.pinned (.plain (OpenSpec.ofChange layoutChecksSpec)) layoutChecksCard

/-- THE TIED CARD OF 'schismalaw44.LayoutPictures'. -/
def layoutPicturesCard : Claim7 := { stood := { row := layoutPicturesRow, standIns := [], harness := (true, "f6c0ed796f428fb30ae7c0f8d940d9ff5cb27e925136e7881977e9a84ffca22e"), looks := true }, kinds := [], alts := [], laidByText := true, laidKinds := [.data, .data, .data, .sentinel, .sentinel], laidTests := true, laidLooks := .later }
def LayoutPicturesCardSaid : Prop := Claim7.holds Tryz.pinned (.plain (OpenSpec.ofChange layoutPicturesSpec)) layoutPicturesCard

/-- THE SECOND FORM's CARD OF 'schismalaw08.SmithOrders'. -/
def smithOrdersUptoCard : Claim7 := { stood := { row := smithOrdersUptoRow, standIns := [], harness := (true, "f6c0ed796f428fb30ae7c0f8d940d9ff5cb27e925136e7881977e9a84ffca22e"), looks := true }, kinds := [], alts := [], laidByText := true, laidKinds := [.data, .data, .data, .sentinel, .sentinel], laidTests := true, laidLooks := .later }
def SmithOrdersUptoCardSaid : Prop := Claim7.holds Tryz.pinned (.plain (OpenSpec.upto smithOrdersSpec)) smithOrdersUptoCard

/-- THE SECOND FORM's CARD OF 'schismalaw08.SmithVerifies'. -/
def smithVerifiesUptoCard : Claim7 := { stood := { row := smithVerifiesUptoRow, standIns := [], harness := (true, "f6c0ed796f428fb30ae7c0f8d940d9ff5cb27e925136e7881977e9a84ffca22e"), looks := true }, kinds := [], alts := [], laidByText := true, laidKinds := [.data, .data, .data, .sentinel, .sentinel], laidTests := true, laidLooks := .later }
def SmithVerifiesUptoCardSaid : Prop := Claim7.holds Tryz.pinned (.plain (OpenSpec.upto smithVerifiesSpec)) smithVerifiesUptoCard

/-- THE SECOND FORM's CARD OF 'schismalaw08.SmithTransforms'. -/
def smithTransformsUptoCard : Claim7 := { stood := { row := smithTransformsUptoRow, standIns := [], harness := (true, "f6c0ed796f428fb30ae7c0f8d940d9ff5cb27e925136e7881977e9a84ffca22e"), looks := true }, kinds := [], alts := [], laidByText := true, laidKinds := [.data, .data, .data, .sentinel, .sentinel], laidTests := true, laidLooks := .later }
def SmithTransformsUptoCardSaid : Prop := Claim7.holds Tryz.pinned (.plain (OpenSpec.upto smithTransformsSpec)) smithTransformsUptoCard

/-- THE SECOND FORM's CARD OF 'schismalaw44.LayoutChecks'. -/
def layoutChecksUptoCard : Claim7 := { stood := { row := layoutChecksUptoRow, standIns := [], harness := (true, "f6c0ed796f428fb30ae7c0f8d940d9ff5cb27e925136e7881977e9a84ffca22e"), looks := true }, kinds := [], alts := [], laidByText := true, laidKinds := [.data, .data, .data, .sentinel, .sentinel], laidTests := true, laidLooks := .later }
def LayoutChecksUptoCardSaid : Prop := Claim7.holds Tryz.pinned (.plain (OpenSpec.upto layoutChecksSpec)) layoutChecksUptoCard

/-- THE SECOND FORM's CARD OF 'schismalaw44.LayoutPictures'. -/
def layoutPicturesUptoCard : Claim7 := { stood := { row := layoutPicturesUptoRow, standIns := [], harness := (true, "f6c0ed796f428fb30ae7c0f8d940d9ff5cb27e925136e7881977e9a84ffca22e"), looks := true }, kinds := [], alts := [], laidByText := true, laidKinds := [.data, .data, .data, .sentinel, .sentinel], laidTests := true, laidLooks := .later }
def LayoutPicturesUptoCardSaid : Prop := Claim7.holds Tryz.pinned (.plain (OpenSpec.upto layoutPicturesSpec)) layoutPicturesUptoCard
end Rows
end Go.Proofs.YtokjolmpdfmnbaaGreatDoor
