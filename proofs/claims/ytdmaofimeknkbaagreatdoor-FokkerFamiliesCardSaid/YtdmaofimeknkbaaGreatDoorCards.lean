/-
  DERIVED. GIVEN WITH THE SEED: THE CARDS: each row of YtdmaofimeknkbaaGreatDoorRows.lean that lists a variable, with what it lists TIED to the program's text (the seventh form; the later family's looks); each row that meets fmt, with fmt's text TOLD by the authors' own Lean function (tested against real Go, not proved from fmt's source: count such statements apart). THE CARD IS WHAT COUNTS. Prove the row's statement (the work); the ties are given (YtdmaofimeknkbaaGreatDoorTie.lean); close each card by the builder's one call (the guide's Derived/Test/ToyasCard.lean, 'card_holds'). Laid BY PROGRAM, IN A SANDBOX (cutbox-door.mjs). By AI agents, Wed Nov 11 2026. No macro, syntax, notation, axiom, sorry.
-/
import Derived.Test.YtdmaofimeknkbaaGreatDoorRows
import GoSem.ClaimSeven
namespace Go.Proofs.YtdmaofimeknkbaaGreatDoor
namespace Rows

/-- THE TIED CARD OF 'schismalaw36.FokkerFamilies'. -/
def fokkerFamiliesCard : Claim7 := { stood := { row := fokkerFamiliesRow, standIns := [], harness := (true, "39eb775d98126e42b13481fed6a2faf79ce4ceaf26f76a5718532f3c605e7cb1"), looks := true }, kinds := [], alts := [], laidByText := true, laidKinds := [.data, .data, .data, .sentinel, .sentinel], laidTests := true, laidLooks := .later }
def FokkerFamiliesCardSaid : Prop := Claim7.holds Tryz.pinned (.plain (OpenSpec.ofChange fokkerFamiliesSpec)) fokkerFamiliesCard

/-- THE SECOND FORM's CARD OF 'schismalaw36.FokkerFamilies'. -/
def fokkerFamiliesUptoCard : Claim7 := { stood := { row := fokkerFamiliesUptoRow, standIns := [], harness := (true, "39eb775d98126e42b13481fed6a2faf79ce4ceaf26f76a5718532f3c605e7cb1"), looks := true }, kinds := [], alts := [], laidByText := true, laidKinds := [.data, .data, .data, .sentinel, .sentinel], laidTests := true, laidLooks := .later }
def FokkerFamiliesUptoCardSaid : Prop := Claim7.holds Tryz.pinned (.plain (OpenSpec.upto fokkerFamiliesSpec)) fokkerFamiliesUptoCard
end Rows
end Go.Proofs.YtdmaofimeknkbaaGreatDoor
