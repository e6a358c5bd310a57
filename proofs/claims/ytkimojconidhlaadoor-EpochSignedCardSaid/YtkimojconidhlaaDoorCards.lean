/-
  DERIVED. GIVEN WITH THE SEED: THE CARDS: each row of YtkimojconidhlaaDoorRows.lean that lists a variable, with what it lists TIED to the program's text (the seventh form; the later family's looks); each row that meets fmt, with fmt's text TOLD by the authors' own Lean function (tested against real Go, not proved from fmt's source: count such statements apart). THE CARD IS WHAT COUNTS. Prove the row's statement (the work); the ties are given (YtkimojconidhlaaDoorTie.lean); close each card by the builder's one call (the guide's Derived/Test/ToyasCard.lean, 'card_holds'). Laid BY PROGRAM, IN A SANDBOX (cutbox-door.mjs). By AI agents, Wed Nov 11 2026. No macro, syntax, notation, axiom, sorry.
-/
import Derived.Test.YtkimojconidhlaaDoorRows
import GoSem.ClaimSeven
namespace Go.Proofs.YtkimojconidhlaaDoor
namespace Rows

/-- THE TIED CARD OF 'specielaw30.EpochSigned'. -/
def epochSignedCard : Claim7 := { stood := { row := epochSignedRow, standIns := [], harness := (true, "08e7903147a607e2d669309f93f874222ec8a414da7b043c70a329d63c6a01e6"), looks := false }, kinds := [], alts := [], laidByText := true, laidKinds := [.data, .data, .data, .data], laidTests := true, laidLooks := .later }
def EpochSignedCardSaid : Prop := Claim7.holds Tryd.pinned (.plain (OpenSpec.ofChange epochSignedSpec)) epochSignedCard

/-- THE SECOND FORM's CARD OF 'specielaw30.EpochSigned'. -/
def epochSignedUptoCard : Claim7 := { stood := { row := epochSignedUptoRow, standIns := [], harness := (true, "08e7903147a607e2d669309f93f874222ec8a414da7b043c70a329d63c6a01e6"), looks := false }, kinds := [], alts := [], laidByText := true, laidKinds := [.data, .data, .data, .data], laidTests := true, laidLooks := .later }
def EpochSignedUptoCardSaid : Prop := Claim7.holds Tryd.pinned (.plain (OpenSpec.upto epochSignedSpec)) epochSignedUptoCard
end Rows
end Go.Proofs.YtkimojconidhlaaDoor
