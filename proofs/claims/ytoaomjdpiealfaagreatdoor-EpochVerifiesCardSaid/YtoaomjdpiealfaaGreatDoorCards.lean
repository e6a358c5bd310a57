/-
  DERIVED. GIVEN WITH THE SEED: THE CARDS: each row of YtoaomjdpiealfaaGreatDoorRows.lean that lists a variable, with what it lists TIED to the program's text (the seventh form; the later family's looks); each row that meets fmt, with fmt's text TOLD by the authors' own Lean function (tested against real Go, not proved from fmt's source: count such statements apart). THE CARD IS WHAT COUNTS. Prove the row's statement (the work); the ties are given (YtoaomjdpiealfaaGreatDoorTie.lean); close each card by the builder's one call (the guide's Derived/Test/ToyasCard.lean, 'card_holds'). Laid BY PROGRAM, IN A SANDBOX (cutbox-door.mjs). By AI agents, Wed Nov 11 2026. No macro, syntax, notation, axiom, sorry.
-/
import Derived.Test.YtoaomjdpiealfaaGreatDoorRows
import GoSem.ClaimSeven
namespace Go.Proofs.YtoaomjdpiealfaaGreatDoor
namespace Rows

/-- THE TIED CARD OF 'specielaw23.BlindPairs'. -/
def blindPairsCard : Claim7 := { stood := { row := blindPairsRow, standIns := [], harness := (true, "6d59a0737078afa507fd9ecef6a8bc4d822797d603485270b4d8d5eccc0be2c4"), looks := false }, kinds := [], alts := [], laidByText := true, laidKinds := [.data, .data, .data, .data], laidTests := true, laidLooks := .later }
def BlindPairsCardSaid : Prop := Claim7.holds Tryz.pinned (.plain (OpenSpec.ofChange blindPairsSpec)) blindPairsCard

/-- THE TIED CARD OF 'specielaw26.UnlinkFactors'. -/
def unlinkFactorsCard : Claim7 := { stood := { row := unlinkFactorsRow, standIns := [], harness := (true, "6d59a0737078afa507fd9ecef6a8bc4d822797d603485270b4d8d5eccc0be2c4"), looks := false }, kinds := [], alts := [], laidByText := true, laidKinds := [.data, .data, .data, .data], laidTests := true, laidLooks := .later }
def UnlinkFactorsCardSaid : Prop := Claim7.holds Tryz.pinned (.plain (OpenSpec.ofChange unlinkFactorsSpec)) unlinkFactorsCard

/-- THE TIED CARD OF 'specielaw30.EpochVerifies'. -/
def epochVerifiesCard : Claim7 := { stood := { row := epochVerifiesRow, standIns := [], harness := (true, "6d59a0737078afa507fd9ecef6a8bc4d822797d603485270b4d8d5eccc0be2c4"), looks := false }, kinds := [], alts := [], laidByText := true, laidKinds := [.data, .data, .data, .data], laidTests := true, laidLooks := .later }
def EpochVerifiesCardSaid : Prop := Claim7.holds Tryz.pinned (.plain (OpenSpec.ofChange epochVerifiesSpec)) epochVerifiesCard

/-- THE SECOND FORM's CARD OF 'specielaw23.BlindPairs'. -/
def blindPairsUptoCard : Claim7 := { stood := { row := blindPairsUptoRow, standIns := [], harness := (true, "6d59a0737078afa507fd9ecef6a8bc4d822797d603485270b4d8d5eccc0be2c4"), looks := false }, kinds := [], alts := [], laidByText := true, laidKinds := [.data, .data, .data, .data], laidTests := true, laidLooks := .later }
def BlindPairsUptoCardSaid : Prop := Claim7.holds Tryz.pinned (.plain (OpenSpec.upto blindPairsSpec)) blindPairsUptoCard

/-- THE SECOND FORM's CARD OF 'specielaw26.UnlinkFactors'. -/
def unlinkFactorsUptoCard : Claim7 := { stood := { row := unlinkFactorsUptoRow, standIns := [], harness := (true, "6d59a0737078afa507fd9ecef6a8bc4d822797d603485270b4d8d5eccc0be2c4"), looks := false }, kinds := [], alts := [], laidByText := true, laidKinds := [.data, .data, .data, .data], laidTests := true, laidLooks := .later }
def UnlinkFactorsUptoCardSaid : Prop := Claim7.holds Tryz.pinned (.plain (OpenSpec.upto unlinkFactorsSpec)) unlinkFactorsUptoCard

/-- THE SECOND FORM's CARD OF 'specielaw30.EpochVerifies'. -/
def epochVerifiesUptoCard : Claim7 := { stood := { row := epochVerifiesUptoRow, standIns := [], harness := (true, "6d59a0737078afa507fd9ecef6a8bc4d822797d603485270b4d8d5eccc0be2c4"), looks := false }, kinds := [], alts := [], laidByText := true, laidKinds := [.data, .data, .data, .data], laidTests := true, laidLooks := .later }
def EpochVerifiesUptoCardSaid : Prop := Claim7.holds Tryz.pinned (.plain (OpenSpec.upto epochVerifiesSpec)) epochVerifiesUptoCard
end Rows
end Go.Proofs.YtoaomjdpiealfaaGreatDoor
