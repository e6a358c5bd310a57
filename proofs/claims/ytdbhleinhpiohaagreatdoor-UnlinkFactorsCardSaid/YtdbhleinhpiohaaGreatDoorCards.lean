/-
  DERIVED. GIVEN WITH THE SEED: THE CARDS: each row of YtdbhleinhpiohaaGreatDoorRows.lean that lists a variable, with what it lists TIED to the program's text (the seventh form; the later family's looks); each row that meets fmt, with fmt's text TOLD by the authors' own Lean function (tested against real Go, not proved from fmt's source: count such statements apart). THE CARD IS WHAT COUNTS. Prove the row's statement (the work); the ties are given (YtdbhleinhpiohaaGreatDoorTie.lean); close each card by the builder's one call (the guide's Derived/Test/ToyasCard.lean, 'card_holds'). Laid BY PROGRAM, IN A SANDBOX (cutbox-door.mjs). By AI agents, Wed Nov 11 2026. No macro, syntax, notation, axiom, sorry.
-/
import Derived.Test.YtdbhleinhpiohaaGreatDoorRows
import GoSem.ClaimSeven
namespace Go.Proofs.YtdbhleinhpiohaaGreatDoor
namespace Rows

/-- THE TIED CARD OF 'specielaw26.UnlinkFactors'. -/
def unlinkFactorsCard : Claim7 := { stood := { row := unlinkFactorsRow, standIns := [], harness := (true, "0bb23497647453ee478f771d4947bbc998dd00ac8505d734b4eb7d1540229387"), looks := false }, kinds := [], alts := [], laidByText := true, laidKinds := [.data, .data, .data, .data], laidTests := true, laidLooks := .later }
def UnlinkFactorsCardSaid : Prop := Claim7.holds Tryz.pinned (.plain (OpenSpec.ofChange unlinkFactorsSpec)) unlinkFactorsCard

/-- THE SECOND FORM's CARD OF 'specielaw26.UnlinkFactors'. -/
def unlinkFactorsUptoCard : Claim7 := { stood := { row := unlinkFactorsUptoRow, standIns := [], harness := (true, "0bb23497647453ee478f771d4947bbc998dd00ac8505d734b4eb7d1540229387"), looks := false }, kinds := [], alts := [], laidByText := true, laidKinds := [.data, .data, .data, .data], laidTests := true, laidLooks := .later }
def UnlinkFactorsUptoCardSaid : Prop := Claim7.holds Tryz.pinned (.plain (OpenSpec.upto unlinkFactorsSpec)) unlinkFactorsUptoCard
end Rows
end Go.Proofs.YtdbhleinhpiohaaGreatDoor
