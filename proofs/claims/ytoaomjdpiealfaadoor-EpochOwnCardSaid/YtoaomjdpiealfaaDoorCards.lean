/-
  DERIVED. GIVEN WITH THE SEED: THE CARDS: each row of YtoaomjdpiealfaaDoorRows.lean that lists a variable, with what it lists TIED to the program's text (the seventh form; the later family's looks); each row that meets fmt, with fmt's text TOLD by the authors' own Lean function (tested against real Go, not proved from fmt's source: count such statements apart). THE CARD IS WHAT COUNTS. Prove the row's statement (the work); the ties are given (YtoaomjdpiealfaaDoorTie.lean); close each card by the builder's one call (the guide's Derived/Test/ToyasCard.lean, 'card_holds'). Laid BY PROGRAM, IN A SANDBOX (cutbox-door.mjs). By AI agents, Wed Nov 11 2026. No macro, syntax, notation, axiom, sorry.
-/
import Derived.Test.YtoaomjdpiealfaaDoorRows
import GoSem.ClaimSeven
namespace Go.Proofs.YtoaomjdpiealfaaDoor
namespace Rows

/-- THE TIED CARD OF 'specielaw30.EpochRecords'. -/
def epochRecordsCard : Claim7 := { stood := { row := epochRecordsRow, standIns := [], harness := (true, "6ea24158ec39a552e4f5bd25f425484ae826c1f9967f5d7c327f6e3dc63a9830"), looks := false }, kinds := [], alts := [], laidByText := true, laidKinds := [.data, .data, .data, .data], laidTests := true, laidLooks := .later }
def EpochRecordsCardSaid : Prop := Claim7.holds Tryd.pinned (.plain (OpenSpec.ofChange epochRecordsSpec)) epochRecordsCard

/-- THE TIED CARD OF 'specielaw30.EpochOwn'. -/
def epochOwnCard : Claim7 := { stood := { row := epochOwnRow, standIns := [], harness := (true, "6ea24158ec39a552e4f5bd25f425484ae826c1f9967f5d7c327f6e3dc63a9830"), looks := false }, kinds := [], alts := [], laidByText := true, laidKinds := [.data, .data, .data, .data], laidTests := true, laidLooks := .later }
def EpochOwnCardSaid : Prop := Claim7.holds Tryd.pinned (.plain (OpenSpec.ofChange epochOwnSpec)) epochOwnCard

/-- THE TIED CARD OF 'specielaw30.EpochSigned'. -/
def epochSignedCard : Claim7 := { stood := { row := epochSignedRow, standIns := [], harness := (true, "6ea24158ec39a552e4f5bd25f425484ae826c1f9967f5d7c327f6e3dc63a9830"), looks := false }, kinds := [], alts := [], laidByText := true, laidKinds := [.data, .data, .data, .data], laidTests := true, laidLooks := .later }
def EpochSignedCardSaid : Prop := Claim7.holds Tryd.pinned (.plain (OpenSpec.ofChange epochSignedSpec)) epochSignedCard

/-- THE SECOND FORM's CARD OF 'specielaw30.EpochRecords'. -/
def epochRecordsUptoCard : Claim7 := { stood := { row := epochRecordsUptoRow, standIns := [], harness := (true, "6ea24158ec39a552e4f5bd25f425484ae826c1f9967f5d7c327f6e3dc63a9830"), looks := false }, kinds := [], alts := [], laidByText := true, laidKinds := [.data, .data, .data, .data], laidTests := true, laidLooks := .later }
def EpochRecordsUptoCardSaid : Prop := Claim7.holds Tryd.pinned (.plain (OpenSpec.upto epochRecordsSpec)) epochRecordsUptoCard

/-- THE SECOND FORM's CARD OF 'specielaw30.EpochOwn'. -/
def epochOwnUptoCard : Claim7 := { stood := { row := epochOwnUptoRow, standIns := [], harness := (true, "6ea24158ec39a552e4f5bd25f425484ae826c1f9967f5d7c327f6e3dc63a9830"), looks := false }, kinds := [], alts := [], laidByText := true, laidKinds := [.data, .data, .data, .data], laidTests := true, laidLooks := .later }
def EpochOwnUptoCardSaid : Prop := Claim7.holds Tryd.pinned (.plain (OpenSpec.upto epochOwnSpec)) epochOwnUptoCard

/-- THE SECOND FORM's CARD OF 'specielaw30.EpochSigned'. -/
def epochSignedUptoCard : Claim7 := { stood := { row := epochSignedUptoRow, standIns := [], harness := (true, "6ea24158ec39a552e4f5bd25f425484ae826c1f9967f5d7c327f6e3dc63a9830"), looks := false }, kinds := [], alts := [], laidByText := true, laidKinds := [.data, .data, .data, .data], laidTests := true, laidLooks := .later }
def EpochSignedUptoCardSaid : Prop := Claim7.holds Tryd.pinned (.plain (OpenSpec.upto epochSignedSpec)) epochSignedUptoCard
end Rows
end Go.Proofs.YtoaomjdpiealfaaDoor
