/-
  DERIVED. GIVEN WITH THE SEED: THE CARDS: each row of YtdlcmpbpdbpanaaDoorRows.lean that lists a variable, with what it lists TIED to the program's text (the seventh form; the later family's looks); each row that meets fmt, with fmt's text TOLD by the authors' own Lean function (tested against real Go, not proved from fmt's source: count such statements apart). THE CARD IS WHAT COUNTS. Prove the row's statement (the work); the ties are given (YtdlcmpbpdbpanaaDoorTie.lean); close each card by the builder's one call (the guide's Derived/Test/ToyasCard.lean, 'card_holds'). Laid BY PROGRAM, IN A SANDBOX (cutbox-door.mjs). By AI agents, Wed Nov 11 2026. No macro, syntax, notation, axiom, sorry.
-/
import Derived.Test.YtdlcmpbpdbpanaaDoorRows
import GoSem.ClaimSeven
namespace Go.Proofs.YtdlcmpbpdbpanaaDoor
namespace Rows

/-- THE TIED CARD OF 'specielaw09.DrawPowers'. -/
def drawPowersCard : Claim7 := { stood := { row := drawPowersRow, standIns := [], harness := (true, "1ac3e6fa055b002bab9877c4754130f81b584408bcfba65cf2c01d671d5a7cd4"), looks := false }, kinds := [], alts := [], laidByText := true, laidKinds := [.data, .data], laidTests := true, laidLooks := .later }
def DrawPowersCardSaid : Prop := Claim7.holds Tryd.pinned (.plain (OpenSpec.ofChange drawPowersSpec)) drawPowersCard

/-- THE TIED CARD OF 'specielaw09.DrawForks'. -/
def drawForksCard : Claim7 := { stood := { row := drawForksRow, standIns := [], harness := (true, "1ac3e6fa055b002bab9877c4754130f81b584408bcfba65cf2c01d671d5a7cd4"), looks := false }, kinds := [], alts := [], laidByText := true, laidKinds := [.data, .data], laidTests := true, laidLooks := .later }
def DrawForksCardSaid : Prop := Claim7.holds Tryd.pinned (.plain (OpenSpec.ofChange drawForksSpec)) drawForksCard

/-- THE TIED CARD OF 'specielaw09.DrawJoins'. -/
def drawJoinsCard : Claim7 := { stood := { row := drawJoinsRow, standIns := [], harness := (true, "1ac3e6fa055b002bab9877c4754130f81b584408bcfba65cf2c01d671d5a7cd4"), looks := false }, kinds := [], alts := [], laidByText := true, laidKinds := [.data, .data], laidTests := true, laidLooks := .later }
def DrawJoinsCardSaid : Prop := Claim7.holds Tryd.pinned (.plain (OpenSpec.ofChange drawJoinsSpec)) drawJoinsCard

/-- THE TIED CARD OF 'specielaw25.RestrictChallenges'. -/
def restrictChallengesCard : Claim7 := { stood := { row := restrictChallengesRow, standIns := [], harness := (true, "1ac3e6fa055b002bab9877c4754130f81b584408bcfba65cf2c01d671d5a7cd4"), looks := false }, kinds := [], alts := [], laidByText := true, laidKinds := [.data, .data, .data, .data], laidTests := true, laidLooks := .later }
def RestrictChallengesCardSaid : Prop := Claim7.holds Tryd.pinned (.plain (OpenSpec.ofChange restrictChallengesSpec)) restrictChallengesCard

/-- THE TIED CARD OF 'specielaw22.SignatureFits'. -/
def signatureFitsCard : Claim7 := { stood := { row := signatureFitsRow, standIns := [], harness := (true, "1ac3e6fa055b002bab9877c4754130f81b584408bcfba65cf2c01d671d5a7cd4"), looks := false }, kinds := [], alts := [], laidByText := true, laidKinds := [.data, .data, .data, .data], laidTests := true, laidLooks := .later }
def SignatureFitsCardSaid : Prop := Claim7.holds Tryd.pinned (.plain (OpenSpec.ofChange signatureFitsSpec)) signatureFitsCard

/-- THE TIED CARD OF 'specielaw22.SignatureOne'. -/
def signatureOneCard : Claim7 := { stood := { row := signatureOneRow, standIns := [], harness := (true, "1ac3e6fa055b002bab9877c4754130f81b584408bcfba65cf2c01d671d5a7cd4"), looks := false }, kinds := [], alts := [], laidByText := true, laidKinds := [.data, .data], laidTests := true, laidLooks := .later }
def SignatureOneCardSaid : Prop := Claim7.holds Tryd.pinned (.plain (OpenSpec.ofChange signatureOneSpec)) signatureOneCard

/-- THE TIED CARD OF 'specielaw22.SignatureApart'. -/
def signatureApartCard : Claim7 := { stood := { row := signatureApartRow, standIns := [], harness := (true, "1ac3e6fa055b002bab9877c4754130f81b584408bcfba65cf2c01d671d5a7cd4"), looks := false }, kinds := [], alts := [], laidByText := true, laidKinds := [.data, .data, .data, .data], laidTests := true, laidLooks := .later }
def SignatureApartCardSaid : Prop := Claim7.holds Tryd.pinned (.plain (OpenSpec.ofChange signatureApartSpec)) signatureApartCard

/-- THE TIED CARD OF 'specielaw30.EpochRecords'. -/
def epochRecordsCard : Claim7 := { stood := { row := epochRecordsRow, standIns := [], harness := (true, "1ac3e6fa055b002bab9877c4754130f81b584408bcfba65cf2c01d671d5a7cd4"), looks := false }, kinds := [], alts := [], laidByText := true, laidKinds := [.data, .data, .data, .data], laidTests := true, laidLooks := .later }
def EpochRecordsCardSaid : Prop := Claim7.holds Tryd.pinned (.plain (OpenSpec.ofChange epochRecordsSpec)) epochRecordsCard

/-- THE TIED CARD OF 'specielaw30.EpochOwn'. -/
def epochOwnCard : Claim7 := { stood := { row := epochOwnRow, standIns := [], harness := (true, "1ac3e6fa055b002bab9877c4754130f81b584408bcfba65cf2c01d671d5a7cd4"), looks := false }, kinds := [], alts := [], laidByText := true, laidKinds := [.data, .data, .data, .data], laidTests := true, laidLooks := .later }
def EpochOwnCardSaid : Prop := Claim7.holds Tryd.pinned (.plain (OpenSpec.ofChange epochOwnSpec)) epochOwnCard

/-- THE TIED CARD OF 'specielaw30.EpochSigned'. -/
def epochSignedCard : Claim7 := { stood := { row := epochSignedRow, standIns := [], harness := (true, "1ac3e6fa055b002bab9877c4754130f81b584408bcfba65cf2c01d671d5a7cd4"), looks := false }, kinds := [], alts := [], laidByText := true, laidKinds := [.data, .data, .data, .data], laidTests := true, laidLooks := .later }
def EpochSignedCardSaid : Prop := Claim7.holds Tryd.pinned (.plain (OpenSpec.ofChange epochSignedSpec)) epochSignedCard

/-- THE SECOND FORM's CARD OF 'specielaw09.DrawPowers'. -/
def drawPowersUptoCard : Claim7 := { stood := { row := drawPowersUptoRow, standIns := [], harness := (true, "1ac3e6fa055b002bab9877c4754130f81b584408bcfba65cf2c01d671d5a7cd4"), looks := false }, kinds := [], alts := [], laidByText := true, laidKinds := [.data, .data], laidTests := true, laidLooks := .later }
def DrawPowersUptoCardSaid : Prop := Claim7.holds Tryd.pinned (.plain (OpenSpec.upto drawPowersSpec)) drawPowersUptoCard

/-- THE SECOND FORM's CARD OF 'specielaw09.DrawForks'. -/
def drawForksUptoCard : Claim7 := { stood := { row := drawForksUptoRow, standIns := [], harness := (true, "1ac3e6fa055b002bab9877c4754130f81b584408bcfba65cf2c01d671d5a7cd4"), looks := false }, kinds := [], alts := [], laidByText := true, laidKinds := [.data, .data], laidTests := true, laidLooks := .later }
def DrawForksUptoCardSaid : Prop := Claim7.holds Tryd.pinned (.plain (OpenSpec.upto drawForksSpec)) drawForksUptoCard

/-- THE SECOND FORM's CARD OF 'specielaw09.DrawJoins'. -/
def drawJoinsUptoCard : Claim7 := { stood := { row := drawJoinsUptoRow, standIns := [], harness := (true, "1ac3e6fa055b002bab9877c4754130f81b584408bcfba65cf2c01d671d5a7cd4"), looks := false }, kinds := [], alts := [], laidByText := true, laidKinds := [.data, .data], laidTests := true, laidLooks := .later }
def DrawJoinsUptoCardSaid : Prop := Claim7.holds Tryd.pinned (.plain (OpenSpec.upto drawJoinsSpec)) drawJoinsUptoCard

/-- THE SECOND FORM's CARD OF 'specielaw25.RestrictChallenges'. -/
def restrictChallengesUptoCard : Claim7 := { stood := { row := restrictChallengesUptoRow, standIns := [], harness := (true, "1ac3e6fa055b002bab9877c4754130f81b584408bcfba65cf2c01d671d5a7cd4"), looks := false }, kinds := [], alts := [], laidByText := true, laidKinds := [.data, .data, .data, .data], laidTests := true, laidLooks := .later }
def RestrictChallengesUptoCardSaid : Prop := Claim7.holds Tryd.pinned (.plain (OpenSpec.upto restrictChallengesSpec)) restrictChallengesUptoCard

/-- THE SECOND FORM's CARD OF 'specielaw22.SignatureFits'. -/
def signatureFitsUptoCard : Claim7 := { stood := { row := signatureFitsUptoRow, standIns := [], harness := (true, "1ac3e6fa055b002bab9877c4754130f81b584408bcfba65cf2c01d671d5a7cd4"), looks := false }, kinds := [], alts := [], laidByText := true, laidKinds := [.data, .data, .data, .data], laidTests := true, laidLooks := .later }
def SignatureFitsUptoCardSaid : Prop := Claim7.holds Tryd.pinned (.plain (OpenSpec.upto signatureFitsSpec)) signatureFitsUptoCard

/-- THE SECOND FORM's CARD OF 'specielaw22.SignatureOne'. -/
def signatureOneUptoCard : Claim7 := { stood := { row := signatureOneUptoRow, standIns := [], harness := (true, "1ac3e6fa055b002bab9877c4754130f81b584408bcfba65cf2c01d671d5a7cd4"), looks := false }, kinds := [], alts := [], laidByText := true, laidKinds := [.data, .data], laidTests := true, laidLooks := .later }
def SignatureOneUptoCardSaid : Prop := Claim7.holds Tryd.pinned (.plain (OpenSpec.upto signatureOneSpec)) signatureOneUptoCard

/-- THE SECOND FORM's CARD OF 'specielaw22.SignatureApart'. -/
def signatureApartUptoCard : Claim7 := { stood := { row := signatureApartUptoRow, standIns := [], harness := (true, "1ac3e6fa055b002bab9877c4754130f81b584408bcfba65cf2c01d671d5a7cd4"), looks := false }, kinds := [], alts := [], laidByText := true, laidKinds := [.data, .data, .data, .data], laidTests := true, laidLooks := .later }
def SignatureApartUptoCardSaid : Prop := Claim7.holds Tryd.pinned (.plain (OpenSpec.upto signatureApartSpec)) signatureApartUptoCard

/-- THE SECOND FORM's CARD OF 'specielaw30.EpochRecords'. -/
def epochRecordsUptoCard : Claim7 := { stood := { row := epochRecordsUptoRow, standIns := [], harness := (true, "1ac3e6fa055b002bab9877c4754130f81b584408bcfba65cf2c01d671d5a7cd4"), looks := false }, kinds := [], alts := [], laidByText := true, laidKinds := [.data, .data, .data, .data], laidTests := true, laidLooks := .later }
def EpochRecordsUptoCardSaid : Prop := Claim7.holds Tryd.pinned (.plain (OpenSpec.upto epochRecordsSpec)) epochRecordsUptoCard

/-- THE SECOND FORM's CARD OF 'specielaw30.EpochOwn'. -/
def epochOwnUptoCard : Claim7 := { stood := { row := epochOwnUptoRow, standIns := [], harness := (true, "1ac3e6fa055b002bab9877c4754130f81b584408bcfba65cf2c01d671d5a7cd4"), looks := false }, kinds := [], alts := [], laidByText := true, laidKinds := [.data, .data, .data, .data], laidTests := true, laidLooks := .later }
def EpochOwnUptoCardSaid : Prop := Claim7.holds Tryd.pinned (.plain (OpenSpec.upto epochOwnSpec)) epochOwnUptoCard

/-- THE SECOND FORM's CARD OF 'specielaw30.EpochSigned'. -/
def epochSignedUptoCard : Claim7 := { stood := { row := epochSignedUptoRow, standIns := [], harness := (true, "1ac3e6fa055b002bab9877c4754130f81b584408bcfba65cf2c01d671d5a7cd4"), looks := false }, kinds := [], alts := [], laidByText := true, laidKinds := [.data, .data, .data, .data], laidTests := true, laidLooks := .later }
def EpochSignedUptoCardSaid : Prop := Claim7.holds Tryd.pinned (.plain (OpenSpec.upto epochSignedSpec)) epochSignedUptoCard
end Rows
end Go.Proofs.YtdlcmpbpdbpanaaDoor
