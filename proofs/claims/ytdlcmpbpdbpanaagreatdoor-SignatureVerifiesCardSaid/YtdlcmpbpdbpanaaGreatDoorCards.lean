/-
  DERIVED. GIVEN WITH THE SEED: THE CARDS: each row of YtdlcmpbpdbpanaaGreatDoorRows.lean that lists a variable, with what it lists TIED to the program's text (the seventh form; the later family's looks); each row that meets fmt, with fmt's text TOLD by the authors' own Lean function (tested against real Go, not proved from fmt's source: count such statements apart). THE CARD IS WHAT COUNTS. Prove the row's statement (the work); the ties are given (YtdlcmpbpdbpanaaGreatDoorTie.lean); close each card by the builder's one call (the guide's Derived/Test/ToyasCard.lean, 'card_holds'). Laid BY PROGRAM, IN A SANDBOX (cutbox-door.mjs). By AI agents, Wed Nov 11 2026. No macro, syntax, notation, axiom, sorry.
-/
import Derived.Test.YtdlcmpbpdbpanaaGreatDoorRows
import GoSem.ClaimSeven
namespace Go.Proofs.YtdlcmpbpdbpanaaGreatDoor
namespace Rows

/-- THE TIED CARD OF 'specielaw25.RestrictViews'. -/
def restrictViewsCard : Claim7 := { stood := { row := restrictViewsRow, standIns := [], harness := (true, "5d8df470eefd34e06407d8b2358230b91fada8ea5134929adc0b2ea1f1a0c18e"), looks := false }, kinds := [], alts := [], laidByText := true, laidKinds := [.data, .data, .data, .data], laidTests := true, laidLooks := .later }
def RestrictViewsCardSaid : Prop := Claim7.holds Tryz.pinned (.plain (OpenSpec.ofChange restrictViewsSpec)) restrictViewsCard

/-- THE TIED CARD OF 'specielaw26.UnlinkExplains'. -/
def unlinkExplainsCard : Claim7 := { stood := { row := unlinkExplainsRow, standIns := [], harness := (true, "5d8df470eefd34e06407d8b2358230b91fada8ea5134929adc0b2ea1f1a0c18e"), looks := false }, kinds := [], alts := [], laidByText := true, laidKinds := [.data, .data, .data, .data], laidTests := true, laidLooks := .later }
def UnlinkExplainsCardSaid : Prop := Claim7.holds Tryz.pinned (.plain (OpenSpec.ofChange unlinkExplainsSpec)) unlinkExplainsCard

/-- THE TIED CARD OF 'specielaw26.UnlinkFactors'. -/
def unlinkFactorsCard : Claim7 := { stood := { row := unlinkFactorsRow, standIns := [], harness := (true, "5d8df470eefd34e06407d8b2358230b91fada8ea5134929adc0b2ea1f1a0c18e"), looks := false }, kinds := [], alts := [], laidByText := true, laidKinds := [.data, .data, .data, .data], laidTests := true, laidLooks := .later }
def UnlinkFactorsCardSaid : Prop := Claim7.holds Tryz.pinned (.plain (OpenSpec.ofChange unlinkFactorsSpec)) unlinkFactorsCard

/-- THE TIED CARD OF 'specielaw22.SignatureParts'. -/
def signaturePartsCard : Claim7 := { stood := { row := signaturePartsRow, standIns := [], harness := (true, "5d8df470eefd34e06407d8b2358230b91fada8ea5134929adc0b2ea1f1a0c18e"), looks := false }, kinds := [], alts := [], laidByText := true, laidKinds := [.data, .data, .data, .data], laidTests := true, laidLooks := .later }
def SignaturePartsCardSaid : Prop := Claim7.holds Tryz.pinned (.plain (OpenSpec.ofChange signaturePartsSpec)) signaturePartsCard

/-- THE TIED CARD OF 'specielaw22.SignatureVerifies'. -/
def signatureVerifiesCard : Claim7 := { stood := { row := signatureVerifiesRow, standIns := [], harness := (true, "5d8df470eefd34e06407d8b2358230b91fada8ea5134929adc0b2ea1f1a0c18e"), looks := false }, kinds := [], alts := [], laidByText := true, laidKinds := [.data, .data, .data, .data], laidTests := true, laidLooks := .later }
def SignatureVerifiesCardSaid : Prop := Claim7.holds Tryz.pinned (.plain (OpenSpec.ofChange signatureVerifiesSpec)) signatureVerifiesCard

/-- THE TIED CARD OF 'specielaw23.BlindSteps'. -/
def blindStepsCard : Claim7 := { stood := { row := blindStepsRow, standIns := [], harness := (true, "5d8df470eefd34e06407d8b2358230b91fada8ea5134929adc0b2ea1f1a0c18e"), looks := false }, kinds := [], alts := [], laidByText := true, laidKinds := [.data, .data, .data, .data], laidTests := true, laidLooks := .later }
def BlindStepsCardSaid : Prop := Claim7.holds Tryz.pinned (.plain (OpenSpec.ofChange blindStepsSpec)) blindStepsCard

/-- THE TIED CARD OF 'specielaw23.BlindUnblinds'. -/
def blindUnblindsCard : Claim7 := { stood := { row := blindUnblindsRow, standIns := [], harness := (true, "5d8df470eefd34e06407d8b2358230b91fada8ea5134929adc0b2ea1f1a0c18e"), looks := false }, kinds := [], alts := [], laidByText := true, laidKinds := [.data, .data, .data, .data], laidTests := true, laidLooks := .later }
def BlindUnblindsCardSaid : Prop := Claim7.holds Tryz.pinned (.plain (OpenSpec.ofChange blindUnblindsSpec)) blindUnblindsCard

/-- THE TIED CARD OF 'specielaw23.BlindFactors'. -/
def blindFactorsCard : Claim7 := { stood := { row := blindFactorsRow, standIns := [], harness := (true, "5d8df470eefd34e06407d8b2358230b91fada8ea5134929adc0b2ea1f1a0c18e"), looks := false }, kinds := [], alts := [], laidByText := true, laidKinds := [.data, .data, .data, .data], laidTests := true, laidLooks := .later }
def BlindFactorsCardSaid : Prop := Claim7.holds Tryz.pinned (.plain (OpenSpec.ofChange blindFactorsSpec)) blindFactorsCard

/-- THE TIED CARD OF 'specielaw23.BlindHonest'. -/
def blindHonestCard : Claim7 := { stood := { row := blindHonestRow, standIns := [], harness := (true, "5d8df470eefd34e06407d8b2358230b91fada8ea5134929adc0b2ea1f1a0c18e"), looks := false }, kinds := [], alts := [], laidByText := true, laidKinds := [.data, .data, .data, .data], laidTests := true, laidLooks := .later }
def BlindHonestCardSaid : Prop := Claim7.holds Tryz.pinned (.plain (OpenSpec.ofChange blindHonestSpec)) blindHonestCard

/-- THE TIED CARD OF 'specielaw23.BlindPairs'. -/
def blindPairsCard : Claim7 := { stood := { row := blindPairsRow, standIns := [], harness := (true, "5d8df470eefd34e06407d8b2358230b91fada8ea5134929adc0b2ea1f1a0c18e"), looks := false }, kinds := [], alts := [], laidByText := true, laidKinds := [.data, .data, .data, .data], laidTests := true, laidLooks := .later }
def BlindPairsCardSaid : Prop := Claim7.holds Tryz.pinned (.plain (OpenSpec.ofChange blindPairsSpec)) blindPairsCard

/-- THE TIED CARD OF 'specielaw23.BlindUnlinkable'. -/
def blindUnlinkableCard : Claim7 := { stood := { row := blindUnlinkableRow, standIns := [], harness := (true, "5d8df470eefd34e06407d8b2358230b91fada8ea5134929adc0b2ea1f1a0c18e"), looks := false }, kinds := [], alts := [], laidByText := true, laidKinds := [.data, .data, .data, .data], laidTests := true, laidLooks := .later }
def BlindUnlinkableCardSaid : Prop := Claim7.holds Tryz.pinned (.plain (OpenSpec.ofChange blindUnlinkableSpec)) blindUnlinkableCard

/-- THE TIED CARD OF 'specielaw30.EpochVerifies'. -/
def epochVerifiesCard : Claim7 := { stood := { row := epochVerifiesRow, standIns := [], harness := (true, "5d8df470eefd34e06407d8b2358230b91fada8ea5134929adc0b2ea1f1a0c18e"), looks := false }, kinds := [], alts := [], laidByText := true, laidKinds := [.data, .data, .data, .data], laidTests := true, laidLooks := .later }
def EpochVerifiesCardSaid : Prop := Claim7.holds Tryz.pinned (.plain (OpenSpec.ofChange epochVerifiesSpec)) epochVerifiesCard

/-- THE SECOND FORM's CARD OF 'specielaw25.RestrictViews'. -/
def restrictViewsUptoCard : Claim7 := { stood := { row := restrictViewsUptoRow, standIns := [], harness := (true, "5d8df470eefd34e06407d8b2358230b91fada8ea5134929adc0b2ea1f1a0c18e"), looks := false }, kinds := [], alts := [], laidByText := true, laidKinds := [.data, .data, .data, .data], laidTests := true, laidLooks := .later }
def RestrictViewsUptoCardSaid : Prop := Claim7.holds Tryz.pinned (.plain (OpenSpec.upto restrictViewsSpec)) restrictViewsUptoCard

/-- THE SECOND FORM's CARD OF 'specielaw26.UnlinkExplains'. -/
def unlinkExplainsUptoCard : Claim7 := { stood := { row := unlinkExplainsUptoRow, standIns := [], harness := (true, "5d8df470eefd34e06407d8b2358230b91fada8ea5134929adc0b2ea1f1a0c18e"), looks := false }, kinds := [], alts := [], laidByText := true, laidKinds := [.data, .data, .data, .data], laidTests := true, laidLooks := .later }
def UnlinkExplainsUptoCardSaid : Prop := Claim7.holds Tryz.pinned (.plain (OpenSpec.upto unlinkExplainsSpec)) unlinkExplainsUptoCard

/-- THE SECOND FORM's CARD OF 'specielaw26.UnlinkFactors'. -/
def unlinkFactorsUptoCard : Claim7 := { stood := { row := unlinkFactorsUptoRow, standIns := [], harness := (true, "5d8df470eefd34e06407d8b2358230b91fada8ea5134929adc0b2ea1f1a0c18e"), looks := false }, kinds := [], alts := [], laidByText := true, laidKinds := [.data, .data, .data, .data], laidTests := true, laidLooks := .later }
def UnlinkFactorsUptoCardSaid : Prop := Claim7.holds Tryz.pinned (.plain (OpenSpec.upto unlinkFactorsSpec)) unlinkFactorsUptoCard

/-- THE SECOND FORM's CARD OF 'specielaw22.SignatureParts'. -/
def signaturePartsUptoCard : Claim7 := { stood := { row := signaturePartsUptoRow, standIns := [], harness := (true, "5d8df470eefd34e06407d8b2358230b91fada8ea5134929adc0b2ea1f1a0c18e"), looks := false }, kinds := [], alts := [], laidByText := true, laidKinds := [.data, .data, .data, .data], laidTests := true, laidLooks := .later }
def SignaturePartsUptoCardSaid : Prop := Claim7.holds Tryz.pinned (.plain (OpenSpec.upto signaturePartsSpec)) signaturePartsUptoCard

/-- THE SECOND FORM's CARD OF 'specielaw22.SignatureVerifies'. -/
def signatureVerifiesUptoCard : Claim7 := { stood := { row := signatureVerifiesUptoRow, standIns := [], harness := (true, "5d8df470eefd34e06407d8b2358230b91fada8ea5134929adc0b2ea1f1a0c18e"), looks := false }, kinds := [], alts := [], laidByText := true, laidKinds := [.data, .data, .data, .data], laidTests := true, laidLooks := .later }
def SignatureVerifiesUptoCardSaid : Prop := Claim7.holds Tryz.pinned (.plain (OpenSpec.upto signatureVerifiesSpec)) signatureVerifiesUptoCard

/-- THE SECOND FORM's CARD OF 'specielaw23.BlindSteps'. -/
def blindStepsUptoCard : Claim7 := { stood := { row := blindStepsUptoRow, standIns := [], harness := (true, "5d8df470eefd34e06407d8b2358230b91fada8ea5134929adc0b2ea1f1a0c18e"), looks := false }, kinds := [], alts := [], laidByText := true, laidKinds := [.data, .data, .data, .data], laidTests := true, laidLooks := .later }
def BlindStepsUptoCardSaid : Prop := Claim7.holds Tryz.pinned (.plain (OpenSpec.upto blindStepsSpec)) blindStepsUptoCard

/-- THE SECOND FORM's CARD OF 'specielaw23.BlindUnblinds'. -/
def blindUnblindsUptoCard : Claim7 := { stood := { row := blindUnblindsUptoRow, standIns := [], harness := (true, "5d8df470eefd34e06407d8b2358230b91fada8ea5134929adc0b2ea1f1a0c18e"), looks := false }, kinds := [], alts := [], laidByText := true, laidKinds := [.data, .data, .data, .data], laidTests := true, laidLooks := .later }
def BlindUnblindsUptoCardSaid : Prop := Claim7.holds Tryz.pinned (.plain (OpenSpec.upto blindUnblindsSpec)) blindUnblindsUptoCard

/-- THE SECOND FORM's CARD OF 'specielaw23.BlindFactors'. -/
def blindFactorsUptoCard : Claim7 := { stood := { row := blindFactorsUptoRow, standIns := [], harness := (true, "5d8df470eefd34e06407d8b2358230b91fada8ea5134929adc0b2ea1f1a0c18e"), looks := false }, kinds := [], alts := [], laidByText := true, laidKinds := [.data, .data, .data, .data], laidTests := true, laidLooks := .later }
def BlindFactorsUptoCardSaid : Prop := Claim7.holds Tryz.pinned (.plain (OpenSpec.upto blindFactorsSpec)) blindFactorsUptoCard

/-- THE SECOND FORM's CARD OF 'specielaw23.BlindHonest'. -/
def blindHonestUptoCard : Claim7 := { stood := { row := blindHonestUptoRow, standIns := [], harness := (true, "5d8df470eefd34e06407d8b2358230b91fada8ea5134929adc0b2ea1f1a0c18e"), looks := false }, kinds := [], alts := [], laidByText := true, laidKinds := [.data, .data, .data, .data], laidTests := true, laidLooks := .later }
def BlindHonestUptoCardSaid : Prop := Claim7.holds Tryz.pinned (.plain (OpenSpec.upto blindHonestSpec)) blindHonestUptoCard

/-- THE SECOND FORM's CARD OF 'specielaw23.BlindPairs'. -/
def blindPairsUptoCard : Claim7 := { stood := { row := blindPairsUptoRow, standIns := [], harness := (true, "5d8df470eefd34e06407d8b2358230b91fada8ea5134929adc0b2ea1f1a0c18e"), looks := false }, kinds := [], alts := [], laidByText := true, laidKinds := [.data, .data, .data, .data], laidTests := true, laidLooks := .later }
def BlindPairsUptoCardSaid : Prop := Claim7.holds Tryz.pinned (.plain (OpenSpec.upto blindPairsSpec)) blindPairsUptoCard

/-- THE SECOND FORM's CARD OF 'specielaw23.BlindUnlinkable'. -/
def blindUnlinkableUptoCard : Claim7 := { stood := { row := blindUnlinkableUptoRow, standIns := [], harness := (true, "5d8df470eefd34e06407d8b2358230b91fada8ea5134929adc0b2ea1f1a0c18e"), looks := false }, kinds := [], alts := [], laidByText := true, laidKinds := [.data, .data, .data, .data], laidTests := true, laidLooks := .later }
def BlindUnlinkableUptoCardSaid : Prop := Claim7.holds Tryz.pinned (.plain (OpenSpec.upto blindUnlinkableSpec)) blindUnlinkableUptoCard

/-- THE SECOND FORM's CARD OF 'specielaw30.EpochVerifies'. -/
def epochVerifiesUptoCard : Claim7 := { stood := { row := epochVerifiesUptoRow, standIns := [], harness := (true, "5d8df470eefd34e06407d8b2358230b91fada8ea5134929adc0b2ea1f1a0c18e"), looks := false }, kinds := [], alts := [], laidByText := true, laidKinds := [.data, .data, .data, .data], laidTests := true, laidLooks := .later }
def EpochVerifiesUptoCardSaid : Prop := Claim7.holds Tryz.pinned (.plain (OpenSpec.upto epochVerifiesSpec)) epochVerifiesUptoCard
end Rows
end Go.Proofs.YtdlcmpbpdbpanaaGreatDoor
