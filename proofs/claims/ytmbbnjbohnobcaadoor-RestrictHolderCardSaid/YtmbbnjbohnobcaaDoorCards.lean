/-
  DERIVED. GIVEN WITH THE SEED: THE CARDS: each row of YtmbbnjbohnobcaaDoorRows.lean that lists a variable, with what it lists TIED to the program's text (the seventh form; the later family's looks); each row that meets fmt, with fmt's text TOLD by the authors' own Lean function (tested against real Go, not proved from fmt's source: count such statements apart). THE CARD IS WHAT COUNTS. Prove the row's statement (the work); the ties are given (YtmbbnjbohnobcaaDoorTie.lean); close each card by the builder's one call (the guide's Derived/Test/ToyasCard.lean, 'card_holds'). Laid BY PROGRAM, IN A SANDBOX (cutbox-door.mjs). By AI agents, Wed Nov 11 2026. No macro, syntax, notation, axiom, sorry.
-/
import Derived.Test.YtmbbnjbohnobcaaDoorRows
import GoSem.ClaimSeven
namespace Go.Proofs.YtmbbnjbohnobcaaDoor
namespace Rows

/-- THE TIED CARD OF 'specielaw12.ProductParts'. -/
def productPartsCard : Claim7 := { stood := { row := productPartsRow, standIns := [], harness := (true, "2aac8e9ec10651bcfb6eb6d8a8292115378340f99b7d549602955cf99d74f2b3"), looks := false }, kinds := [], alts := [], laidByText := true, laidKinds := [.data, .data], laidTests := true, laidLooks := .later }
def ProductPartsCardSaid : Prop := Claim7.holds Tryd.pinned (.plain (OpenSpec.ofChange productPartsSpec)) productPartsCard

/-- THE TIED CARD OF 'specielaw25.RestrictKeys'. -/
def restrictKeysCard : Claim7 := { stood := { row := restrictKeysRow, standIns := [], harness := (true, "2aac8e9ec10651bcfb6eb6d8a8292115378340f99b7d549602955cf99d74f2b3"), looks := false }, kinds := [], alts := [], laidByText := true, laidKinds := [.data, .data], laidTests := true, laidLooks := .later }
def RestrictKeysCardSaid : Prop := Claim7.holds Tryd.pinned (.plain (OpenSpec.ofChange restrictKeysSpec)) restrictKeysCard

/-- THE TIED CARD OF 'specielaw25.RestrictUnblinds'. -/
def restrictUnblindsCard : Claim7 := { stood := { row := restrictUnblindsRow, standIns := [], harness := (true, "2aac8e9ec10651bcfb6eb6d8a8292115378340f99b7d549602955cf99d74f2b3"), looks := false }, kinds := [], alts := [], laidByText := true, laidKinds := [.data, .data], laidTests := true, laidLooks := .later }
def RestrictUnblindsCardSaid : Prop := Claim7.holds Tryd.pinned (.plain (OpenSpec.ofChange restrictUnblindsSpec)) restrictUnblindsCard

/-- THE TIED CARD OF 'specielaw09.DrawPowers'. -/
def drawPowersCard : Claim7 := { stood := { row := drawPowersRow, standIns := [], harness := (true, "2aac8e9ec10651bcfb6eb6d8a8292115378340f99b7d549602955cf99d74f2b3"), looks := false }, kinds := [], alts := [], laidByText := true, laidKinds := [.data, .data], laidTests := true, laidLooks := .later }
def DrawPowersCardSaid : Prop := Claim7.holds Tryd.pinned (.plain (OpenSpec.ofChange drawPowersSpec)) drawPowersCard

/-- THE TIED CARD OF 'specielaw09.DrawForks'. -/
def drawForksCard : Claim7 := { stood := { row := drawForksRow, standIns := [], harness := (true, "2aac8e9ec10651bcfb6eb6d8a8292115378340f99b7d549602955cf99d74f2b3"), looks := false }, kinds := [], alts := [], laidByText := true, laidKinds := [.data, .data], laidTests := true, laidLooks := .later }
def DrawForksCardSaid : Prop := Claim7.holds Tryd.pinned (.plain (OpenSpec.ofChange drawForksSpec)) drawForksCard

/-- THE TIED CARD OF 'specielaw09.DrawJoins'. -/
def drawJoinsCard : Claim7 := { stood := { row := drawJoinsRow, standIns := [], harness := (true, "2aac8e9ec10651bcfb6eb6d8a8292115378340f99b7d549602955cf99d74f2b3"), looks := false }, kinds := [], alts := [], laidByText := true, laidKinds := [.data, .data], laidTests := true, laidLooks := .later }
def DrawJoinsCardSaid : Prop := Claim7.holds Tryd.pinned (.plain (OpenSpec.ofChange drawJoinsSpec)) drawJoinsCard

/-- THE TIED CARD OF 'specielaw25.RestrictHolder'. -/
def restrictHolderCard : Claim7 := { stood := { row := restrictHolderRow, standIns := [], harness := (true, "2aac8e9ec10651bcfb6eb6d8a8292115378340f99b7d549602955cf99d74f2b3"), looks := false }, kinds := [], alts := [], laidByText := true, laidKinds := [.data, .data, .data, .data], laidTests := true, laidLooks := .later }
def RestrictHolderCardSaid : Prop := Claim7.holds Tryd.pinned (.plain (OpenSpec.ofChange restrictHolderSpec)) restrictHolderCard

/-- THE TIED CARD OF 'specielaw25.RestrictChallenges'. -/
def restrictChallengesCard : Claim7 := { stood := { row := restrictChallengesRow, standIns := [], harness := (true, "2aac8e9ec10651bcfb6eb6d8a8292115378340f99b7d549602955cf99d74f2b3"), looks := false }, kinds := [], alts := [], laidByText := true, laidKinds := [.data, .data, .data, .data], laidTests := true, laidLooks := .later }
def RestrictChallengesCardSaid : Prop := Claim7.holds Tryd.pinned (.plain (OpenSpec.ofChange restrictChallengesSpec)) restrictChallengesCard

/-- THE TIED CARD OF 'specielaw22.SignatureFits'. -/
def signatureFitsCard : Claim7 := { stood := { row := signatureFitsRow, standIns := [], harness := (true, "2aac8e9ec10651bcfb6eb6d8a8292115378340f99b7d549602955cf99d74f2b3"), looks := false }, kinds := [], alts := [], laidByText := true, laidKinds := [.data, .data, .data, .data], laidTests := true, laidLooks := .later }
def SignatureFitsCardSaid : Prop := Claim7.holds Tryd.pinned (.plain (OpenSpec.ofChange signatureFitsSpec)) signatureFitsCard

/-- THE SECOND FORM's CARD OF 'specielaw12.ProductParts'. -/
def productPartsUptoCard : Claim7 := { stood := { row := productPartsUptoRow, standIns := [], harness := (true, "2aac8e9ec10651bcfb6eb6d8a8292115378340f99b7d549602955cf99d74f2b3"), looks := false }, kinds := [], alts := [], laidByText := true, laidKinds := [.data, .data], laidTests := true, laidLooks := .later }
def ProductPartsUptoCardSaid : Prop := Claim7.holds Tryd.pinned (.plain (OpenSpec.upto productPartsSpec)) productPartsUptoCard

/-- THE SECOND FORM's CARD OF 'specielaw25.RestrictKeys'. -/
def restrictKeysUptoCard : Claim7 := { stood := { row := restrictKeysUptoRow, standIns := [], harness := (true, "2aac8e9ec10651bcfb6eb6d8a8292115378340f99b7d549602955cf99d74f2b3"), looks := false }, kinds := [], alts := [], laidByText := true, laidKinds := [.data, .data], laidTests := true, laidLooks := .later }
def RestrictKeysUptoCardSaid : Prop := Claim7.holds Tryd.pinned (.plain (OpenSpec.upto restrictKeysSpec)) restrictKeysUptoCard

/-- THE SECOND FORM's CARD OF 'specielaw25.RestrictUnblinds'. -/
def restrictUnblindsUptoCard : Claim7 := { stood := { row := restrictUnblindsUptoRow, standIns := [], harness := (true, "2aac8e9ec10651bcfb6eb6d8a8292115378340f99b7d549602955cf99d74f2b3"), looks := false }, kinds := [], alts := [], laidByText := true, laidKinds := [.data, .data], laidTests := true, laidLooks := .later }
def RestrictUnblindsUptoCardSaid : Prop := Claim7.holds Tryd.pinned (.plain (OpenSpec.upto restrictUnblindsSpec)) restrictUnblindsUptoCard

/-- THE SECOND FORM's CARD OF 'specielaw09.DrawPowers'. -/
def drawPowersUptoCard : Claim7 := { stood := { row := drawPowersUptoRow, standIns := [], harness := (true, "2aac8e9ec10651bcfb6eb6d8a8292115378340f99b7d549602955cf99d74f2b3"), looks := false }, kinds := [], alts := [], laidByText := true, laidKinds := [.data, .data], laidTests := true, laidLooks := .later }
def DrawPowersUptoCardSaid : Prop := Claim7.holds Tryd.pinned (.plain (OpenSpec.upto drawPowersSpec)) drawPowersUptoCard

/-- THE SECOND FORM's CARD OF 'specielaw09.DrawForks'. -/
def drawForksUptoCard : Claim7 := { stood := { row := drawForksUptoRow, standIns := [], harness := (true, "2aac8e9ec10651bcfb6eb6d8a8292115378340f99b7d549602955cf99d74f2b3"), looks := false }, kinds := [], alts := [], laidByText := true, laidKinds := [.data, .data], laidTests := true, laidLooks := .later }
def DrawForksUptoCardSaid : Prop := Claim7.holds Tryd.pinned (.plain (OpenSpec.upto drawForksSpec)) drawForksUptoCard

/-- THE SECOND FORM's CARD OF 'specielaw09.DrawJoins'. -/
def drawJoinsUptoCard : Claim7 := { stood := { row := drawJoinsUptoRow, standIns := [], harness := (true, "2aac8e9ec10651bcfb6eb6d8a8292115378340f99b7d549602955cf99d74f2b3"), looks := false }, kinds := [], alts := [], laidByText := true, laidKinds := [.data, .data], laidTests := true, laidLooks := .later }
def DrawJoinsUptoCardSaid : Prop := Claim7.holds Tryd.pinned (.plain (OpenSpec.upto drawJoinsSpec)) drawJoinsUptoCard

/-- THE SECOND FORM's CARD OF 'specielaw25.RestrictHolder'. -/
def restrictHolderUptoCard : Claim7 := { stood := { row := restrictHolderUptoRow, standIns := [], harness := (true, "2aac8e9ec10651bcfb6eb6d8a8292115378340f99b7d549602955cf99d74f2b3"), looks := false }, kinds := [], alts := [], laidByText := true, laidKinds := [.data, .data, .data, .data], laidTests := true, laidLooks := .later }
def RestrictHolderUptoCardSaid : Prop := Claim7.holds Tryd.pinned (.plain (OpenSpec.upto restrictHolderSpec)) restrictHolderUptoCard

/-- THE SECOND FORM's CARD OF 'specielaw25.RestrictChallenges'. -/
def restrictChallengesUptoCard : Claim7 := { stood := { row := restrictChallengesUptoRow, standIns := [], harness := (true, "2aac8e9ec10651bcfb6eb6d8a8292115378340f99b7d549602955cf99d74f2b3"), looks := false }, kinds := [], alts := [], laidByText := true, laidKinds := [.data, .data, .data, .data], laidTests := true, laidLooks := .later }
def RestrictChallengesUptoCardSaid : Prop := Claim7.holds Tryd.pinned (.plain (OpenSpec.upto restrictChallengesSpec)) restrictChallengesUptoCard

/-- THE SECOND FORM's CARD OF 'specielaw22.SignatureFits'. -/
def signatureFitsUptoCard : Claim7 := { stood := { row := signatureFitsUptoRow, standIns := [], harness := (true, "2aac8e9ec10651bcfb6eb6d8a8292115378340f99b7d549602955cf99d74f2b3"), looks := false }, kinds := [], alts := [], laidByText := true, laidKinds := [.data, .data, .data, .data], laidTests := true, laidLooks := .later }
def SignatureFitsUptoCardSaid : Prop := Claim7.holds Tryd.pinned (.plain (OpenSpec.upto signatureFitsSpec)) signatureFitsUptoCard
end Rows
end Go.Proofs.YtmbbnjbohnobcaaDoor
