/-
  DERIVED. GIVEN WITH THE SEED: THE CARDS: each row of YtldodbffdegmiaaDoorRows.lean that lists a variable, with what it lists TIED to the program's text (the seventh form; the later family's looks); each row that meets fmt, with fmt's text TOLD by the authors' own Lean function (tested against real Go, not proved from fmt's source: count such statements apart). THE CARD IS WHAT COUNTS. Prove the row's statement (the work); the ties are given (YtldodbffdegmiaaDoorTie.lean); close each card by the builder's one call (the guide's Derived/Test/ToyasCard.lean, 'card_holds'). Laid BY PROGRAM, IN A SANDBOX (cutbox-door.mjs). By AI agents, Wed Nov 11 2026. No macro, syntax, notation, axiom, sorry.
-/
import Derived.Test.YtldodbffdegmiaaDoorRows
import GoSem.ClaimSeven
namespace Go.Proofs.YtldodbffdegmiaaDoor
namespace Rows

/-- THE TIED CARD OF 'specielaw10.GroupPowers'. -/
def groupPowersCard : Claim7 := { stood := { row := groupPowersRow, standIns := [], harness := (true, "716b7b2ba437d703e70ced5b86c1c836f889d4ae0f15f40e68e04f807b897302"), looks := false }, kinds := [], alts := [], laidByText := true, laidKinds := [.data, .data], laidTests := true, laidLooks := .later }
def GroupPowersCardSaid : Prop := Claim7.holds Tryd.pinned (.plain (OpenSpec.ofChange groupPowersSpec)) groupPowersCard

/-- THE TIED CARD OF 'specielaw10.GroupProducts'. -/
def groupProductsCard : Claim7 := { stood := { row := groupProductsRow, standIns := [], harness := (true, "716b7b2ba437d703e70ced5b86c1c836f889d4ae0f15f40e68e04f807b897302"), looks := false }, kinds := [], alts := [], laidByText := true, laidKinds := [.data, .data], laidTests := true, laidLooks := .later }
def GroupProductsCardSaid : Prop := Claim7.holds Tryd.pinned (.plain (OpenSpec.ofChange groupProductsSpec)) groupProductsCard

/-- THE TIED CARD OF 'specielaw10.GroupLaws'. -/
def groupLawsCard : Claim7 := { stood := { row := groupLawsRow, standIns := [], harness := (true, "716b7b2ba437d703e70ced5b86c1c836f889d4ae0f15f40e68e04f807b897302"), looks := false }, kinds := [], alts := [], laidByText := true, laidKinds := [.data, .data], laidTests := true, laidLooks := .later }
def GroupLawsCardSaid : Prop := Claim7.holds Tryd.pinned (.plain (OpenSpec.ofChange groupLawsSpec)) groupLawsCard

/-- THE TIED CARD OF 'specielaw10.GroupLists'. -/
def groupListsCard : Claim7 := { stood := { row := groupListsRow, standIns := [], harness := (true, "716b7b2ba437d703e70ced5b86c1c836f889d4ae0f15f40e68e04f807b897302"), looks := false }, kinds := [], alts := [], laidByText := true, laidKinds := [.data, .data], laidTests := true, laidLooks := .later }
def GroupListsCardSaid : Prop := Claim7.holds Tryd.pinned (.plain (OpenSpec.ofChange groupListsSpec)) groupListsCard

/-- THE TIED CARD OF 'specielaw10.GroupInside'. -/
def groupInsideCard : Claim7 := { stood := { row := groupInsideRow, standIns := [], harness := (true, "716b7b2ba437d703e70ced5b86c1c836f889d4ae0f15f40e68e04f807b897302"), looks := false }, kinds := [], alts := [], laidByText := true, laidKinds := [.data, .data], laidTests := true, laidLooks := .later }
def GroupInsideCardSaid : Prop := Claim7.holds Tryd.pinned (.plain (OpenSpec.ofChange groupInsideSpec)) groupInsideCard

/-- THE TIED CARD OF 'specielaw10.GroupOrder'. -/
def groupOrderCard : Claim7 := { stood := { row := groupOrderRow, standIns := [], harness := (true, "716b7b2ba437d703e70ced5b86c1c836f889d4ae0f15f40e68e04f807b897302"), looks := false }, kinds := [], alts := [], laidByText := true, laidKinds := [.data, .data], laidTests := true, laidLooks := .later }
def GroupOrderCardSaid : Prop := Claim7.holds Tryd.pinned (.plain (OpenSpec.ofChange groupOrderSpec)) groupOrderCard

/-- THE TIED CARD OF 'specielaw12.ProductAdds'. -/
def productAddsCard : Claim7 := { stood := { row := productAddsRow, standIns := [], harness := (true, "716b7b2ba437d703e70ced5b86c1c836f889d4ae0f15f40e68e04f807b897302"), looks := false }, kinds := [], alts := [], laidByText := true, laidKinds := [.data, .data], laidTests := true, laidLooks := .later }
def ProductAddsCardSaid : Prop := Claim7.holds Tryd.pinned (.plain (OpenSpec.ofChange productAddsSpec)) productAddsCard

/-- THE TIED CARD OF 'specielaw12.ProductValues'. -/
def productValuesCard : Claim7 := { stood := { row := productValuesRow, standIns := [], harness := (true, "716b7b2ba437d703e70ced5b86c1c836f889d4ae0f15f40e68e04f807b897302"), looks := false }, kinds := [], alts := [], laidByText := true, laidKinds := [.data, .data], laidTests := true, laidLooks := .later }
def ProductValuesCardSaid : Prop := Claim7.holds Tryd.pinned (.plain (OpenSpec.ofChange productValuesSpec)) productValuesCard

/-- THE TIED CARD OF 'specielaw12.ProductTables'. -/
def productTablesCard : Claim7 := { stood := { row := productTablesRow, standIns := [], harness := (true, "716b7b2ba437d703e70ced5b86c1c836f889d4ae0f15f40e68e04f807b897302"), looks := false }, kinds := [], alts := [], laidByText := true, laidKinds := [.data, .data], laidTests := true, laidLooks := .later }
def ProductTablesCardSaid : Prop := Claim7.holds Tryd.pinned (.plain (OpenSpec.ofChange productTablesSpec)) productTablesCard

/-- THE TIED CARD OF 'specielaw12.ProductRows'. -/
def productRowsCard : Claim7 := { stood := { row := productRowsRow, standIns := [], harness := (true, "716b7b2ba437d703e70ced5b86c1c836f889d4ae0f15f40e68e04f807b897302"), looks := false }, kinds := [], alts := [], laidByText := true, laidKinds := [.data, .data], laidTests := true, laidLooks := .later }
def ProductRowsCardSaid : Prop := Claim7.holds Tryd.pinned (.plain (OpenSpec.ofChange productRowsSpec)) productRowsCard

/-- THE TIED CARD OF 'specielaw12.ProductParts'. -/
def productPartsCard : Claim7 := { stood := { row := productPartsRow, standIns := [], harness := (true, "716b7b2ba437d703e70ced5b86c1c836f889d4ae0f15f40e68e04f807b897302"), looks := false }, kinds := [], alts := [], laidByText := true, laidKinds := [.data, .data], laidTests := true, laidLooks := .later }
def ProductPartsCardSaid : Prop := Claim7.holds Tryd.pinned (.plain (OpenSpec.ofChange productPartsSpec)) productPartsCard

/-- THE TIED CARD OF 'specielaw15.PedersenCommits'. -/
def pedersenCommitsCard : Claim7 := { stood := { row := pedersenCommitsRow, standIns := [], harness := (true, "716b7b2ba437d703e70ced5b86c1c836f889d4ae0f15f40e68e04f807b897302"), looks := false }, kinds := [], alts := [], laidByText := true, laidKinds := [.data, .data], laidTests := true, laidLooks := .later }
def PedersenCommitsCardSaid : Prop := Claim7.holds Tryd.pinned (.plain (OpenSpec.ofChange pedersenCommitsSpec)) pedersenCommitsCard

/-- THE TIED CARD OF 'specielaw15.PedersenWeights'. -/
def pedersenWeightsCard : Claim7 := { stood := { row := pedersenWeightsRow, standIns := [], harness := (true, "716b7b2ba437d703e70ced5b86c1c836f889d4ae0f15f40e68e04f807b897302"), looks := false }, kinds := [], alts := [], laidByText := true, laidKinds := [.data, .data], laidTests := true, laidLooks := .later }
def PedersenWeightsCardSaid : Prop := Claim7.holds Tryd.pinned (.plain (OpenSpec.ofChange pedersenWeightsSpec)) pedersenWeightsCard

/-- THE TIED CARD OF 'specielaw15.PedersenAdds'. -/
def pedersenAddsCard : Claim7 := { stood := { row := pedersenAddsRow, standIns := [], harness := (true, "716b7b2ba437d703e70ced5b86c1c836f889d4ae0f15f40e68e04f807b897302"), looks := false }, kinds := [], alts := [], laidByText := true, laidKinds := [.data, .data], laidTests := true, laidLooks := .later }
def PedersenAddsCardSaid : Prop := Claim7.holds Tryd.pinned (.plain (OpenSpec.ofChange pedersenAddsSpec)) pedersenAddsCard

/-- THE TIED CARD OF 'specielaw15.PedersenSums'. -/
def pedersenSumsCard : Claim7 := { stood := { row := pedersenSumsRow, standIns := [], harness := (true, "716b7b2ba437d703e70ced5b86c1c836f889d4ae0f15f40e68e04f807b897302"), looks := false }, kinds := [], alts := [], laidByText := true, laidKinds := [.data, .data], laidTests := true, laidLooks := .later }
def PedersenSumsCardSaid : Prop := Claim7.holds Tryd.pinned (.plain (OpenSpec.ofChange pedersenSumsSpec)) pedersenSumsCard

/-- THE SECOND FORM's CARD OF 'specielaw10.GroupPowers'. -/
def groupPowersUptoCard : Claim7 := { stood := { row := groupPowersUptoRow, standIns := [], harness := (true, "716b7b2ba437d703e70ced5b86c1c836f889d4ae0f15f40e68e04f807b897302"), looks := false }, kinds := [], alts := [], laidByText := true, laidKinds := [.data, .data], laidTests := true, laidLooks := .later }
def GroupPowersUptoCardSaid : Prop := Claim7.holds Tryd.pinned (.plain (OpenSpec.upto groupPowersSpec)) groupPowersUptoCard

/-- THE SECOND FORM's CARD OF 'specielaw10.GroupProducts'. -/
def groupProductsUptoCard : Claim7 := { stood := { row := groupProductsUptoRow, standIns := [], harness := (true, "716b7b2ba437d703e70ced5b86c1c836f889d4ae0f15f40e68e04f807b897302"), looks := false }, kinds := [], alts := [], laidByText := true, laidKinds := [.data, .data], laidTests := true, laidLooks := .later }
def GroupProductsUptoCardSaid : Prop := Claim7.holds Tryd.pinned (.plain (OpenSpec.upto groupProductsSpec)) groupProductsUptoCard

/-- THE SECOND FORM's CARD OF 'specielaw10.GroupLaws'. -/
def groupLawsUptoCard : Claim7 := { stood := { row := groupLawsUptoRow, standIns := [], harness := (true, "716b7b2ba437d703e70ced5b86c1c836f889d4ae0f15f40e68e04f807b897302"), looks := false }, kinds := [], alts := [], laidByText := true, laidKinds := [.data, .data], laidTests := true, laidLooks := .later }
def GroupLawsUptoCardSaid : Prop := Claim7.holds Tryd.pinned (.plain (OpenSpec.upto groupLawsSpec)) groupLawsUptoCard

/-- THE SECOND FORM's CARD OF 'specielaw10.GroupLists'. -/
def groupListsUptoCard : Claim7 := { stood := { row := groupListsUptoRow, standIns := [], harness := (true, "716b7b2ba437d703e70ced5b86c1c836f889d4ae0f15f40e68e04f807b897302"), looks := false }, kinds := [], alts := [], laidByText := true, laidKinds := [.data, .data], laidTests := true, laidLooks := .later }
def GroupListsUptoCardSaid : Prop := Claim7.holds Tryd.pinned (.plain (OpenSpec.upto groupListsSpec)) groupListsUptoCard

/-- THE SECOND FORM's CARD OF 'specielaw10.GroupInside'. -/
def groupInsideUptoCard : Claim7 := { stood := { row := groupInsideUptoRow, standIns := [], harness := (true, "716b7b2ba437d703e70ced5b86c1c836f889d4ae0f15f40e68e04f807b897302"), looks := false }, kinds := [], alts := [], laidByText := true, laidKinds := [.data, .data], laidTests := true, laidLooks := .later }
def GroupInsideUptoCardSaid : Prop := Claim7.holds Tryd.pinned (.plain (OpenSpec.upto groupInsideSpec)) groupInsideUptoCard

/-- THE SECOND FORM's CARD OF 'specielaw10.GroupOrder'. -/
def groupOrderUptoCard : Claim7 := { stood := { row := groupOrderUptoRow, standIns := [], harness := (true, "716b7b2ba437d703e70ced5b86c1c836f889d4ae0f15f40e68e04f807b897302"), looks := false }, kinds := [], alts := [], laidByText := true, laidKinds := [.data, .data], laidTests := true, laidLooks := .later }
def GroupOrderUptoCardSaid : Prop := Claim7.holds Tryd.pinned (.plain (OpenSpec.upto groupOrderSpec)) groupOrderUptoCard

/-- THE SECOND FORM's CARD OF 'specielaw12.ProductAdds'. -/
def productAddsUptoCard : Claim7 := { stood := { row := productAddsUptoRow, standIns := [], harness := (true, "716b7b2ba437d703e70ced5b86c1c836f889d4ae0f15f40e68e04f807b897302"), looks := false }, kinds := [], alts := [], laidByText := true, laidKinds := [.data, .data], laidTests := true, laidLooks := .later }
def ProductAddsUptoCardSaid : Prop := Claim7.holds Tryd.pinned (.plain (OpenSpec.upto productAddsSpec)) productAddsUptoCard

/-- THE SECOND FORM's CARD OF 'specielaw12.ProductValues'. -/
def productValuesUptoCard : Claim7 := { stood := { row := productValuesUptoRow, standIns := [], harness := (true, "716b7b2ba437d703e70ced5b86c1c836f889d4ae0f15f40e68e04f807b897302"), looks := false }, kinds := [], alts := [], laidByText := true, laidKinds := [.data, .data], laidTests := true, laidLooks := .later }
def ProductValuesUptoCardSaid : Prop := Claim7.holds Tryd.pinned (.plain (OpenSpec.upto productValuesSpec)) productValuesUptoCard

/-- THE SECOND FORM's CARD OF 'specielaw12.ProductTables'. -/
def productTablesUptoCard : Claim7 := { stood := { row := productTablesUptoRow, standIns := [], harness := (true, "716b7b2ba437d703e70ced5b86c1c836f889d4ae0f15f40e68e04f807b897302"), looks := false }, kinds := [], alts := [], laidByText := true, laidKinds := [.data, .data], laidTests := true, laidLooks := .later }
def ProductTablesUptoCardSaid : Prop := Claim7.holds Tryd.pinned (.plain (OpenSpec.upto productTablesSpec)) productTablesUptoCard

/-- THE SECOND FORM's CARD OF 'specielaw12.ProductRows'. -/
def productRowsUptoCard : Claim7 := { stood := { row := productRowsUptoRow, standIns := [], harness := (true, "716b7b2ba437d703e70ced5b86c1c836f889d4ae0f15f40e68e04f807b897302"), looks := false }, kinds := [], alts := [], laidByText := true, laidKinds := [.data, .data], laidTests := true, laidLooks := .later }
def ProductRowsUptoCardSaid : Prop := Claim7.holds Tryd.pinned (.plain (OpenSpec.upto productRowsSpec)) productRowsUptoCard

/-- THE SECOND FORM's CARD OF 'specielaw12.ProductParts'. -/
def productPartsUptoCard : Claim7 := { stood := { row := productPartsUptoRow, standIns := [], harness := (true, "716b7b2ba437d703e70ced5b86c1c836f889d4ae0f15f40e68e04f807b897302"), looks := false }, kinds := [], alts := [], laidByText := true, laidKinds := [.data, .data], laidTests := true, laidLooks := .later }
def ProductPartsUptoCardSaid : Prop := Claim7.holds Tryd.pinned (.plain (OpenSpec.upto productPartsSpec)) productPartsUptoCard

/-- THE SECOND FORM's CARD OF 'specielaw15.PedersenCommits'. -/
def pedersenCommitsUptoCard : Claim7 := { stood := { row := pedersenCommitsUptoRow, standIns := [], harness := (true, "716b7b2ba437d703e70ced5b86c1c836f889d4ae0f15f40e68e04f807b897302"), looks := false }, kinds := [], alts := [], laidByText := true, laidKinds := [.data, .data], laidTests := true, laidLooks := .later }
def PedersenCommitsUptoCardSaid : Prop := Claim7.holds Tryd.pinned (.plain (OpenSpec.upto pedersenCommitsSpec)) pedersenCommitsUptoCard

/-- THE SECOND FORM's CARD OF 'specielaw15.PedersenWeights'. -/
def pedersenWeightsUptoCard : Claim7 := { stood := { row := pedersenWeightsUptoRow, standIns := [], harness := (true, "716b7b2ba437d703e70ced5b86c1c836f889d4ae0f15f40e68e04f807b897302"), looks := false }, kinds := [], alts := [], laidByText := true, laidKinds := [.data, .data], laidTests := true, laidLooks := .later }
def PedersenWeightsUptoCardSaid : Prop := Claim7.holds Tryd.pinned (.plain (OpenSpec.upto pedersenWeightsSpec)) pedersenWeightsUptoCard

/-- THE SECOND FORM's CARD OF 'specielaw15.PedersenAdds'. -/
def pedersenAddsUptoCard : Claim7 := { stood := { row := pedersenAddsUptoRow, standIns := [], harness := (true, "716b7b2ba437d703e70ced5b86c1c836f889d4ae0f15f40e68e04f807b897302"), looks := false }, kinds := [], alts := [], laidByText := true, laidKinds := [.data, .data], laidTests := true, laidLooks := .later }
def PedersenAddsUptoCardSaid : Prop := Claim7.holds Tryd.pinned (.plain (OpenSpec.upto pedersenAddsSpec)) pedersenAddsUptoCard

/-- THE SECOND FORM's CARD OF 'specielaw15.PedersenSums'. -/
def pedersenSumsUptoCard : Claim7 := { stood := { row := pedersenSumsUptoRow, standIns := [], harness := (true, "716b7b2ba437d703e70ced5b86c1c836f889d4ae0f15f40e68e04f807b897302"), looks := false }, kinds := [], alts := [], laidByText := true, laidKinds := [.data, .data], laidTests := true, laidLooks := .later }
def PedersenSumsUptoCardSaid : Prop := Claim7.holds Tryd.pinned (.plain (OpenSpec.upto pedersenSumsSpec)) pedersenSumsUptoCard
end Rows
end Go.Proofs.YtldodbffdegmiaaDoor
