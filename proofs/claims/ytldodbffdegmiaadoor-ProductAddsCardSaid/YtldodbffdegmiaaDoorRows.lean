/-
  NARROWER THAN 'FOR EVERY INPUT', by the rows' own cells (each row's printed sentence says how): GroupPowers: laid · GroupProducts: laid · GroupLaws: laid · GroupLists: laid · GroupInside: laid · GroupOrder: laid · ProductAdds: laid · ProductValues: laid · ProductTables: laid · ProductRows: laid · ProductParts: laid · PedersenCommits: laid · PedersenWeights: laid · PedersenAdds: laid · PedersenSums: laid.
  DERIVED. THE GIVEN ROWS OF THIS SEAT. 15 by the template 'for every input the law returns true; each argument reads behind the call as it read before'; 0 by the template 'total and deterministic' (their statements: YtldodbffdegmiaaDoorTotals.lean).
  GIVEN WITH THE SEED: the statements are not yours to turn. If you find one false, say at which input.
  Laid BY PROGRAM, IN A SANDBOX (cutbox-rows.mjs): the forced cells as the released guide's own fill.sh prints them over the translation f4a33897ab0d2b1a… (all of the seat's roots in one cut). By AI agents, Wed Nov 11 2026. No macro, syntax, notation, axiom, sorry.
-/
import Derived.Test.YtldodbffdegmiaaDoorChecked
import GoSem.Claim
import GoSem.ClaimJoined
import GoSem.ClaimMapViews
import Derived.JoinedTies
import Derived.KernelRfl
namespace Go.Proofs.YtldodbffdegmiaaDoor
/- THE CELL 'sum', in the pinned program and in every row, IS THE sha256 OF THE DUMP (.gsa) THAT YtldodbffdegmiaaDoorProg.lean LOADS. Nothing in Lean hashes anything: it is a label: what it is worth is what the hold of that sum in a sandbox is worth. -/
noncomputable def Tryd.pinned : Pinned := { name := "ytldodbffdegmiaadoor", sum := "f4a33897ab0d2b1a3afaccfa50abde41c824dfb5c7e9fe803fbb18cd2a5eae61", checked := Tryd.checked }
namespace Rows
def none {H : Type} : Left H := { results := [], args := [] }

/- WHAT THE LISTED PACKAGE-LEVEL VARIABLES READ AS WHEN THE CALL BEGINS. Each datum BY PROGRAM (the guide's laid-datum.mjs) off the statement by which the dump's own 'gosem.cut.vars' lays the variable. In a bare row this is a premise. The card (YtldodbffdegmiaaDoorCards.lean) ties it to the program's text. -/
def laid_math_bits_deBruijn64tab {H : Type} : DataW H := .agg [.lit (.int .u8 0), .lit (.int .u8 1), .lit (.int .u8 56), .lit (.int .u8 2), .lit (.int .u8 57), .lit (.int .u8 49), .lit (.int .u8 28), .lit (.int .u8 3), .lit (.int .u8 61), .lit (.int .u8 58), .lit (.int .u8 42), .lit (.int .u8 50), .lit (.int .u8 38), .lit (.int .u8 29), .lit (.int .u8 17), .lit (.int .u8 4), .lit (.int .u8 62), .lit (.int .u8 47), .lit (.int .u8 59), .lit (.int .u8 36), .lit (.int .u8 45), .lit (.int .u8 43), .lit (.int .u8 51), .lit (.int .u8 22), .lit (.int .u8 53), .lit (.int .u8 39), .lit (.int .u8 33), .lit (.int .u8 30), .lit (.int .u8 24), .lit (.int .u8 18), .lit (.int .u8 12), .lit (.int .u8 5), .lit (.int .u8 63), .lit (.int .u8 55), .lit (.int .u8 48), .lit (.int .u8 27), .lit (.int .u8 60), .lit (.int .u8 41), .lit (.int .u8 37), .lit (.int .u8 16), .lit (.int .u8 46), .lit (.int .u8 35), .lit (.int .u8 44), .lit (.int .u8 21), .lit (.int .u8 52), .lit (.int .u8 32), .lit (.int .u8 23), .lit (.int .u8 11), .lit (.int .u8 54), .lit (.int .u8 26), .lit (.int .u8 40), .lit (.int .u8 15), .lit (.int .u8 34), .lit (.int .u8 20), .lit (.int .u8 31), .lit (.int .u8 10), .lit (.int .u8 25), .lit (.int .u8 14), .lit (.int .u8 19), .lit (.int .u8 9), .lit (.int .u8 13), .lit (.int .u8 8), .lit (.int .u8 7), .lit (.int .u8 6)]
def laid_specie_prime_bases {H : Type} : DataW H := .agg [.lit (.int .u64 2), .lit (.int .u64 3), .lit (.int .u64 5), .lit (.int .u64 7), .lit (.int .u64 11), .lit (.int .u64 13), .lit (.int .u64 17), .lit (.int .u64 19), .lit (.int .u64 23), .lit (.int .u64 29), .lit (.int .u64 31), .lit (.int .u64 37)]

/-- 'specielaw10.GroupPowers': WHATEVER THE INPUT: true; the input reads as it did. -/
def groupPowersSpec : ChangeSpec := { name := "groupPowers", fn := fun _ => fun
  | [d1, d2, d3, d4] => { results := [.lit (.bool true)], args := [d1, d2, d3, d4] }
  | _ => none }
def groupPowersRow : OpenClaim := { program := "ytldodbffdegmiaadoor", sum := "f4a33897ab0d2b1a3afaccfa50abde41c824dfb5c7e9fe803fbb18cd2a5eae61", func := "specie/specielaw10.GroupPowers", spec := "groupPowers", unfollowed := true, recurses := true, named := ["specie/prime.bases", "math/bits.deBruijn64tab", "math/bits.divideError", "math/bits.overflowError"], apart := false, laid := [("math/bits.deBruijn64tab", laid_math_bits_deBruijn64tab), ("specie/prime.bases", laid_specie_prime_bases)] }
def GroupPowersSaid : Prop := groupPowersRow.holds Tryd.pinned (OpenSpec.ofChange groupPowersSpec)

/-- ITS FALSE NEIGHBOUR: 'it returns false'. Refute it at one input. -/
def groupPowersWrong : ChangeSpec := { name := "groupPowers", fn := fun _ => fun
  | [d1, d2, d3, d4] => { results := [.lit (.bool false)], args := [d1, d2, d3, d4] }
  | _ => none }
def GroupPowersWrongFalsely : Prop := groupPowersRow.holds Tryd.pinned (OpenSpec.ofChange groupPowersWrong)

/-- 'specielaw10.GroupProducts': WHATEVER THE INPUT: true; the input reads as it did. -/
def groupProductsSpec : ChangeSpec := { name := "groupProducts", fn := fun _ => fun
  | [d1, d2, d3, d4] => { results := [.lit (.bool true)], args := [d1, d2, d3, d4] }
  | _ => none }
def groupProductsRow : OpenClaim := { program := "ytldodbffdegmiaadoor", sum := "f4a33897ab0d2b1a3afaccfa50abde41c824dfb5c7e9fe803fbb18cd2a5eae61", func := "specie/specielaw10.GroupProducts", spec := "groupProducts", unfollowed := true, recurses := true, named := ["specie/prime.bases", "math/bits.deBruijn64tab", "math/bits.divideError", "math/bits.overflowError"], apart := false, laid := [("math/bits.deBruijn64tab", laid_math_bits_deBruijn64tab), ("specie/prime.bases", laid_specie_prime_bases)] }
def GroupProductsSaid : Prop := groupProductsRow.holds Tryd.pinned (OpenSpec.ofChange groupProductsSpec)

/-- ITS FALSE NEIGHBOUR: 'it returns false'. Refute it at one input. -/
def groupProductsWrong : ChangeSpec := { name := "groupProducts", fn := fun _ => fun
  | [d1, d2, d3, d4] => { results := [.lit (.bool false)], args := [d1, d2, d3, d4] }
  | _ => none }
def GroupProductsWrongFalsely : Prop := groupProductsRow.holds Tryd.pinned (OpenSpec.ofChange groupProductsWrong)

/-- 'specielaw10.GroupLaws': WHATEVER THE INPUT: true; the input reads as it did. -/
def groupLawsSpec : ChangeSpec := { name := "groupLaws", fn := fun _ => fun
  | [d1, d2, d3, d4] => { results := [.lit (.bool true)], args := [d1, d2, d3, d4] }
  | _ => none }
def groupLawsRow : OpenClaim := { program := "ytldodbffdegmiaadoor", sum := "f4a33897ab0d2b1a3afaccfa50abde41c824dfb5c7e9fe803fbb18cd2a5eae61", func := "specie/specielaw10.GroupLaws", spec := "groupLaws", unfollowed := true, recurses := true, named := ["specie/prime.bases", "math/bits.deBruijn64tab", "math/bits.divideError", "math/bits.overflowError"], apart := false, laid := [("math/bits.deBruijn64tab", laid_math_bits_deBruijn64tab), ("specie/prime.bases", laid_specie_prime_bases)] }
def GroupLawsSaid : Prop := groupLawsRow.holds Tryd.pinned (OpenSpec.ofChange groupLawsSpec)

/-- ITS FALSE NEIGHBOUR: 'it returns false'. Refute it at one input. -/
def groupLawsWrong : ChangeSpec := { name := "groupLaws", fn := fun _ => fun
  | [d1, d2, d3, d4] => { results := [.lit (.bool false)], args := [d1, d2, d3, d4] }
  | _ => none }
def GroupLawsWrongFalsely : Prop := groupLawsRow.holds Tryd.pinned (OpenSpec.ofChange groupLawsWrong)

/-- 'specielaw10.GroupLists': WHATEVER THE INPUT: true; the input reads as it did. -/
def groupListsSpec : ChangeSpec := { name := "groupLists", fn := fun _ => fun
  | [d] => { results := [.lit (.bool true)], args := [d] }
  | _ => none }
def groupListsRow : OpenClaim := { program := "ytldodbffdegmiaadoor", sum := "f4a33897ab0d2b1a3afaccfa50abde41c824dfb5c7e9fe803fbb18cd2a5eae61", func := "specie/specielaw10.GroupLists", spec := "groupLists", unfollowed := true, recurses := true, named := ["specie/prime.bases", "math/bits.deBruijn64tab", "math/bits.divideError", "math/bits.overflowError"], apart := false, laid := [("math/bits.deBruijn64tab", laid_math_bits_deBruijn64tab), ("specie/prime.bases", laid_specie_prime_bases)] }
def GroupListsSaid : Prop := groupListsRow.holds Tryd.pinned (OpenSpec.ofChange groupListsSpec)

/-- ITS FALSE NEIGHBOUR: 'it returns false'. Refute it at one input. -/
def groupListsWrong : ChangeSpec := { name := "groupLists", fn := fun _ => fun
  | [d] => { results := [.lit (.bool false)], args := [d] }
  | _ => none }
def GroupListsWrongFalsely : Prop := groupListsRow.holds Tryd.pinned (OpenSpec.ofChange groupListsWrong)

/-- 'specielaw10.GroupInside': WHATEVER THE INPUT: true; the input reads as it did. -/
def groupInsideSpec : ChangeSpec := { name := "groupInside", fn := fun _ => fun
  | [d1, d2] => { results := [.lit (.bool true)], args := [d1, d2] }
  | _ => none }
def groupInsideRow : OpenClaim := { program := "ytldodbffdegmiaadoor", sum := "f4a33897ab0d2b1a3afaccfa50abde41c824dfb5c7e9fe803fbb18cd2a5eae61", func := "specie/specielaw10.GroupInside", spec := "groupInside", recurses := true, named := ["specie/prime.bases", "math/bits.deBruijn64tab", "math/bits.divideError", "math/bits.overflowError"], apart := false, laid := [("math/bits.deBruijn64tab", laid_math_bits_deBruijn64tab), ("specie/prime.bases", laid_specie_prime_bases)] }
def GroupInsideSaid : Prop := groupInsideRow.holds Tryd.pinned (OpenSpec.ofChange groupInsideSpec)

/-- ITS FALSE NEIGHBOUR: 'it returns false'. Refute it at one input. -/
def groupInsideWrong : ChangeSpec := { name := "groupInside", fn := fun _ => fun
  | [d1, d2] => { results := [.lit (.bool false)], args := [d1, d2] }
  | _ => none }
def GroupInsideWrongFalsely : Prop := groupInsideRow.holds Tryd.pinned (OpenSpec.ofChange groupInsideWrong)

/-- 'specielaw10.GroupOrder': WHATEVER THE INPUT: true; the input reads as it did. -/
def groupOrderSpec : ChangeSpec := { name := "groupOrder", fn := fun _ => fun
  | [d1, d2] => { results := [.lit (.bool true)], args := [d1, d2] }
  | _ => none }
def groupOrderRow : OpenClaim := { program := "ytldodbffdegmiaadoor", sum := "f4a33897ab0d2b1a3afaccfa50abde41c824dfb5c7e9fe803fbb18cd2a5eae61", func := "specie/specielaw10.GroupOrder", spec := "groupOrder", unfollowed := true, recurses := true, named := ["specie/prime.bases", "math/bits.deBruijn64tab", "math/bits.divideError", "math/bits.overflowError"], apart := false, laid := [("math/bits.deBruijn64tab", laid_math_bits_deBruijn64tab), ("specie/prime.bases", laid_specie_prime_bases)] }
def GroupOrderSaid : Prop := groupOrderRow.holds Tryd.pinned (OpenSpec.ofChange groupOrderSpec)

/-- ITS FALSE NEIGHBOUR: 'it returns false'. Refute it at one input. -/
def groupOrderWrong : ChangeSpec := { name := "groupOrder", fn := fun _ => fun
  | [d1, d2] => { results := [.lit (.bool false)], args := [d1, d2] }
  | _ => none }
def GroupOrderWrongFalsely : Prop := groupOrderRow.holds Tryd.pinned (OpenSpec.ofChange groupOrderWrong)

/-- 'specielaw12.ProductAdds': WHATEVER THE INPUT: true; the input reads as it did. -/
def productAddsSpec : ChangeSpec := { name := "productAdds", fn := fun _ => fun
  | [d1, d2, d3, d4, d5] => { results := [.lit (.bool true)], args := [d1, d2, d3, d4, d5] }
  | _ => none }
def productAddsRow : OpenClaim := { program := "ytldodbffdegmiaadoor", sum := "f4a33897ab0d2b1a3afaccfa50abde41c824dfb5c7e9fe803fbb18cd2a5eae61", func := "specie/specielaw12.ProductAdds", spec := "productAdds", unfollowed := true, recurses := true, named := ["specie/prime.bases", "math/bits.deBruijn64tab", "math/bits.divideError", "math/bits.overflowError"], apart := false, laid := [("math/bits.deBruijn64tab", laid_math_bits_deBruijn64tab), ("specie/prime.bases", laid_specie_prime_bases)] }
def ProductAddsSaid : Prop := productAddsRow.holds Tryd.pinned (OpenSpec.ofChange productAddsSpec)

/-- ITS FALSE NEIGHBOUR: 'it returns false'. Refute it at one input. -/
def productAddsWrong : ChangeSpec := { name := "productAdds", fn := fun _ => fun
  | [d1, d2, d3, d4, d5] => { results := [.lit (.bool false)], args := [d1, d2, d3, d4, d5] }
  | _ => none }
def ProductAddsWrongFalsely : Prop := productAddsRow.holds Tryd.pinned (OpenSpec.ofChange productAddsWrong)

/-- 'specielaw12.ProductValues': WHATEVER THE INPUT: true; the input reads as it did. -/
def productValuesSpec : ChangeSpec := { name := "productValues", fn := fun _ => fun
  | [d1, d2, d3, d4, d5] => { results := [.lit (.bool true)], args := [d1, d2, d3, d4, d5] }
  | _ => none }
def productValuesRow : OpenClaim := { program := "ytldodbffdegmiaadoor", sum := "f4a33897ab0d2b1a3afaccfa50abde41c824dfb5c7e9fe803fbb18cd2a5eae61", func := "specie/specielaw12.ProductValues", spec := "productValues", unfollowed := true, recurses := true, named := ["specie/prime.bases", "math/bits.deBruijn64tab", "math/bits.divideError", "math/bits.overflowError"], apart := false, laid := [("math/bits.deBruijn64tab", laid_math_bits_deBruijn64tab), ("specie/prime.bases", laid_specie_prime_bases)] }
def ProductValuesSaid : Prop := productValuesRow.holds Tryd.pinned (OpenSpec.ofChange productValuesSpec)

/-- ITS FALSE NEIGHBOUR: 'it returns false'. Refute it at one input. -/
def productValuesWrong : ChangeSpec := { name := "productValues", fn := fun _ => fun
  | [d1, d2, d3, d4, d5] => { results := [.lit (.bool false)], args := [d1, d2, d3, d4, d5] }
  | _ => none }
def ProductValuesWrongFalsely : Prop := productValuesRow.holds Tryd.pinned (OpenSpec.ofChange productValuesWrong)

/-- 'specielaw12.ProductTables': WHATEVER THE INPUT: true; the input reads as it did. -/
def productTablesSpec : ChangeSpec := { name := "productTables", fn := fun _ => fun
  | [d1, d2, d3, d4] => { results := [.lit (.bool true)], args := [d1, d2, d3, d4] }
  | _ => none }
def productTablesRow : OpenClaim := { program := "ytldodbffdegmiaadoor", sum := "f4a33897ab0d2b1a3afaccfa50abde41c824dfb5c7e9fe803fbb18cd2a5eae61", func := "specie/specielaw12.ProductTables", spec := "productTables", unfollowed := true, recurses := true, named := ["specie/prime.bases", "math/bits.deBruijn64tab", "math/bits.divideError", "math/bits.overflowError"], apart := false, laid := [("math/bits.deBruijn64tab", laid_math_bits_deBruijn64tab), ("specie/prime.bases", laid_specie_prime_bases)] }
def ProductTablesSaid : Prop := productTablesRow.holds Tryd.pinned (OpenSpec.ofChange productTablesSpec)

/-- ITS FALSE NEIGHBOUR: 'it returns false'. Refute it at one input. -/
def productTablesWrong : ChangeSpec := { name := "productTables", fn := fun _ => fun
  | [d1, d2, d3, d4] => { results := [.lit (.bool false)], args := [d1, d2, d3, d4] }
  | _ => none }
def ProductTablesWrongFalsely : Prop := productTablesRow.holds Tryd.pinned (OpenSpec.ofChange productTablesWrong)

/-- 'specielaw12.ProductRows': WHATEVER THE INPUT: true; the input reads as it did. -/
def productRowsSpec : ChangeSpec := { name := "productRows", fn := fun _ => fun
  | [d1, d2, d3] => { results := [.lit (.bool true)], args := [d1, d2, d3] }
  | _ => none }
def productRowsRow : OpenClaim := { program := "ytldodbffdegmiaadoor", sum := "f4a33897ab0d2b1a3afaccfa50abde41c824dfb5c7e9fe803fbb18cd2a5eae61", func := "specie/specielaw12.ProductRows", spec := "productRows", unfollowed := true, recurses := true, named := ["specie/prime.bases", "math/bits.deBruijn64tab", "math/bits.divideError", "math/bits.overflowError"], apart := false, laid := [("math/bits.deBruijn64tab", laid_math_bits_deBruijn64tab), ("specie/prime.bases", laid_specie_prime_bases)] }
def ProductRowsSaid : Prop := productRowsRow.holds Tryd.pinned (OpenSpec.ofChange productRowsSpec)

/-- ITS FALSE NEIGHBOUR: 'it returns false'. Refute it at one input. -/
def productRowsWrong : ChangeSpec := { name := "productRows", fn := fun _ => fun
  | [d1, d2, d3] => { results := [.lit (.bool false)], args := [d1, d2, d3] }
  | _ => none }
def ProductRowsWrongFalsely : Prop := productRowsRow.holds Tryd.pinned (OpenSpec.ofChange productRowsWrong)

/-- 'specielaw12.ProductParts': WHATEVER THE INPUT: true; the input reads as it did. -/
def productPartsSpec : ChangeSpec := { name := "productParts", fn := fun _ => fun
  | [d1, d2, d3, d4] => { results := [.lit (.bool true)], args := [d1, d2, d3, d4] }
  | _ => none }
def productPartsRow : OpenClaim := { program := "ytldodbffdegmiaadoor", sum := "f4a33897ab0d2b1a3afaccfa50abde41c824dfb5c7e9fe803fbb18cd2a5eae61", func := "specie/specielaw12.ProductParts", spec := "productParts", unfollowed := true, recurses := true, named := ["specie/prime.bases", "math/bits.deBruijn64tab", "math/bits.divideError", "math/bits.overflowError"], apart := false, laid := [("math/bits.deBruijn64tab", laid_math_bits_deBruijn64tab), ("specie/prime.bases", laid_specie_prime_bases)] }
def ProductPartsSaid : Prop := productPartsRow.holds Tryd.pinned (OpenSpec.ofChange productPartsSpec)

/-- ITS FALSE NEIGHBOUR: 'it returns false'. Refute it at one input. -/
def productPartsWrong : ChangeSpec := { name := "productParts", fn := fun _ => fun
  | [d1, d2, d3, d4] => { results := [.lit (.bool false)], args := [d1, d2, d3, d4] }
  | _ => none }
def ProductPartsWrongFalsely : Prop := productPartsRow.holds Tryd.pinned (OpenSpec.ofChange productPartsWrong)

/-- 'specielaw15.PedersenCommits': WHATEVER THE INPUT: true; the input reads as it did. -/
def pedersenCommitsSpec : ChangeSpec := { name := "pedersenCommits", fn := fun _ => fun
  | [d1, d2, d3, d4] => { results := [.lit (.bool true)], args := [d1, d2, d3, d4] }
  | _ => none }
def pedersenCommitsRow : OpenClaim := { program := "ytldodbffdegmiaadoor", sum := "f4a33897ab0d2b1a3afaccfa50abde41c824dfb5c7e9fe803fbb18cd2a5eae61", func := "specie/specielaw15.PedersenCommits", spec := "pedersenCommits", unfollowed := true, recurses := true, named := ["specie/prime.bases", "math/bits.deBruijn64tab", "math/bits.divideError", "math/bits.overflowError"], apart := false, laid := [("math/bits.deBruijn64tab", laid_math_bits_deBruijn64tab), ("specie/prime.bases", laid_specie_prime_bases)] }
def PedersenCommitsSaid : Prop := pedersenCommitsRow.holds Tryd.pinned (OpenSpec.ofChange pedersenCommitsSpec)

/-- ITS FALSE NEIGHBOUR: 'it returns false'. Refute it at one input. -/
def pedersenCommitsWrong : ChangeSpec := { name := "pedersenCommits", fn := fun _ => fun
  | [d1, d2, d3, d4] => { results := [.lit (.bool false)], args := [d1, d2, d3, d4] }
  | _ => none }
def PedersenCommitsWrongFalsely : Prop := pedersenCommitsRow.holds Tryd.pinned (OpenSpec.ofChange pedersenCommitsWrong)

/-- 'specielaw15.PedersenWeights': WHATEVER THE INPUT: true; the input reads as it did. -/
def pedersenWeightsSpec : ChangeSpec := { name := "pedersenWeights", fn := fun _ => fun
  | [d1, d2, d3, d4] => { results := [.lit (.bool true)], args := [d1, d2, d3, d4] }
  | _ => none }
def pedersenWeightsRow : OpenClaim := { program := "ytldodbffdegmiaadoor", sum := "f4a33897ab0d2b1a3afaccfa50abde41c824dfb5c7e9fe803fbb18cd2a5eae61", func := "specie/specielaw15.PedersenWeights", spec := "pedersenWeights", unfollowed := true, recurses := true, named := ["specie/prime.bases", "math/bits.deBruijn64tab", "math/bits.divideError", "math/bits.overflowError"], apart := false, laid := [("math/bits.deBruijn64tab", laid_math_bits_deBruijn64tab), ("specie/prime.bases", laid_specie_prime_bases)] }
def PedersenWeightsSaid : Prop := pedersenWeightsRow.holds Tryd.pinned (OpenSpec.ofChange pedersenWeightsSpec)

/-- ITS FALSE NEIGHBOUR: 'it returns false'. Refute it at one input. -/
def pedersenWeightsWrong : ChangeSpec := { name := "pedersenWeights", fn := fun _ => fun
  | [d1, d2, d3, d4] => { results := [.lit (.bool false)], args := [d1, d2, d3, d4] }
  | _ => none }
def PedersenWeightsWrongFalsely : Prop := pedersenWeightsRow.holds Tryd.pinned (OpenSpec.ofChange pedersenWeightsWrong)

/-- 'specielaw15.PedersenAdds': WHATEVER THE INPUT: true; the input reads as it did. -/
def pedersenAddsSpec : ChangeSpec := { name := "pedersenAdds", fn := fun _ => fun
  | [d1, d2, d3, d4, d5, d6] => { results := [.lit (.bool true)], args := [d1, d2, d3, d4, d5, d6] }
  | _ => none }
def pedersenAddsRow : OpenClaim := { program := "ytldodbffdegmiaadoor", sum := "f4a33897ab0d2b1a3afaccfa50abde41c824dfb5c7e9fe803fbb18cd2a5eae61", func := "specie/specielaw15.PedersenAdds", spec := "pedersenAdds", unfollowed := true, recurses := true, named := ["specie/prime.bases", "math/bits.deBruijn64tab", "math/bits.divideError", "math/bits.overflowError"], apart := false, laid := [("math/bits.deBruijn64tab", laid_math_bits_deBruijn64tab), ("specie/prime.bases", laid_specie_prime_bases)] }
def PedersenAddsSaid : Prop := pedersenAddsRow.holds Tryd.pinned (OpenSpec.ofChange pedersenAddsSpec)

/-- ITS FALSE NEIGHBOUR: 'it returns false'. Refute it at one input. -/
def pedersenAddsWrong : ChangeSpec := { name := "pedersenAdds", fn := fun _ => fun
  | [d1, d2, d3, d4, d5, d6] => { results := [.lit (.bool false)], args := [d1, d2, d3, d4, d5, d6] }
  | _ => none }
def PedersenAddsWrongFalsely : Prop := pedersenAddsRow.holds Tryd.pinned (OpenSpec.ofChange pedersenAddsWrong)

/-- 'specielaw15.PedersenSums': WHATEVER THE INPUT: true; the input reads as it did. -/
def pedersenSumsSpec : ChangeSpec := { name := "pedersenSums", fn := fun _ => fun
  | [d1, d2, d3, d4, d5, d6] => { results := [.lit (.bool true)], args := [d1, d2, d3, d4, d5, d6] }
  | _ => none }
def pedersenSumsRow : OpenClaim := { program := "ytldodbffdegmiaadoor", sum := "f4a33897ab0d2b1a3afaccfa50abde41c824dfb5c7e9fe803fbb18cd2a5eae61", func := "specie/specielaw15.PedersenSums", spec := "pedersenSums", unfollowed := true, recurses := true, named := ["specie/prime.bases", "math/bits.deBruijn64tab", "math/bits.divideError", "math/bits.overflowError"], apart := false, laid := [("math/bits.deBruijn64tab", laid_math_bits_deBruijn64tab), ("specie/prime.bases", laid_specie_prime_bases)] }
def PedersenSumsSaid : Prop := pedersenSumsRow.holds Tryd.pinned (OpenSpec.ofChange pedersenSumsSpec)

/-- ITS FALSE NEIGHBOUR: 'it returns false'. Refute it at one input. -/
def pedersenSumsWrong : ChangeSpec := { name := "pedersenSums", fn := fun _ => fun
  | [d1, d2, d3, d4, d5, d6] => { results := [.lit (.bool false)], args := [d1, d2, d3, d4, d5, d6] }
  | _ => none }
def PedersenSumsWrongFalsely : Prop := pedersenSumsRow.holds Tryd.pinned (OpenSpec.ofChange pedersenSumsWrong)

/- THE SECOND FORM. 'bulk': how many values and letters a reading holds, each counted each time it is reached (what is shared counts as often as it is met; a slice's spare places count too). A statement '..UptoSaid' is the law's where the arguments, and the package variables that the reading takes, are together of bulk at most 1048576: NARROWER than '..Said'. Prove '..Said' where nothing that the law and all that it calls make is longer than what came in: it says more and counts as full. Else prove '..UptoSaid'. A law counts once. -/
mutual
def uptoBulk {H : Type} : DataW H → Nat
  | .lit (.string bytes) => bytes.length + 1
  | .lit _ => 1
  | .nil => 1
  | .ptr d => uptoBulk d + 1
  | .slice elems spare => uptoBulkAll elems + uptoBulkAll spare + 1
  | .agg parts => uptoBulkAll parts + 1
  | .iface _ d => uptoBulk d + 1
  | .map entries => uptoBulkEntries entries + 1
  | .held _ => 1
def uptoBulkAll {H : Type} : List (DataW H) → Nat
  | [] => 0
  | d :: r => uptoBulk d + uptoBulkAll r
def uptoBulkEntries {H : Type} : List (Lit × DataW H) → Nat
  | [] => 0
  | x :: r => uptoBulkEntry x + uptoBulkEntries r
def uptoBulkEntry {H : Type} : Lit × DataW H → Nat
  | (.string bytes, d) => bytes.length + uptoBulk d + 1
  | (_, d) => uptoBulk d + 1
 end
def uptoSmall : (H : Type) → List (DataW H) → Bool := fun _ ds => decide (uptoBulkAll ds ≤ 1048576)
def OpenSpec.upto (s : _root_.Go.ChangeSpec) : _root_.Go.OpenSpec := { _root_.Go.OpenSpec.ofChange s with cond := some uptoSmall }

/-- 'specielaw10.GroupPowers', WHERE WHAT IT READS IS OF BULK AT MOST 1048576: true; the input reads as it did. -/
def groupPowersUptoRow : OpenClaim := { program := "ytldodbffdegmiaadoor", sum := "f4a33897ab0d2b1a3afaccfa50abde41c824dfb5c7e9fe803fbb18cd2a5eae61", func := "specie/specielaw10.GroupPowers", spec := "groupPowers", unfollowed := true, recurses := true, named := ["specie/prime.bases", "math/bits.deBruijn64tab", "math/bits.divideError", "math/bits.overflowError"], apart := false, laid := [("math/bits.deBruijn64tab", laid_math_bits_deBruijn64tab), ("specie/prime.bases", laid_specie_prime_bases)], narrowed := true }
def GroupPowersUptoSaid : Prop := groupPowersUptoRow.holds Tryd.pinned (OpenSpec.upto groupPowersSpec)

/-- 'specielaw10.GroupProducts', WHERE WHAT IT READS IS OF BULK AT MOST 1048576: true; the input reads as it did. -/
def groupProductsUptoRow : OpenClaim := { program := "ytldodbffdegmiaadoor", sum := "f4a33897ab0d2b1a3afaccfa50abde41c824dfb5c7e9fe803fbb18cd2a5eae61", func := "specie/specielaw10.GroupProducts", spec := "groupProducts", unfollowed := true, recurses := true, named := ["specie/prime.bases", "math/bits.deBruijn64tab", "math/bits.divideError", "math/bits.overflowError"], apart := false, laid := [("math/bits.deBruijn64tab", laid_math_bits_deBruijn64tab), ("specie/prime.bases", laid_specie_prime_bases)], narrowed := true }
def GroupProductsUptoSaid : Prop := groupProductsUptoRow.holds Tryd.pinned (OpenSpec.upto groupProductsSpec)

/-- 'specielaw10.GroupLaws', WHERE WHAT IT READS IS OF BULK AT MOST 1048576: true; the input reads as it did. -/
def groupLawsUptoRow : OpenClaim := { program := "ytldodbffdegmiaadoor", sum := "f4a33897ab0d2b1a3afaccfa50abde41c824dfb5c7e9fe803fbb18cd2a5eae61", func := "specie/specielaw10.GroupLaws", spec := "groupLaws", unfollowed := true, recurses := true, named := ["specie/prime.bases", "math/bits.deBruijn64tab", "math/bits.divideError", "math/bits.overflowError"], apart := false, laid := [("math/bits.deBruijn64tab", laid_math_bits_deBruijn64tab), ("specie/prime.bases", laid_specie_prime_bases)], narrowed := true }
def GroupLawsUptoSaid : Prop := groupLawsUptoRow.holds Tryd.pinned (OpenSpec.upto groupLawsSpec)

/-- 'specielaw10.GroupLists', WHERE WHAT IT READS IS OF BULK AT MOST 1048576: true; the input reads as it did. -/
def groupListsUptoRow : OpenClaim := { program := "ytldodbffdegmiaadoor", sum := "f4a33897ab0d2b1a3afaccfa50abde41c824dfb5c7e9fe803fbb18cd2a5eae61", func := "specie/specielaw10.GroupLists", spec := "groupLists", unfollowed := true, recurses := true, named := ["specie/prime.bases", "math/bits.deBruijn64tab", "math/bits.divideError", "math/bits.overflowError"], apart := false, laid := [("math/bits.deBruijn64tab", laid_math_bits_deBruijn64tab), ("specie/prime.bases", laid_specie_prime_bases)], narrowed := true }
def GroupListsUptoSaid : Prop := groupListsUptoRow.holds Tryd.pinned (OpenSpec.upto groupListsSpec)

/-- 'specielaw10.GroupInside', WHERE WHAT IT READS IS OF BULK AT MOST 1048576: true; the input reads as it did. -/
def groupInsideUptoRow : OpenClaim := { program := "ytldodbffdegmiaadoor", sum := "f4a33897ab0d2b1a3afaccfa50abde41c824dfb5c7e9fe803fbb18cd2a5eae61", func := "specie/specielaw10.GroupInside", spec := "groupInside", recurses := true, named := ["specie/prime.bases", "math/bits.deBruijn64tab", "math/bits.divideError", "math/bits.overflowError"], apart := false, laid := [("math/bits.deBruijn64tab", laid_math_bits_deBruijn64tab), ("specie/prime.bases", laid_specie_prime_bases)], narrowed := true }
def GroupInsideUptoSaid : Prop := groupInsideUptoRow.holds Tryd.pinned (OpenSpec.upto groupInsideSpec)

/-- 'specielaw10.GroupOrder', WHERE WHAT IT READS IS OF BULK AT MOST 1048576: true; the input reads as it did. -/
def groupOrderUptoRow : OpenClaim := { program := "ytldodbffdegmiaadoor", sum := "f4a33897ab0d2b1a3afaccfa50abde41c824dfb5c7e9fe803fbb18cd2a5eae61", func := "specie/specielaw10.GroupOrder", spec := "groupOrder", unfollowed := true, recurses := true, named := ["specie/prime.bases", "math/bits.deBruijn64tab", "math/bits.divideError", "math/bits.overflowError"], apart := false, laid := [("math/bits.deBruijn64tab", laid_math_bits_deBruijn64tab), ("specie/prime.bases", laid_specie_prime_bases)], narrowed := true }
def GroupOrderUptoSaid : Prop := groupOrderUptoRow.holds Tryd.pinned (OpenSpec.upto groupOrderSpec)

/-- 'specielaw12.ProductAdds', WHERE WHAT IT READS IS OF BULK AT MOST 1048576: true; the input reads as it did. -/
def productAddsUptoRow : OpenClaim := { program := "ytldodbffdegmiaadoor", sum := "f4a33897ab0d2b1a3afaccfa50abde41c824dfb5c7e9fe803fbb18cd2a5eae61", func := "specie/specielaw12.ProductAdds", spec := "productAdds", unfollowed := true, recurses := true, named := ["specie/prime.bases", "math/bits.deBruijn64tab", "math/bits.divideError", "math/bits.overflowError"], apart := false, laid := [("math/bits.deBruijn64tab", laid_math_bits_deBruijn64tab), ("specie/prime.bases", laid_specie_prime_bases)], narrowed := true }
def ProductAddsUptoSaid : Prop := productAddsUptoRow.holds Tryd.pinned (OpenSpec.upto productAddsSpec)

/-- 'specielaw12.ProductValues', WHERE WHAT IT READS IS OF BULK AT MOST 1048576: true; the input reads as it did. -/
def productValuesUptoRow : OpenClaim := { program := "ytldodbffdegmiaadoor", sum := "f4a33897ab0d2b1a3afaccfa50abde41c824dfb5c7e9fe803fbb18cd2a5eae61", func := "specie/specielaw12.ProductValues", spec := "productValues", unfollowed := true, recurses := true, named := ["specie/prime.bases", "math/bits.deBruijn64tab", "math/bits.divideError", "math/bits.overflowError"], apart := false, laid := [("math/bits.deBruijn64tab", laid_math_bits_deBruijn64tab), ("specie/prime.bases", laid_specie_prime_bases)], narrowed := true }
def ProductValuesUptoSaid : Prop := productValuesUptoRow.holds Tryd.pinned (OpenSpec.upto productValuesSpec)

/-- 'specielaw12.ProductTables', WHERE WHAT IT READS IS OF BULK AT MOST 1048576: true; the input reads as it did. -/
def productTablesUptoRow : OpenClaim := { program := "ytldodbffdegmiaadoor", sum := "f4a33897ab0d2b1a3afaccfa50abde41c824dfb5c7e9fe803fbb18cd2a5eae61", func := "specie/specielaw12.ProductTables", spec := "productTables", unfollowed := true, recurses := true, named := ["specie/prime.bases", "math/bits.deBruijn64tab", "math/bits.divideError", "math/bits.overflowError"], apart := false, laid := [("math/bits.deBruijn64tab", laid_math_bits_deBruijn64tab), ("specie/prime.bases", laid_specie_prime_bases)], narrowed := true }
def ProductTablesUptoSaid : Prop := productTablesUptoRow.holds Tryd.pinned (OpenSpec.upto productTablesSpec)

/-- 'specielaw12.ProductRows', WHERE WHAT IT READS IS OF BULK AT MOST 1048576: true; the input reads as it did. -/
def productRowsUptoRow : OpenClaim := { program := "ytldodbffdegmiaadoor", sum := "f4a33897ab0d2b1a3afaccfa50abde41c824dfb5c7e9fe803fbb18cd2a5eae61", func := "specie/specielaw12.ProductRows", spec := "productRows", unfollowed := true, recurses := true, named := ["specie/prime.bases", "math/bits.deBruijn64tab", "math/bits.divideError", "math/bits.overflowError"], apart := false, laid := [("math/bits.deBruijn64tab", laid_math_bits_deBruijn64tab), ("specie/prime.bases", laid_specie_prime_bases)], narrowed := true }
def ProductRowsUptoSaid : Prop := productRowsUptoRow.holds Tryd.pinned (OpenSpec.upto productRowsSpec)

/-- 'specielaw12.ProductParts', WHERE WHAT IT READS IS OF BULK AT MOST 1048576: true; the input reads as it did. -/
def productPartsUptoRow : OpenClaim := { program := "ytldodbffdegmiaadoor", sum := "f4a33897ab0d2b1a3afaccfa50abde41c824dfb5c7e9fe803fbb18cd2a5eae61", func := "specie/specielaw12.ProductParts", spec := "productParts", unfollowed := true, recurses := true, named := ["specie/prime.bases", "math/bits.deBruijn64tab", "math/bits.divideError", "math/bits.overflowError"], apart := false, laid := [("math/bits.deBruijn64tab", laid_math_bits_deBruijn64tab), ("specie/prime.bases", laid_specie_prime_bases)], narrowed := true }
def ProductPartsUptoSaid : Prop := productPartsUptoRow.holds Tryd.pinned (OpenSpec.upto productPartsSpec)

/-- 'specielaw15.PedersenCommits', WHERE WHAT IT READS IS OF BULK AT MOST 1048576: true; the input reads as it did. -/
def pedersenCommitsUptoRow : OpenClaim := { program := "ytldodbffdegmiaadoor", sum := "f4a33897ab0d2b1a3afaccfa50abde41c824dfb5c7e9fe803fbb18cd2a5eae61", func := "specie/specielaw15.PedersenCommits", spec := "pedersenCommits", unfollowed := true, recurses := true, named := ["specie/prime.bases", "math/bits.deBruijn64tab", "math/bits.divideError", "math/bits.overflowError"], apart := false, laid := [("math/bits.deBruijn64tab", laid_math_bits_deBruijn64tab), ("specie/prime.bases", laid_specie_prime_bases)], narrowed := true }
def PedersenCommitsUptoSaid : Prop := pedersenCommitsUptoRow.holds Tryd.pinned (OpenSpec.upto pedersenCommitsSpec)

/-- 'specielaw15.PedersenWeights', WHERE WHAT IT READS IS OF BULK AT MOST 1048576: true; the input reads as it did. -/
def pedersenWeightsUptoRow : OpenClaim := { program := "ytldodbffdegmiaadoor", sum := "f4a33897ab0d2b1a3afaccfa50abde41c824dfb5c7e9fe803fbb18cd2a5eae61", func := "specie/specielaw15.PedersenWeights", spec := "pedersenWeights", unfollowed := true, recurses := true, named := ["specie/prime.bases", "math/bits.deBruijn64tab", "math/bits.divideError", "math/bits.overflowError"], apart := false, laid := [("math/bits.deBruijn64tab", laid_math_bits_deBruijn64tab), ("specie/prime.bases", laid_specie_prime_bases)], narrowed := true }
def PedersenWeightsUptoSaid : Prop := pedersenWeightsUptoRow.holds Tryd.pinned (OpenSpec.upto pedersenWeightsSpec)

/-- 'specielaw15.PedersenAdds', WHERE WHAT IT READS IS OF BULK AT MOST 1048576: true; the input reads as it did. -/
def pedersenAddsUptoRow : OpenClaim := { program := "ytldodbffdegmiaadoor", sum := "f4a33897ab0d2b1a3afaccfa50abde41c824dfb5c7e9fe803fbb18cd2a5eae61", func := "specie/specielaw15.PedersenAdds", spec := "pedersenAdds", unfollowed := true, recurses := true, named := ["specie/prime.bases", "math/bits.deBruijn64tab", "math/bits.divideError", "math/bits.overflowError"], apart := false, laid := [("math/bits.deBruijn64tab", laid_math_bits_deBruijn64tab), ("specie/prime.bases", laid_specie_prime_bases)], narrowed := true }
def PedersenAddsUptoSaid : Prop := pedersenAddsUptoRow.holds Tryd.pinned (OpenSpec.upto pedersenAddsSpec)

/-- 'specielaw15.PedersenSums', WHERE WHAT IT READS IS OF BULK AT MOST 1048576: true; the input reads as it did. -/
def pedersenSumsUptoRow : OpenClaim := { program := "ytldodbffdegmiaadoor", sum := "f4a33897ab0d2b1a3afaccfa50abde41c824dfb5c7e9fe803fbb18cd2a5eae61", func := "specie/specielaw15.PedersenSums", spec := "pedersenSums", unfollowed := true, recurses := true, named := ["specie/prime.bases", "math/bits.deBruijn64tab", "math/bits.divideError", "math/bits.overflowError"], apart := false, laid := [("math/bits.deBruijn64tab", laid_math_bits_deBruijn64tab), ("specie/prime.bases", laid_specie_prime_bases)], narrowed := true }
def PedersenSumsUptoSaid : Prop := pedersenSumsUptoRow.holds Tryd.pinned (OpenSpec.upto pedersenSumsSpec)

end Rows
end Go.Proofs.YtldodbffdegmiaaDoor
