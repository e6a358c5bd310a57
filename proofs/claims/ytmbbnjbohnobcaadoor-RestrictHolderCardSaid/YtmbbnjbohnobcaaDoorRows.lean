/-
  NARROWER THAN 'FOR EVERY INPUT', by the rows' own cells (each row's printed sentence says how): ProductParts: laid · RestrictKeys: laid · RestrictUnblinds: laid · DrawPowers: laid · DrawForks: laid · DrawJoins: laid · RestrictHolder: laid · RestrictChallenges: laid · SignatureFits: laid.
  DERIVED. THE GIVEN ROWS OF THIS SEAT. 9 by the template 'for every input the law returns true; each argument reads behind the call as it read before'; 0 by the template 'total and deterministic' (their statements: YtmbbnjbohnobcaaDoorTotals.lean).
  GIVEN WITH THE SEED: the statements are not yours to turn. If you find one false, say at which input.
  Laid BY PROGRAM, IN A SANDBOX (cutbox-rows.mjs): the forced cells as the released guide's own fill.sh prints them over the translation 07f13aabd85726be… (all of the seat's roots in one cut). By AI agents, Wed Nov 11 2026. No macro, syntax, notation, axiom, sorry.
-/
import Derived.Test.YtmbbnjbohnobcaaDoorChecked
import GoSem.Claim
import GoSem.ClaimJoined
import GoSem.ClaimMapViews
import Derived.JoinedTies
import Derived.KernelRfl
namespace Go.Proofs.YtmbbnjbohnobcaaDoor
/- THE CELL 'sum', in the pinned program and in every row, IS THE sha256 OF THE DUMP (.gsa) THAT YtmbbnjbohnobcaaDoorProg.lean LOADS. Nothing in Lean hashes anything: it is a label: what it is worth is what the hold of that sum in a sandbox is worth. -/
noncomputable def Tryd.pinned : Pinned := { name := "ytmbbnjbohnobcaadoor", sum := "07f13aabd85726beb04fb474d86f4e8effa1d5a064430112aad1d10cc4c1b18b", checked := Tryd.checked }
namespace Rows
def none {H : Type} : Left H := { results := [], args := [] }

/- WHAT THE LISTED PACKAGE-LEVEL VARIABLES READ AS WHEN THE CALL BEGINS. Each datum BY PROGRAM (the guide's laid-datum.mjs) off the statement by which the dump's own 'gosem.cut.vars' lays the variable. In a bare row this is a premise. The card (YtmbbnjbohnobcaaDoorCards.lean) ties it to the program's text. -/
def laid_math_bits_deBruijn64tab {H : Type} : DataW H := .agg [.lit (.int .u8 0), .lit (.int .u8 1), .lit (.int .u8 56), .lit (.int .u8 2), .lit (.int .u8 57), .lit (.int .u8 49), .lit (.int .u8 28), .lit (.int .u8 3), .lit (.int .u8 61), .lit (.int .u8 58), .lit (.int .u8 42), .lit (.int .u8 50), .lit (.int .u8 38), .lit (.int .u8 29), .lit (.int .u8 17), .lit (.int .u8 4), .lit (.int .u8 62), .lit (.int .u8 47), .lit (.int .u8 59), .lit (.int .u8 36), .lit (.int .u8 45), .lit (.int .u8 43), .lit (.int .u8 51), .lit (.int .u8 22), .lit (.int .u8 53), .lit (.int .u8 39), .lit (.int .u8 33), .lit (.int .u8 30), .lit (.int .u8 24), .lit (.int .u8 18), .lit (.int .u8 12), .lit (.int .u8 5), .lit (.int .u8 63), .lit (.int .u8 55), .lit (.int .u8 48), .lit (.int .u8 27), .lit (.int .u8 60), .lit (.int .u8 41), .lit (.int .u8 37), .lit (.int .u8 16), .lit (.int .u8 46), .lit (.int .u8 35), .lit (.int .u8 44), .lit (.int .u8 21), .lit (.int .u8 52), .lit (.int .u8 32), .lit (.int .u8 23), .lit (.int .u8 11), .lit (.int .u8 54), .lit (.int .u8 26), .lit (.int .u8 40), .lit (.int .u8 15), .lit (.int .u8 34), .lit (.int .u8 20), .lit (.int .u8 31), .lit (.int .u8 10), .lit (.int .u8 25), .lit (.int .u8 14), .lit (.int .u8 19), .lit (.int .u8 9), .lit (.int .u8 13), .lit (.int .u8 8), .lit (.int .u8 7), .lit (.int .u8 6)]
def laid_specie_prime_bases {H : Type} : DataW H := .agg [.lit (.int .u64 2), .lit (.int .u64 3), .lit (.int .u64 5), .lit (.int .u64 7), .lit (.int .u64 11), .lit (.int .u64 13), .lit (.int .u64 17), .lit (.int .u64 19), .lit (.int .u64 23), .lit (.int .u64 29), .lit (.int .u64 31), .lit (.int .u64 37)]
def laid_specie_digest_constants {H : Type} : DataW H := .agg [.lit (.int .u32 1116352408), .lit (.int .u32 1899447441), .lit (.int .u32 3049323471), .lit (.int .u32 3921009573), .lit (.int .u32 961987163), .lit (.int .u32 1508970993), .lit (.int .u32 2453635748), .lit (.int .u32 2870763221), .lit (.int .u32 3624381080), .lit (.int .u32 310598401), .lit (.int .u32 607225278), .lit (.int .u32 1426881987), .lit (.int .u32 1925078388), .lit (.int .u32 2162078206), .lit (.int .u32 2614888103), .lit (.int .u32 3248222580), .lit (.int .u32 3835390401), .lit (.int .u32 4022224774), .lit (.int .u32 264347078), .lit (.int .u32 604807628), .lit (.int .u32 770255983), .lit (.int .u32 1249150122), .lit (.int .u32 1555081692), .lit (.int .u32 1996064986), .lit (.int .u32 2554220882), .lit (.int .u32 2821834349), .lit (.int .u32 2952996808), .lit (.int .u32 3210313671), .lit (.int .u32 3336571891), .lit (.int .u32 3584528711), .lit (.int .u32 113926993), .lit (.int .u32 338241895), .lit (.int .u32 666307205), .lit (.int .u32 773529912), .lit (.int .u32 1294757372), .lit (.int .u32 1396182291), .lit (.int .u32 1695183700), .lit (.int .u32 1986661051), .lit (.int .u32 2177026350), .lit (.int .u32 2456956037), .lit (.int .u32 2730485921), .lit (.int .u32 2820302411), .lit (.int .u32 3259730800), .lit (.int .u32 3345764771), .lit (.int .u32 3516065817), .lit (.int .u32 3600352804), .lit (.int .u32 4094571909), .lit (.int .u32 275423344), .lit (.int .u32 430227734), .lit (.int .u32 506948616), .lit (.int .u32 659060556), .lit (.int .u32 883997877), .lit (.int .u32 958139571), .lit (.int .u32 1322822218), .lit (.int .u32 1537002063), .lit (.int .u32 1747873779), .lit (.int .u32 1955562222), .lit (.int .u32 2024104815), .lit (.int .u32 2227730452), .lit (.int .u32 2361852424), .lit (.int .u32 2428436474), .lit (.int .u32 2756734187), .lit (.int .u32 3204031479), .lit (.int .u32 3329325298)]
def laid_specie_digest_start {H : Type} : DataW H := .agg [.lit (.int .u32 1779033703), .lit (.int .u32 3144134277), .lit (.int .u32 1013904242), .lit (.int .u32 2773480762), .lit (.int .u32 1359893119), .lit (.int .u32 2600822924), .lit (.int .u32 528734635), .lit (.int .u32 1541459225)]

/-- 'specielaw12.ProductParts': WHATEVER THE INPUT: true; the input reads as it did. -/
def productPartsSpec : ChangeSpec := { name := "productParts", fn := fun _ => fun
  | [d1, d2, d3, d4] => { results := [.lit (.bool true)], args := [d1, d2, d3, d4] }
  | _ => none }
def productPartsRow : OpenClaim := { program := "ytmbbnjbohnobcaadoor", sum := "07f13aabd85726beb04fb474d86f4e8effa1d5a064430112aad1d10cc4c1b18b", func := "specie/specielaw12.ProductParts", spec := "productParts", unfollowed := true, recurses := true, named := ["specie/prime.bases", "math/bits.deBruijn64tab", "math/bits.divideError", "math/bits.overflowError"], apart := false, laid := [("math/bits.deBruijn64tab", laid_math_bits_deBruijn64tab), ("specie/prime.bases", laid_specie_prime_bases)] }
def ProductPartsSaid : Prop := productPartsRow.holds Tryd.pinned (OpenSpec.ofChange productPartsSpec)

/-- ITS FALSE NEIGHBOUR: 'it returns false'. Refute it at one input. -/
def productPartsWrong : ChangeSpec := { name := "productParts", fn := fun _ => fun
  | [d1, d2, d3, d4] => { results := [.lit (.bool false)], args := [d1, d2, d3, d4] }
  | _ => none }
def ProductPartsWrongFalsely : Prop := productPartsRow.holds Tryd.pinned (OpenSpec.ofChange productPartsWrong)

/-- 'specielaw25.RestrictKeys': WHATEVER THE INPUT: true; the input reads as it did. -/
def restrictKeysSpec : ChangeSpec := { name := "restrictKeys", fn := fun _ => fun
  | [d1, d2, d3, d4, d5, d6] => { results := [.lit (.bool true)], args := [d1, d2, d3, d4, d5, d6] }
  | _ => none }
def restrictKeysRow : OpenClaim := { program := "ytmbbnjbohnobcaadoor", sum := "07f13aabd85726beb04fb474d86f4e8effa1d5a064430112aad1d10cc4c1b18b", func := "specie/specielaw25.RestrictKeys", spec := "restrictKeys", named := ["specie/prime.bases", "math/bits.deBruijn64tab", "math/bits.divideError", "math/bits.overflowError"], apart := false, laid := [("math/bits.deBruijn64tab", laid_math_bits_deBruijn64tab), ("specie/prime.bases", laid_specie_prime_bases)] }
def RestrictKeysSaid : Prop := restrictKeysRow.holds Tryd.pinned (OpenSpec.ofChange restrictKeysSpec)

/-- ITS FALSE NEIGHBOUR: 'it returns false'. Refute it at one input. -/
def restrictKeysWrong : ChangeSpec := { name := "restrictKeys", fn := fun _ => fun
  | [d1, d2, d3, d4, d5, d6] => { results := [.lit (.bool false)], args := [d1, d2, d3, d4, d5, d6] }
  | _ => none }
def RestrictKeysWrongFalsely : Prop := restrictKeysRow.holds Tryd.pinned (OpenSpec.ofChange restrictKeysWrong)

/-- 'specielaw25.RestrictUnblinds': WHATEVER THE INPUT: true; the input reads as it did. -/
def restrictUnblindsSpec : ChangeSpec := { name := "restrictUnblinds", fn := fun _ => fun
  | [d1, d2, d3, d4, d5] => { results := [.lit (.bool true)], args := [d1, d2, d3, d4, d5] }
  | _ => none }
def restrictUnblindsRow : OpenClaim := { program := "ytmbbnjbohnobcaadoor", sum := "07f13aabd85726beb04fb474d86f4e8effa1d5a064430112aad1d10cc4c1b18b", func := "specie/specielaw25.RestrictUnblinds", spec := "restrictUnblinds", named := ["specie/prime.bases", "math/bits.deBruijn64tab", "math/bits.divideError", "math/bits.overflowError"], apart := false, laid := [("math/bits.deBruijn64tab", laid_math_bits_deBruijn64tab), ("specie/prime.bases", laid_specie_prime_bases)] }
def RestrictUnblindsSaid : Prop := restrictUnblindsRow.holds Tryd.pinned (OpenSpec.ofChange restrictUnblindsSpec)

/-- ITS FALSE NEIGHBOUR: 'it returns false'. Refute it at one input. -/
def restrictUnblindsWrong : ChangeSpec := { name := "restrictUnblinds", fn := fun _ => fun
  | [d1, d2, d3, d4, d5] => { results := [.lit (.bool false)], args := [d1, d2, d3, d4, d5] }
  | _ => none }
def RestrictUnblindsWrongFalsely : Prop := restrictUnblindsRow.holds Tryd.pinned (OpenSpec.ofChange restrictUnblindsWrong)

/-- 'specielaw09.DrawPowers': WHATEVER THE INPUT: true; the input reads as it did. -/
def drawPowersSpec : ChangeSpec := { name := "drawPowers", fn := fun _ => fun
  | [d1, d2, d3] => { results := [.lit (.bool true)], args := [d1, d2, d3] }
  | _ => none }
def drawPowersRow : OpenClaim := { program := "ytmbbnjbohnobcaadoor", sum := "07f13aabd85726beb04fb474d86f4e8effa1d5a064430112aad1d10cc4c1b18b", func := "specie/specielaw09.DrawPowers", spec := "drawPowers", named := ["specie/digest.start", "specie/digest.constants"], apart := false, laid := [("specie/digest.constants", laid_specie_digest_constants), ("specie/digest.start", laid_specie_digest_start)] }
def DrawPowersSaid : Prop := drawPowersRow.holds Tryd.pinned (OpenSpec.ofChange drawPowersSpec)

/-- ITS FALSE NEIGHBOUR: 'it returns false'. Refute it at one input. -/
def drawPowersWrong : ChangeSpec := { name := "drawPowers", fn := fun _ => fun
  | [d1, d2, d3] => { results := [.lit (.bool false)], args := [d1, d2, d3] }
  | _ => none }
def DrawPowersWrongFalsely : Prop := drawPowersRow.holds Tryd.pinned (OpenSpec.ofChange drawPowersWrong)

/-- 'specielaw09.DrawForks': WHATEVER THE INPUT: true; the input reads as it did. -/
def drawForksSpec : ChangeSpec := { name := "drawForks", fn := fun _ => fun
  | [d1, d2, d3] => { results := [.lit (.bool true)], args := [d1, d2, d3] }
  | _ => none }
def drawForksRow : OpenClaim := { program := "ytmbbnjbohnobcaadoor", sum := "07f13aabd85726beb04fb474d86f4e8effa1d5a064430112aad1d10cc4c1b18b", func := "specie/specielaw09.DrawForks", spec := "drawForks", named := ["specie/digest.start", "specie/digest.constants"], apart := false, laid := [("specie/digest.constants", laid_specie_digest_constants), ("specie/digest.start", laid_specie_digest_start)] }
def DrawForksSaid : Prop := drawForksRow.holds Tryd.pinned (OpenSpec.ofChange drawForksSpec)

/-- ITS FALSE NEIGHBOUR: 'it returns false'. Refute it at one input. -/
def drawForksWrong : ChangeSpec := { name := "drawForks", fn := fun _ => fun
  | [d1, d2, d3] => { results := [.lit (.bool false)], args := [d1, d2, d3] }
  | _ => none }
def DrawForksWrongFalsely : Prop := drawForksRow.holds Tryd.pinned (OpenSpec.ofChange drawForksWrong)

/-- 'specielaw09.DrawJoins': WHATEVER THE INPUT: true; the input reads as it did. -/
def drawJoinsSpec : ChangeSpec := { name := "drawJoins", fn := fun _ => fun
  | [d1, d2, d3, d4] => { results := [.lit (.bool true)], args := [d1, d2, d3, d4] }
  | _ => none }
def drawJoinsRow : OpenClaim := { program := "ytmbbnjbohnobcaadoor", sum := "07f13aabd85726beb04fb474d86f4e8effa1d5a064430112aad1d10cc4c1b18b", func := "specie/specielaw09.DrawJoins", spec := "drawJoins", named := ["specie/digest.start", "specie/digest.constants"], apart := false, laid := [("specie/digest.constants", laid_specie_digest_constants), ("specie/digest.start", laid_specie_digest_start)] }
def DrawJoinsSaid : Prop := drawJoinsRow.holds Tryd.pinned (OpenSpec.ofChange drawJoinsSpec)

/-- ITS FALSE NEIGHBOUR: 'it returns false'. Refute it at one input. -/
def drawJoinsWrong : ChangeSpec := { name := "drawJoins", fn := fun _ => fun
  | [d1, d2, d3, d4] => { results := [.lit (.bool false)], args := [d1, d2, d3, d4] }
  | _ => none }
def DrawJoinsWrongFalsely : Prop := drawJoinsRow.holds Tryd.pinned (OpenSpec.ofChange drawJoinsWrong)

/-- 'specielaw25.RestrictHolder': WHATEVER THE INPUT: true; the input reads as it did. -/
def restrictHolderSpec : ChangeSpec := { name := "restrictHolder", fn := fun _ => fun
  | [d1, d2, d3, d4, d5, d6] => { results := [.lit (.bool true)], args := [d1, d2, d3, d4, d5, d6] }
  | _ => none }
def restrictHolderRow : OpenClaim := { program := "ytmbbnjbohnobcaadoor", sum := "07f13aabd85726beb04fb474d86f4e8effa1d5a064430112aad1d10cc4c1b18b", func := "specie/specielaw25.RestrictHolder", spec := "restrictHolder", unfollowed := true, recurses := true, named := ["specie/prime.bases", "math/bits.deBruijn64tab", "math/bits.divideError", "math/bits.overflowError", "specie/digest.start", "specie/digest.constants"], apart := false, laid := [("math/bits.deBruijn64tab", laid_math_bits_deBruijn64tab), ("specie/prime.bases", laid_specie_prime_bases), ("specie/digest.constants", laid_specie_digest_constants), ("specie/digest.start", laid_specie_digest_start)] }
def RestrictHolderSaid : Prop := restrictHolderRow.holds Tryd.pinned (OpenSpec.ofChange restrictHolderSpec)

/-- ITS FALSE NEIGHBOUR: 'it returns false'. Refute it at one input. -/
def restrictHolderWrong : ChangeSpec := { name := "restrictHolder", fn := fun _ => fun
  | [d1, d2, d3, d4, d5, d6] => { results := [.lit (.bool false)], args := [d1, d2, d3, d4, d5, d6] }
  | _ => none }
def RestrictHolderWrongFalsely : Prop := restrictHolderRow.holds Tryd.pinned (OpenSpec.ofChange restrictHolderWrong)

/-- 'specielaw25.RestrictChallenges': WHATEVER THE INPUT: true; the input reads as it did. -/
def restrictChallengesSpec : ChangeSpec := { name := "restrictChallenges", fn := fun _ => fun
  | [d1, d2, d3, d4] => { results := [.lit (.bool true)], args := [d1, d2, d3, d4] }
  | _ => none }
def restrictChallengesRow : OpenClaim := { program := "ytmbbnjbohnobcaadoor", sum := "07f13aabd85726beb04fb474d86f4e8effa1d5a064430112aad1d10cc4c1b18b", func := "specie/specielaw25.RestrictChallenges", spec := "restrictChallenges", unfollowed := true, recurses := true, named := ["specie/prime.bases", "math/bits.deBruijn64tab", "math/bits.divideError", "math/bits.overflowError", "specie/digest.start", "specie/digest.constants"], apart := false, laid := [("math/bits.deBruijn64tab", laid_math_bits_deBruijn64tab), ("specie/prime.bases", laid_specie_prime_bases), ("specie/digest.constants", laid_specie_digest_constants), ("specie/digest.start", laid_specie_digest_start)] }
def RestrictChallengesSaid : Prop := restrictChallengesRow.holds Tryd.pinned (OpenSpec.ofChange restrictChallengesSpec)

/-- ITS FALSE NEIGHBOUR: 'it returns false'. Refute it at one input. -/
def restrictChallengesWrong : ChangeSpec := { name := "restrictChallenges", fn := fun _ => fun
  | [d1, d2, d3, d4] => { results := [.lit (.bool false)], args := [d1, d2, d3, d4] }
  | _ => none }
def RestrictChallengesWrongFalsely : Prop := restrictChallengesRow.holds Tryd.pinned (OpenSpec.ofChange restrictChallengesWrong)

/-- 'specielaw22.SignatureFits': WHATEVER THE INPUT: true; the input reads as it did. -/
def signatureFitsSpec : ChangeSpec := { name := "signatureFits", fn := fun _ => fun
  | [d1, d2, d3, d4] => { results := [.lit (.bool true)], args := [d1, d2, d3, d4] }
  | _ => none }
def signatureFitsRow : OpenClaim := { program := "ytmbbnjbohnobcaadoor", sum := "07f13aabd85726beb04fb474d86f4e8effa1d5a064430112aad1d10cc4c1b18b", func := "specie/specielaw22.SignatureFits", spec := "signatureFits", unfollowed := true, recurses := true, named := ["specie/prime.bases", "math/bits.deBruijn64tab", "math/bits.divideError", "math/bits.overflowError", "specie/digest.start", "specie/digest.constants"], apart := false, laid := [("math/bits.deBruijn64tab", laid_math_bits_deBruijn64tab), ("specie/prime.bases", laid_specie_prime_bases), ("specie/digest.constants", laid_specie_digest_constants), ("specie/digest.start", laid_specie_digest_start)] }
def SignatureFitsSaid : Prop := signatureFitsRow.holds Tryd.pinned (OpenSpec.ofChange signatureFitsSpec)

/-- ITS FALSE NEIGHBOUR: 'it returns false'. Refute it at one input. -/
def signatureFitsWrong : ChangeSpec := { name := "signatureFits", fn := fun _ => fun
  | [d1, d2, d3, d4] => { results := [.lit (.bool false)], args := [d1, d2, d3, d4] }
  | _ => none }
def SignatureFitsWrongFalsely : Prop := signatureFitsRow.holds Tryd.pinned (OpenSpec.ofChange signatureFitsWrong)

/- THE SECOND FORM. 'bulk': how many values and letters a reading holds, each counted each time it is reached (what is shared counts as often as it is met; a slice's spare places count too). A statement '..UptoSaid' is the law's where the arguments, and the package variables that the reading takes, are together of bulk at most 1048576: NARROWER than '..Said'. Prove '..Said' where nothing that the law and all that it calls make is longer than what came in: it says more and counts as full. Else prove '..UptoSaid'. A law counts once. -/
mutual
def uptoBulk {H : Type} : DataW H → Nat
  | .lit (.string bytes) => bytes.length + 1
  | .lit _ => 1
  | .nil => 1
  | .ptr d => uptoBulk d + 1
  | .slice elems spare => uptoBulkAll elems + uptoBulkAll spare + 1
  | .agg parts => uptoBulkAll parts + 1
  | .iface _ d => uptoBulk d + 1
  | .map entries => uptoBulkEntries entries + 1
  | .held _ => 1
def uptoBulkAll {H : Type} : List (DataW H) → Nat
  | [] => 0
  | d :: r => uptoBulk d + uptoBulkAll r
def uptoBulkEntries {H : Type} : List (Lit × DataW H) → Nat
  | [] => 0
  | x :: r => uptoBulkEntry x + uptoBulkEntries r
def uptoBulkEntry {H : Type} : Lit × DataW H → Nat
  | (.string bytes, d) => bytes.length + uptoBulk d + 1
  | (_, d) => uptoBulk d + 1
 end
def uptoSmall : (H : Type) → List (DataW H) → Bool := fun _ ds => decide (uptoBulkAll ds ≤ 1048576)
def OpenSpec.upto (s : _root_.Go.ChangeSpec) : _root_.Go.OpenSpec := { _root_.Go.OpenSpec.ofChange s with cond := some uptoSmall }

/-- 'specielaw12.ProductParts', WHERE WHAT IT READS IS OF BULK AT MOST 1048576: true; the input reads as it did. -/
def productPartsUptoRow : OpenClaim := { program := "ytmbbnjbohnobcaadoor", sum := "07f13aabd85726beb04fb474d86f4e8effa1d5a064430112aad1d10cc4c1b18b", func := "specie/specielaw12.ProductParts", spec := "productParts", unfollowed := true, recurses := true, named := ["specie/prime.bases", "math/bits.deBruijn64tab", "math/bits.divideError", "math/bits.overflowError"], apart := false, laid := [("math/bits.deBruijn64tab", laid_math_bits_deBruijn64tab), ("specie/prime.bases", laid_specie_prime_bases)], narrowed := true }
def ProductPartsUptoSaid : Prop := productPartsUptoRow.holds Tryd.pinned (OpenSpec.upto productPartsSpec)

/-- 'specielaw25.RestrictKeys', WHERE WHAT IT READS IS OF BULK AT MOST 1048576: true; the input reads as it did. -/
def restrictKeysUptoRow : OpenClaim := { program := "ytmbbnjbohnobcaadoor", sum := "07f13aabd85726beb04fb474d86f4e8effa1d5a064430112aad1d10cc4c1b18b", func := "specie/specielaw25.RestrictKeys", spec := "restrictKeys", named := ["specie/prime.bases", "math/bits.deBruijn64tab", "math/bits.divideError", "math/bits.overflowError"], apart := false, laid := [("math/bits.deBruijn64tab", laid_math_bits_deBruijn64tab), ("specie/prime.bases", laid_specie_prime_bases)], narrowed := true }
def RestrictKeysUptoSaid : Prop := restrictKeysUptoRow.holds Tryd.pinned (OpenSpec.upto restrictKeysSpec)

/-- 'specielaw25.RestrictUnblinds', WHERE WHAT IT READS IS OF BULK AT MOST 1048576: true; the input reads as it did. -/
def restrictUnblindsUptoRow : OpenClaim := { program := "ytmbbnjbohnobcaadoor", sum := "07f13aabd85726beb04fb474d86f4e8effa1d5a064430112aad1d10cc4c1b18b", func := "specie/specielaw25.RestrictUnblinds", spec := "restrictUnblinds", named := ["specie/prime.bases", "math/bits.deBruijn64tab", "math/bits.divideError", "math/bits.overflowError"], apart := false, laid := [("math/bits.deBruijn64tab", laid_math_bits_deBruijn64tab), ("specie/prime.bases", laid_specie_prime_bases)], narrowed := true }
def RestrictUnblindsUptoSaid : Prop := restrictUnblindsUptoRow.holds Tryd.pinned (OpenSpec.upto restrictUnblindsSpec)

/-- 'specielaw09.DrawPowers', WHERE WHAT IT READS IS OF BULK AT MOST 1048576: true; the input reads as it did. -/
def drawPowersUptoRow : OpenClaim := { program := "ytmbbnjbohnobcaadoor", sum := "07f13aabd85726beb04fb474d86f4e8effa1d5a064430112aad1d10cc4c1b18b", func := "specie/specielaw09.DrawPowers", spec := "drawPowers", named := ["specie/digest.start", "specie/digest.constants"], apart := false, laid := [("specie/digest.constants", laid_specie_digest_constants), ("specie/digest.start", laid_specie_digest_start)], narrowed := true }
def DrawPowersUptoSaid : Prop := drawPowersUptoRow.holds Tryd.pinned (OpenSpec.upto drawPowersSpec)

/-- 'specielaw09.DrawForks', WHERE WHAT IT READS IS OF BULK AT MOST 1048576: true; the input reads as it did. -/
def drawForksUptoRow : OpenClaim := { program := "ytmbbnjbohnobcaadoor", sum := "07f13aabd85726beb04fb474d86f4e8effa1d5a064430112aad1d10cc4c1b18b", func := "specie/specielaw09.DrawForks", spec := "drawForks", named := ["specie/digest.start", "specie/digest.constants"], apart := false, laid := [("specie/digest.constants", laid_specie_digest_constants), ("specie/digest.start", laid_specie_digest_start)], narrowed := true }
def DrawForksUptoSaid : Prop := drawForksUptoRow.holds Tryd.pinned (OpenSpec.upto drawForksSpec)

/-- 'specielaw09.DrawJoins', WHERE WHAT IT READS IS OF BULK AT MOST 1048576: true; the input reads as it did. -/
def drawJoinsUptoRow : OpenClaim := { program := "ytmbbnjbohnobcaadoor", sum := "07f13aabd85726beb04fb474d86f4e8effa1d5a064430112aad1d10cc4c1b18b", func := "specie/specielaw09.DrawJoins", spec := "drawJoins", named := ["specie/digest.start", "specie/digest.constants"], apart := false, laid := [("specie/digest.constants", laid_specie_digest_constants), ("specie/digest.start", laid_specie_digest_start)], narrowed := true }
def DrawJoinsUptoSaid : Prop := drawJoinsUptoRow.holds Tryd.pinned (OpenSpec.upto drawJoinsSpec)

/-- 'specielaw25.RestrictHolder', WHERE WHAT IT READS IS OF BULK AT MOST 1048576: true; the input reads as it did. -/
def restrictHolderUptoRow : OpenClaim := { program := "ytmbbnjbohnobcaadoor", sum := "07f13aabd85726beb04fb474d86f4e8effa1d5a064430112aad1d10cc4c1b18b", func := "specie/specielaw25.RestrictHolder", spec := "restrictHolder", unfollowed := true, recurses := true, named := ["specie/prime.bases", "math/bits.deBruijn64tab", "math/bits.divideError", "math/bits.overflowError", "specie/digest.start", "specie/digest.constants"], apart := false, laid := [("math/bits.deBruijn64tab", laid_math_bits_deBruijn64tab), ("specie/prime.bases", laid_specie_prime_bases), ("specie/digest.constants", laid_specie_digest_constants), ("specie/digest.start", laid_specie_digest_start)], narrowed := true }
def RestrictHolderUptoSaid : Prop := restrictHolderUptoRow.holds Tryd.pinned (OpenSpec.upto restrictHolderSpec)

/-- 'specielaw25.RestrictChallenges', WHERE WHAT IT READS IS OF BULK AT MOST 1048576: true; the input reads as it did. -/
def restrictChallengesUptoRow : OpenClaim := { program := "ytmbbnjbohnobcaadoor", sum := "07f13aabd85726beb04fb474d86f4e8effa1d5a064430112aad1d10cc4c1b18b", func := "specie/specielaw25.RestrictChallenges", spec := "restrictChallenges", unfollowed := true, recurses := true, named := ["specie/prime.bases", "math/bits.deBruijn64tab", "math/bits.divideError", "math/bits.overflowError", "specie/digest.start", "specie/digest.constants"], apart := false, laid := [("math/bits.deBruijn64tab", laid_math_bits_deBruijn64tab), ("specie/prime.bases", laid_specie_prime_bases), ("specie/digest.constants", laid_specie_digest_constants), ("specie/digest.start", laid_specie_digest_start)], narrowed := true }
def RestrictChallengesUptoSaid : Prop := restrictChallengesUptoRow.holds Tryd.pinned (OpenSpec.upto restrictChallengesSpec)

/-- 'specielaw22.SignatureFits', WHERE WHAT IT READS IS OF BULK AT MOST 1048576: true; the input reads as it did. -/
def signatureFitsUptoRow : OpenClaim := { program := "ytmbbnjbohnobcaadoor", sum := "07f13aabd85726beb04fb474d86f4e8effa1d5a064430112aad1d10cc4c1b18b", func := "specie/specielaw22.SignatureFits", spec := "signatureFits", unfollowed := true, recurses := true, named := ["specie/prime.bases", "math/bits.deBruijn64tab", "math/bits.divideError", "math/bits.overflowError", "specie/digest.start", "specie/digest.constants"], apart := false, laid := [("math/bits.deBruijn64tab", laid_math_bits_deBruijn64tab), ("specie/prime.bases", laid_specie_prime_bases), ("specie/digest.constants", laid_specie_digest_constants), ("specie/digest.start", laid_specie_digest_start)], narrowed := true }
def SignatureFitsUptoSaid : Prop := signatureFitsUptoRow.holds Tryd.pinned (OpenSpec.upto signatureFitsSpec)

end Rows
end Go.Proofs.YtmbbnjbohnobcaaDoor
