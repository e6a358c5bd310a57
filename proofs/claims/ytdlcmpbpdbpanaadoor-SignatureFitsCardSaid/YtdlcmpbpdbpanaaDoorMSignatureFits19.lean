/- Package product and specieref12: products of powers, products of elements. specieref12: products of powers, products of elements; product.Join. specieref12.Product; the products of elements. -/
import Derived.Test.YtdlcmpbpdbpanaaDoorMSignatureFits18
import Derived.Test.YtdlcmpbpdbpanaaDoorMSignatureFits7
import Derived.Deep.RegionWith
namespace Go.Proofs.YtdlcmpbpdbpanaaDoor
open Go.RowKit Go.Sp
set_option maxHeartbeats 1000000
set_option maxRecDepth 20000

theorem ex_range {Q : Int} {es : List Int} (hQ : Q ≤ 9223372036854775807) (h : es.all (exB Q) = true) : ∀ x ∈ es, -9223372036854775808 ≤ x ∧ x ≤ 9223372036854775807 := by
  intro x hx
  have := exB_iff.1 (List.all_eq_true.1 h x hx)
  omega

end Go.Proofs.YtdlcmpbpdbpanaaDoor
namespace Go.Proofs.YtdlcmpbpdbpanaaDoor
open Go.RowKit Go.Sp
set_option maxHeartbeats 1000000
set_option maxRecDepth 20000

end Go.Proofs.YtdlcmpbpdbpanaaDoor
namespace Go.Proofs.YtdlcmpbpdbpanaaDoor
open Go.RowKit Go.Sp
set_option maxHeartbeats 2000000
set_option maxRecDepth 20000

/-- The first i bases and exponents are good. -/
def GoodTo (P Q : Int) (bs es : List Int) (i : Nat) : Prop := ∀ j, j < i → elB P Q (bs.getD j 0) = true ∧ exB Q (es.getD j 0) = true

theorem GoodTo.step {P Q : Int} {bs es : List Int} {i : Nat} (h : GoodTo P Q bs es i) (h1 : elB P Q (bs.getD i 0) = true) (h2 : exB Q (es.getD i 0) = true) : GoodTo P Q bs es (i + 1) := by
  intro j hj
  rcases Nat.lt_or_ge j i with h3 | h3
  · exact h j h3
  · obtain rfl : j = i := by omega
    exact ⟨h1, h2⟩

theorem GoodTo.all {P Q : Int} {bs es : List Int} (hl : es.length = bs.length) (h : GoodTo P Q bs es bs.length) : bs.all (elB P Q) = true ∧ es.all (exB Q) = true := by
  constructor
  · refine List.all_eq_true.2 fun x hx => ?_
    obtain ⟨i, hi, rfl⟩ := List.getElem_of_mem hx
    have := (h i hi).1
    simpa [hi] using this
  · refine List.all_eq_true.2 fun x hx => ?_
    obtain ⟨i, hi, rfl⟩ := List.getElem_of_mem hx
    have := (h i (by omega)).2
    simpa [hi] using this

theorem not_all {p : Int → Bool} {xs : List Int} {i : Nat} (hi : i < xs.length) (h : p (xs.getD i 0) = false) : xs.all p = false := by
  rw [List.all_eq_false]
  exact ⟨_, getD_mem hi, by rw [h]; simp⟩

end Go.Proofs.YtdlcmpbpdbpanaaDoor
