/- Package product and specieref12: products of powers, products of elements. specieref12: products of powers, products of elements; product.Join. A group's numbers in the worlds of a drawn region. specieref12.Product; the products of elements. Products of elements: product.Join, specieref12.Join. -/
import Derived.Test.YtkimojconidhlaaDoorMB9
import Derived.Test.YtkimojconidhlaaDoorMB2
import Derived.Deep.RegionWith
namespace Go.Proofs.YtkimojconidhlaaDoor
open Go.RowKit Go.Sp
set_option maxHeartbeats 1000000
set_option maxRecDepth 20000

theorem ex_range {Q : Int} {es : List Int} (hQ : Q ≤ 9223372036854775807) (h : es.all (exB Q) = true) : ∀ x ∈ es, -9223372036854775808 ≤ x ∧ x ≤ 9223372036854775807 := by
  intro x hx
  have := exB_iff.1 (List.all_eq_true.1 h x hx)
  omega

end Go.Proofs.YtkimojconidhlaaDoor
namespace Go.Proofs.YtkimojconidhlaaDoor
open Go.RowKit Go.Sp
set_option maxHeartbeats 1000000
set_option maxRecDepth 20000

end Go.Proofs.YtkimojconidhlaaDoor
namespace Go.Proofs.YtkimojconidhlaaDoor
open Go.RowKit Go.Sp

theorem cellF {w : World} {b o : Nat} {v : Value} (h : w.cell? ⟨b, o, none⟩ = some v) (p : UpFrom w) : p.w'.cell? ⟨b, o, none⟩ = some v := cellUp p.up h

theorem GrpAt.from {w : World} {b : Nat} {P Q G : Int} (h : GrpAt w b P Q G) : (∀ p : UpFrom w, p.w'.cell? ⟨b, 0, none⟩ = some (.int .i64 P)) ∧ (∀ p : UpFrom w, p.w'.cell? ⟨b, 1, none⟩ = some (.int .i64 Q)) ∧ ∀ p : UpFrom w, p.w'.cell? ⟨b, 2, none⟩ = some (.int .i64 G) :=
  ⟨fun p => cellF h.1 p, fun p => cellF h.2.1 p, fun p => cellF h.2.2 p⟩
end Go.Proofs.YtkimojconidhlaaDoor
namespace Go.Proofs.YtkimojconidhlaaDoor
open Go.RowKit Go.Sp
set_option maxHeartbeats 2000000
set_option maxRecDepth 20000

/-- The first i bases and exponents are good. -/
def GoodTo (P Q : Int) (bs es : List Int) (i : Nat) : Prop := ∀ j, j < i → elB P Q (bs.getD j 0) = true ∧ exB Q (es.getD j 0) = true

theorem GoodTo.step {P Q : Int} {bs es : List Int} {i : Nat} (h : GoodTo P Q bs es i) (h1 : elB P Q (bs.getD i 0) = true) (h2 : exB Q (es.getD i 0) = true) : GoodTo P Q bs es (i + 1) := by
  intro j hj
  rcases Nat.lt_or_ge j i with h3 | h3
  · exact h j h3
  · obtain rfl : j = i := by omega
    exact ⟨h1, h2⟩

theorem GoodTo.all {P Q : Int} {bs es : List Int} (hl : es.length = bs.length) (h : GoodTo P Q bs es bs.length) : bs.all (elB P Q) = true ∧ es.all (exB Q) = true := by
  constructor
  · refine List.all_eq_true.2 fun x hx => ?_
    obtain ⟨i, hi, rfl⟩ := List.getElem_of_mem hx
    have := (h i hi).1
    simpa [hi] using this
  · refine List.all_eq_true.2 fun x hx => ?_
    obtain ⟨i, hi, rfl⟩ := List.getElem_of_mem hx
    have := (h i (by omega)).2
    simpa [hi] using this

theorem not_all {p : Int → Bool} {xs : List Int} {i : Nat} (hi : i < xs.length) (h : p (xs.getD i 0) = false) : xs.all p = false := by
  rw [List.all_eq_false]
  exact ⟨_, getD_mem hi, by rw [h]; simp⟩

end Go.Proofs.YtkimojconidhlaaDoor
namespace Go.Proofs.YtkimojconidhlaaDoor
open Go.RowKit Go.Sp
set_option maxHeartbeats 1000000
set_option maxRecDepth 20000

/-- The first i elements are good. -/
def GoodE (P Q : Int) (l : List Int) (i : Nat) : Prop := ∀ j, j < i → elB P Q (l.getD j 0) = true

theorem GoodE.step {P Q : Int} {l : List Int} {i : Nat} (h : GoodE P Q l i) (h1 : elB P Q (l.getD i 0) = true) : GoodE P Q l (i + 1) := by
  intro j hj
  rcases Nat.lt_or_ge j i with h3 | h3
  · exact h j h3
  · obtain rfl : j = i := by omega
    exact h1

theorem GoodE.all {P Q : Int} {l : List Int} (h : GoodE P Q l l.length) : l.all (elB P Q) = true := by
  refine List.all_eq_true.2 fun x hx => ?_
  obtain ⟨i, hi, rfl⟩ := List.getElem_of_mem hx
  have := h i hi
  simpa [hi] using this

end Go.Proofs.YtkimojconidhlaaDoor
