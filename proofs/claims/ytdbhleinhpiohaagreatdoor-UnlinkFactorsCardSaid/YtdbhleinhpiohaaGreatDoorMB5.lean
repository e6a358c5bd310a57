/- Package product and specieref12: products of powers, products of elements. specieref12: products of powers, products of elements; product.Join. A region that draws its order, whose operations only read, and whose callees leave all that was there as it was: one walk, in the order of the text. A group's numbers in the worlds of a drawn region. specieref12.Product; the products of elements. -/
import Derived.Test.YtdbhleinhpiohaaGreatDoorMB4
import Derived.Test.YtdbhleinhpiohaaGreatDoorMB1
import Derived.Deep.RegionWith
import Derived.BigQuiet
namespace Go.Proofs.YtdbhleinhpiohaaGreatDoor
open Go.RowKit Go.Sp
set_option maxHeartbeats 1000000
set_option maxRecDepth 20000

theorem ex_range {Q : Int} {es : List Int} (hQ : Q ≤ 9223372036854775807) (h : es.all (exB Q) = true) : ∀ x ∈ es, -9223372036854775808 ≤ x ∧ x ≤ 9223372036854775807 := by
  intro x hx
  have := exB_iff.1 (List.all_eq_true.1 h x hx)
  omega

end Go.Proofs.YtdbhleinhpiohaaGreatDoor
namespace Go.Proofs.YtdbhleinhpiohaaGreatDoor
open Go.RowKit Go.Sp
set_option maxHeartbeats 1000000
set_option maxRecDepth 20000

end Go.Proofs.YtdbhleinhpiohaaGreatDoor
namespace Go.Sp
open Go.RowKit

/-- A world in which nothing of w has turned. -/
structure UpFrom (w : World) where
  w' : World
  up : Up w w'

instance (w : World) : Nonempty (UpFrom w) := ⟨⟨w, Up.refl w⟩⟩

theorem UpFrom.frozen {w : World} {a : Addr} {x : Bool} (h : w.frozen? a = x) (ha : a.block < w.heap.size) (p : UpFrom w) : p.w'.frozen? a = x := by rw [p.up.frozen ha]; exact h

theorem wp_region_up {P : Program} {id : Nat} {Q : Exit → Act → World → Prop} {a : Act} {w : World} {l : List Oper} (hm : P.follows .mixedOrders = true) (hB : Region.lexB .any l.toArray = true)
    (h : wpQuiet P l.toArray (fun w' => ∃ p : UpFrom w, w' = p.w') (fun a' => ∀ w', (∃ p : UpFrom w, w' = p.w') → Q .normal a' w') l a) : (Code.region id l.toArray true).wp P Q a w :=
  wp_region_quiet (C := fun w' => ∃ p : UpFrom w, w' = p.w') hm hB ⟨⟨_, (Up.refl w).drew⟩, rfl⟩ (by simpa using h)

/-- A callee's contract, met in a world of the class. -/
theorem Calls.up_of {P : Program} {f : FuncId} {args : Array Value} {w : World} {p : UpFrom w} {v : Value}
    (h : Calls P f args p.w' fun e w' => e = .returned v ∧ Up p.w' w') : Calls P f args p.w' fun e w'' => e = .returned v ∧ ∃ q : UpFrom w, w'' = q.w' :=
  h.mono fun _ _ ⟨he, hu⟩ => ⟨he, ⟨_, p.up.trans hu⟩, rfl⟩

theorem Calls.up_same {P : Program} {f : FuncId} {args : Array Value} {w : World} {p : UpFrom w} {v : Value}
    (h : Calls P f args p.w' fun e w' => e = .returned v ∧ p.w' = w') : Calls P f args p.w' fun e w'' => e = .returned v ∧ ∃ q : UpFrom w, w'' = q.w' :=
  h.mono fun _ _ ⟨he, hu⟩ => ⟨he, p, hu.symm⟩
end Go.Sp
namespace Go.Proofs.YtdbhleinhpiohaaGreatDoor
open Go.RowKit Go.Sp

theorem cellF {w : World} {b o : Nat} {v : Value} (h : w.cell? ⟨b, o, none⟩ = some v) (p : UpFrom w) : p.w'.cell? ⟨b, o, none⟩ = some v := cellUp p.up h

theorem GrpAt.from {w : World} {b : Nat} {P Q G : Int} (h : GrpAt w b P Q G) : (∀ p : UpFrom w, p.w'.cell? ⟨b, 0, none⟩ = some (.int .i64 P)) ∧ (∀ p : UpFrom w, p.w'.cell? ⟨b, 1, none⟩ = some (.int .i64 Q)) ∧ ∀ p : UpFrom w, p.w'.cell? ⟨b, 2, none⟩ = some (.int .i64 G) :=
  ⟨fun p => cellF h.1 p, fun p => cellF h.2.1 p, fun p => cellF h.2.2 p⟩
end Go.Proofs.YtdbhleinhpiohaaGreatDoor
namespace Go.Proofs.YtdbhleinhpiohaaGreatDoor
open Go.RowKit Go.Sp
set_option maxHeartbeats 2000000
set_option maxRecDepth 20000

/-- The first i bases and exponents are good. -/
def GoodTo (P Q : Int) (bs es : List Int) (i : Nat) : Prop := ∀ j, j < i → elB P Q (bs.getD j 0) = true ∧ exB Q (es.getD j 0) = true

theorem GoodTo.step {P Q : Int} {bs es : List Int} {i : Nat} (h : GoodTo P Q bs es i) (h1 : elB P Q (bs.getD i 0) = true) (h2 : exB Q (es.getD i 0) = true) : GoodTo P Q bs es (i + 1) := by
  intro j hj
  rcases Nat.lt_or_ge j i with h3 | h3
  · exact h j h3
  · obtain rfl : j = i := by omega
    exact ⟨h1, h2⟩

theorem GoodTo.all {P Q : Int} {bs es : List Int} (hl : es.length = bs.length) (h : GoodTo P Q bs es bs.length) : bs.all (elB P Q) = true ∧ es.all (exB Q) = true := by
  constructor
  · refine List.all_eq_true.2 fun x hx => ?_
    obtain ⟨i, hi, rfl⟩ := List.getElem_of_mem hx
    have := (h i hi).1
    simpa [hi] using this
  · refine List.all_eq_true.2 fun x hx => ?_
    obtain ⟨i, hi, rfl⟩ := List.getElem_of_mem hx
    have := (h i (by omega)).2
    simpa [hi] using this

theorem not_all {p : Int → Bool} {xs : List Int} {i : Nat} (hi : i < xs.length) (h : p (xs.getD i 0) = false) : xs.all p = false := by
  rw [List.all_eq_false]
  exact ⟨_, getD_mem hi, by rw [h]; simp⟩

end Go.Proofs.YtdbhleinhpiohaaGreatDoor
