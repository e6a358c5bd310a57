/- What a region that draws its order keeps: loaded cells, and that nothing old has turned. A region that draws its order, whose operations only read, and whose callees leave all that was there as it was: one walk, in the order of the text. A group's numbers in the worlds of a drawn region. -/
import Derived.Test.YtdlcmpbpdbpanaaDoorMSignatureFits6
import Derived.Test.YtdlcmpbpdbpanaaDoorMSignatureFits1
import Derived.Deep.RegionHeld3
import Derived.BigQuiet
namespace Go.Proofs.YtdlcmpbpdbpanaaDoor
open Go.RowKit Go.Sp

theorem cellUp {w w' : World} {b o : Nat} {v : Value} (hU : Up w w') (h : w.cell? ⟨b, o, none⟩ = some v) : w'.cell? ⟨b, o, none⟩ = some v := by
  rw [hU.cell (cell_lt h)]; exact h

theorem keepC1 {w0 w w' : World} {b1 o1 : Nat} {v1 : Value} (hU : Up w w') (h : w.cell? ⟨b1, o1, none⟩ = some v1 ∧ Hid (Up w0 w)) : w'.cell? ⟨b1, o1, none⟩ = some v1 ∧ Hid (Up w0 w') :=
  ⟨cellUp hU h.1, hid (h.2.out.trans hU)⟩
theorem keepC2 {w0 w w' : World} {b1 o1 b2 o2 : Nat} {v1 v2 : Value} (hU : Up w w') (h : w.cell? ⟨b1, o1, none⟩ = some v1 ∧ w.cell? ⟨b2, o2, none⟩ = some v2 ∧ Hid (Up w0 w)) :
    w'.cell? ⟨b1, o1, none⟩ = some v1 ∧ w'.cell? ⟨b2, o2, none⟩ = some v2 ∧ Hid (Up w0 w') := ⟨cellUp hU h.1, keepC1 hU h.2⟩
theorem keepC3 {w0 w w' : World} {b1 o1 b2 o2 b3 o3 : Nat} {v1 v2 v3 : Value} (hU : Up w w') (h : w.cell? ⟨b1, o1, none⟩ = some v1 ∧ w.cell? ⟨b2, o2, none⟩ = some v2 ∧ w.cell? ⟨b3, o3, none⟩ = some v3 ∧ Hid (Up w0 w)) :
    w'.cell? ⟨b1, o1, none⟩ = some v1 ∧ w'.cell? ⟨b2, o2, none⟩ = some v2 ∧ w'.cell? ⟨b3, o3, none⟩ = some v3 ∧ Hid (Up w0 w') := ⟨cellUp hU h.1, keepC2 hU h.2⟩
theorem keepC4 {w0 w w' : World} {b1 o1 b2 o2 b3 o3 b4 o4 : Nat} {v1 v2 v3 v4 : Value} (hU : Up w w') (h : w.cell? ⟨b1, o1, none⟩ = some v1 ∧ w.cell? ⟨b2, o2, none⟩ = some v2 ∧ w.cell? ⟨b3, o3, none⟩ = some v3 ∧ w.cell? ⟨b4, o4, none⟩ = some v4 ∧ Hid (Up w0 w)) :
    w'.cell? ⟨b1, o1, none⟩ = some v1 ∧ w'.cell? ⟨b2, o2, none⟩ = some v2 ∧ w'.cell? ⟨b3, o3, none⟩ = some v3 ∧ w'.cell? ⟨b4, o4, none⟩ = some v4 ∧ Hid (Up w0 w') := ⟨cellUp hU h.1, keepC3 hU h.2⟩
theorem keepC5 {w0 w w' : World} {b1 o1 b2 o2 b3 o3 b4 o4 b5 o5 : Nat} {v1 v2 v3 v4 v5 : Value} (hU : Up w w') (h : w.cell? ⟨b1, o1, none⟩ = some v1 ∧ w.cell? ⟨b2, o2, none⟩ = some v2 ∧ w.cell? ⟨b3, o3, none⟩ = some v3 ∧ w.cell? ⟨b4, o4, none⟩ = some v4 ∧ w.cell? ⟨b5, o5, none⟩ = some v5 ∧ Hid (Up w0 w)) :
    w'.cell? ⟨b1, o1, none⟩ = some v1 ∧ w'.cell? ⟨b2, o2, none⟩ = some v2 ∧ w'.cell? ⟨b3, o3, none⟩ = some v3 ∧ w'.cell? ⟨b4, o4, none⟩ = some v4 ∧ w'.cell? ⟨b5, o5, none⟩ = some v5 ∧ Hid (Up w0 w') := ⟨cellUp hU h.1, keepC4 hU h.2⟩

theorem up1 {w1 w : World} {p : Prop} (hs : p ∧ Hid (Up w1 w)) : Up w1 w := hs.2.out
theorem up2 {w1 w : World} {p q : Prop} (hs : p ∧ q ∧ Hid (Up w1 w)) : Up w1 w := hs.2.2.out
theorem up4 {w1 w : World} {p q r s : Prop} (hs : p ∧ q ∧ r ∧ s ∧ Hid (Up w1 w)) : Up w1 w := hs.2.2.2.2.out
theorem up5 {w1 w : World} {p q r s t : Prop} (hs : p ∧ q ∧ r ∧ s ∧ t ∧ Hid (Up w1 w)) : Up w1 w := hs.2.2.2.2.2.out

/-- An element of a slice, in a later world. -/
theorem ints_cell {w w' : World} {a : Option Addr} {xs : List Int} (hc : xs ≠ [] → ∃ b off, a = some ⟨b, off, none⟩ ∧ ∀ i, i < xs.length → w.cell? ⟨b, off + i, none⟩ = some (.int .i64 (xs.getD i 0))) (hU : Up w w') {i : Nat} (hi : i < xs.length) :
    ∃ b off, a = some ⟨b, off, none⟩ ∧ w'.cell? ⟨b, off + i, none⟩ = some (.int .i64 (xs.getD i 0)) := by
  obtain ⟨b, off, rfl, h⟩ := hc (by rintro rfl; simp at hi)
  exact ⟨b, off, rfl, cellUp hU (h i hi)⟩

theorem drop_step {xs : List Int} {i : Nat} (hi : i < xs.length) : xs.drop i = xs.getD i 0 :: xs.drop (i + 1) := by
  rw [List.drop_eq_getElem_cons hi]; simp [hi]
theorem getD_mem {xs : List Int} {i : Nat} (hi : i < xs.length) : xs.getD i 0 ∈ xs := by simp [hi]
end Go.Proofs.YtdlcmpbpdbpanaaDoor
namespace Go.Sp
open Go.RowKit

/-- A world in which nothing of w has turned. -/
structure UpFrom (w : World) where
  w' : World
  up : Up w w'

instance (w : World) : Nonempty (UpFrom w) := ⟨⟨w, Up.refl w⟩⟩

theorem UpFrom.frozen {w : World} {a : Addr} {x : Bool} (h : w.frozen? a = x) (ha : a.block < w.heap.size) (p : UpFrom w) : p.w'.frozen? a = x := by rw [p.up.frozen ha]; exact h

theorem wp_region_up {P : Program} {id : Nat} {Q : Exit → Act → World → Prop} {a : Act} {w : World} {l : List Oper} (hm : P.follows .mixedOrders = true) (hB : Region.lexB .any l.toArray = true)
    (h : wpQuiet P l.toArray (fun w' => ∃ p : UpFrom w, w' = p.w') (fun a' => ∀ w', (∃ p : UpFrom w, w' = p.w') → Q .normal a' w') l a) : (Code.region id l.toArray true).wp P Q a w :=
  wp_region_quiet (C := fun w' => ∃ p : UpFrom w, w' = p.w') hm hB ⟨⟨_, (Up.refl w).drew⟩, rfl⟩ (by simpa using h)

/-- A callee's contract, met in a world of the class. -/
theorem Calls.up_of {P : Program} {f : FuncId} {args : Array Value} {w : World} {p : UpFrom w} {v : Value}
    (h : Calls P f args p.w' fun e w' => e = .returned v ∧ Up p.w' w') : Calls P f args p.w' fun e w'' => e = .returned v ∧ ∃ q : UpFrom w, w'' = q.w' :=
  h.mono fun _ _ ⟨he, hu⟩ => ⟨he, ⟨_, p.up.trans hu⟩, rfl⟩

theorem Calls.up_same {P : Program} {f : FuncId} {args : Array Value} {w : World} {p : UpFrom w} {v : Value}
    (h : Calls P f args p.w' fun e w' => e = .returned v ∧ p.w' = w') : Calls P f args p.w' fun e w'' => e = .returned v ∧ ∃ q : UpFrom w, w'' = q.w' :=
  h.mono fun _ _ ⟨he, hu⟩ => ⟨he, p, hu.symm⟩
end Go.Sp
namespace Go.Proofs.YtdlcmpbpdbpanaaDoor
open Go.RowKit Go.Sp

theorem cellF {w : World} {b o : Nat} {v : Value} (h : w.cell? ⟨b, o, none⟩ = some v) (p : UpFrom w) : p.w'.cell? ⟨b, o, none⟩ = some v := cellUp p.up h

theorem GrpAt.from {w : World} {b : Nat} {P Q G : Int} (h : GrpAt w b P Q G) : (∀ p : UpFrom w, p.w'.cell? ⟨b, 0, none⟩ = some (.int .i64 P)) ∧ (∀ p : UpFrom w, p.w'.cell? ⟨b, 1, none⟩ = some (.int .i64 Q)) ∧ ∀ p : UpFrom w, p.w'.cell? ⟨b, 2, none⟩ = some (.int .i64 G) :=
  ⟨fun p => cellF h.1 p, fun p => cellF h.2.1 p, fun p => cellF h.2.2 p⟩
end Go.Proofs.YtdlcmpbpdbpanaaDoor
