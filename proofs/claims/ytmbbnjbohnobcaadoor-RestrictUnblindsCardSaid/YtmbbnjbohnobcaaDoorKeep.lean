/- What a region that draws its order keeps: loaded cells, and that nothing old has turned. -/
import Derived.Test.YtmbbnjbohnobcaaDoorBoxes
import Derived.Deep.RegionHeld3
namespace Go.Proofs.YtmbbnjbohnobcaaDoor
open Go.RowKit Go.Sp

theorem cellUp {w w' : World} {b o : Nat} {v : Value} (hU : Up w w') (h : w.cell? ⟨b, o, none⟩ = some v) : w'.cell? ⟨b, o, none⟩ = some v := by
  rw [hU.cell (cell_lt h)]; exact h

theorem keepC1 {w0 w w' : World} {b1 o1 : Nat} {v1 : Value} (hU : Up w w') (h : w.cell? ⟨b1, o1, none⟩ = some v1 ∧ Hid (Up w0 w)) : w'.cell? ⟨b1, o1, none⟩ = some v1 ∧ Hid (Up w0 w') :=
  ⟨cellUp hU h.1, hid (h.2.out.trans hU)⟩
theorem keepC2 {w0 w w' : World} {b1 o1 b2 o2 : Nat} {v1 v2 : Value} (hU : Up w w') (h : w.cell? ⟨b1, o1, none⟩ = some v1 ∧ w.cell? ⟨b2, o2, none⟩ = some v2 ∧ Hid (Up w0 w)) :
    w'.cell? ⟨b1, o1, none⟩ = some v1 ∧ w'.cell? ⟨b2, o2, none⟩ = some v2 ∧ Hid (Up w0 w') := ⟨cellUp hU h.1, keepC1 hU h.2⟩
theorem keepC3 {w0 w w' : World} {b1 o1 b2 o2 b3 o3 : Nat} {v1 v2 v3 : Value} (hU : Up w w') (h : w.cell? ⟨b1, o1, none⟩ = some v1 ∧ w.cell? ⟨b2, o2, none⟩ = some v2 ∧ w.cell? ⟨b3, o3, none⟩ = some v3 ∧ Hid (Up w0 w)) :
    w'.cell? ⟨b1, o1, none⟩ = some v1 ∧ w'.cell? ⟨b2, o2, none⟩ = some v2 ∧ w'.cell? ⟨b3, o3, none⟩ = some v3 ∧ Hid (Up w0 w') := ⟨cellUp hU h.1, keepC2 hU h.2⟩
theorem keepC4 {w0 w w' : World} {b1 o1 b2 o2 b3 o3 b4 o4 : Nat} {v1 v2 v3 v4 : Value} (hU : Up w w') (h : w.cell? ⟨b1, o1, none⟩ = some v1 ∧ w.cell? ⟨b2, o2, none⟩ = some v2 ∧ w.cell? ⟨b3, o3, none⟩ = some v3 ∧ w.cell? ⟨b4, o4, none⟩ = some v4 ∧ Hid (Up w0 w)) :
    w'.cell? ⟨b1, o1, none⟩ = some v1 ∧ w'.cell? ⟨b2, o2, none⟩ = some v2 ∧ w'.cell? ⟨b3, o3, none⟩ = some v3 ∧ w'.cell? ⟨b4, o4, none⟩ = some v4 ∧ Hid (Up w0 w') := ⟨cellUp hU h.1, keepC3 hU h.2⟩
theorem keepC5 {w0 w w' : World} {b1 o1 b2 o2 b3 o3 b4 o4 b5 o5 : Nat} {v1 v2 v3 v4 v5 : Value} (hU : Up w w') (h : w.cell? ⟨b1, o1, none⟩ = some v1 ∧ w.cell? ⟨b2, o2, none⟩ = some v2 ∧ w.cell? ⟨b3, o3, none⟩ = some v3 ∧ w.cell? ⟨b4, o4, none⟩ = some v4 ∧ w.cell? ⟨b5, o5, none⟩ = some v5 ∧ Hid (Up w0 w)) :
    w'.cell? ⟨b1, o1, none⟩ = some v1 ∧ w'.cell? ⟨b2, o2, none⟩ = some v2 ∧ w'.cell? ⟨b3, o3, none⟩ = some v3 ∧ w'.cell? ⟨b4, o4, none⟩ = some v4 ∧ w'.cell? ⟨b5, o5, none⟩ = some v5 ∧ Hid (Up w0 w') := ⟨cellUp hU h.1, keepC4 hU h.2⟩

theorem up1 {w1 w : World} {p : Prop} (hs : p ∧ Hid (Up w1 w)) : Up w1 w := hs.2.out
theorem up2 {w1 w : World} {p q : Prop} (hs : p ∧ q ∧ Hid (Up w1 w)) : Up w1 w := hs.2.2.out
theorem up4 {w1 w : World} {p q r s : Prop} (hs : p ∧ q ∧ r ∧ s ∧ Hid (Up w1 w)) : Up w1 w := hs.2.2.2.2.out
theorem up5 {w1 w : World} {p q r s t : Prop} (hs : p ∧ q ∧ r ∧ s ∧ t ∧ Hid (Up w1 w)) : Up w1 w := hs.2.2.2.2.2.out

/-- An element of a slice, in a later world. -/
theorem ints_cell {w w' : World} {a : Option Addr} {xs : List Int} (hc : xs ≠ [] → ∃ b off, a = some ⟨b, off, none⟩ ∧ ∀ i, i < xs.length → w.cell? ⟨b, off + i, none⟩ = some (.int .i64 (xs.getD i 0))) (hU : Up w w') {i : Nat} (hi : i < xs.length) :
    ∃ b off, a = some ⟨b, off, none⟩ ∧ w'.cell? ⟨b, off + i, none⟩ = some (.int .i64 (xs.getD i 0)) := by
  obtain ⟨b, off, rfl, h⟩ := hc (by rintro rfl; simp at hi)
  exact ⟨b, off, rfl, cellUp hU (h i hi)⟩

theorem drop_step {xs : List Int} {i : Nat} (hi : i < xs.length) : xs.drop i = xs.getD i 0 :: xs.drop (i + 1) := by
  rw [List.drop_eq_getElem_cons hi]; simp [hi]
theorem getD_mem {xs : List Int} {i : Nat} (hi : i < xs.length) : xs.getD i 0 ∈ xs := by simp [hi]
end Go.Proofs.YtmbbnjbohnobcaaDoor
