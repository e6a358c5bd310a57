/- The frame of all contracts: 'Up w w'': what was there when the call began is there still. -/
import Derived.WalkKit
import Derived.WalkSpells
import Derived.Handy
import Derived.WalkSmall
namespace Go.Sp
open Go.RowKit

theorem hid {p : Prop} (h : p) : Hid p := h

/-- Nothing that was there has turned. -/
def Up (w w' : World) : Prop := Below w.heap.size w w'

theorem Up.refl (w : World) : Up w w := Below.refl _ _
theorem Up.trans {a b c : World} (h : Up a b) (k : Up b c) : Up a c := Below.trans h (k.mono (Below.size h))
theorem Up.alloc {w w' : World} (h : Up w w') (o : Obj) : Up w (w'.alloc o) := Below.alloc h (Below.size h) o
theorem Up.drew {w w' : World} (h : Up w w') : Up w w'.drew := Below.drew h
theorem Up.drewN {w w' : World} (h : Up w w') (n : Nat) : Up w (w'.drewN n) := below_drewN h n
theorem Up.setCell {w w' : World} (h : Up w w') {a : Addr} (ha : w.heap.size ≤ a.block) (v : Value) : Up w (w'.setCell a v) := Below.setCell h ha v
theorem Up.size {w w' : World} (h : Up w w') : w.heap.size ≤ w'.heap.size := Below.size h
theorem Up.cell {w w' : World} (h : Up w w') {a : Addr} (ha : a.block < w.heap.size) : w'.cell? a = w.cell? a := Below.cell h ha
theorem Up.frozen {w w' : World} (h : Up w w') {a : Addr} (ha : a.block < w.heap.size) : w'.frozen? a = w.frozen? a := Below.frozen h ha
theorem Up.block {w w' : World} (h : Up w w') {k : Nat} (hk : k < w.heap.size) : w'.heap[k]? = w.heap[k]? := Below.block h k hk
theorem Up.below {w w' : World} (h : Up w w') : Below w.heap.size w w' := h

/-- Old cells, and their marks, read as they did: two rules for the walk. -/
theorem Up.reads {w w' : World} (h : Up w w') : (∀ b o, b < w.heap.size → w'.cell? ⟨b, o, none⟩ = w.cell? ⟨b, o, none⟩) ∧ (∀ b o, b < w.heap.size → w'.frozen? ⟨b, o, none⟩ = w.frozen? ⟨b, o, none⟩) :=
  ⟨fun _ _ hb => h.cell hb, fun _ _ hb => h.frozen hb⟩

end Go.Sp
