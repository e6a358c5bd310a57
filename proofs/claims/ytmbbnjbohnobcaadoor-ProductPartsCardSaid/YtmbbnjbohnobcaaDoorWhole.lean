/- Blocks that are known whole. -/
import Derived.Test.YtmbbnjbohnobcaaDoorOwnB
namespace Go.Proofs.YtmbbnjbohnobcaaDoor
open Go.RowKit Go.Sp

/-- A block that is known whole. -/
def BoxAt (w : World) (g : Nat) (t : TypeId) (cs : Array Value) : Prop := w.heap[g]? = some (.cells cs t (0, 0))

section
variable {w w' : World} {g : Nat} {t : TypeId} {cs : Array Value}
theorem BoxAt.lt (h : BoxAt w g t cs) : g < w.heap.size := (Array.getElem?_eq_some_iff.1 h).1
theorem BoxAt.read (h : BoxAt w g t cs) (i : Nat) : w.cell? ⟨g, i, none⟩ = cs[i]? := by
  have h1 : w.heap[g]? = some (.cells cs t (0, 0)) := h
  simp [World.cell?, h1]
theorem BoxAt.val (h : BoxAt w g t cs) {i : Nat} {v : Value} (hv : cs[i]? = some v) : w.cell? ⟨g, i, none⟩ = some v := by rw [h.read i]; exact hv
theorem BoxAt.thawed (h : BoxAt w g t cs) (i : Nat) : w.frozen? ⟨g, i, none⟩ = false := by
  have h1 : w.heap[g]? = some (.cells cs t (0, 0)) := h
  simp [World.frozen?, h1]
theorem BoxAt.up (h : BoxAt w g t cs) (hU : Up w w') : BoxAt w' g t cs := (hU.block h.lt).trans h
theorem BoxAt.alloc (h : BoxAt w g t cs) (o : Obj) : BoxAt (w.alloc o) g t cs := h.up ((Up.refl w).alloc o)
theorem BoxAt.new (w : World) (t : TypeId) (cs : Array Value) : BoxAt (w.alloc (.cells cs t)) w.heap.size t cs := alloc_at w _ _ rfl
theorem BoxAt.grew {row : Option Nat} (h : BoxAt w g t cs) (hg : w.grownBy w' row) (hr : some g ≠ row) : BoxAt w' g t cs := (hg.block g h.lt hr).trans h
theorem BoxAt.below {B : Nat} (h : BoxAt w g t cs) (hb : Below B w w') (hg : g < B) : BoxAt w' g t cs := (hb.block g hg).trans h
theorem BoxAt.apart (h : BoxAt w g t cs) {a : Addr} (ha : g ≠ a.block) (v : Value) : BoxAt (w.setCell a v) g t cs := (Below.heap_setCell w a v g ha).trans h
theorem BoxAt.wrote (h : BoxAt w g t cs) (i : Nat) (v : Value) : BoxAt (w.setCell ⟨g, i, none⟩ v) g t (cs.setIfInBounds i v) := by
  have h1 : w.heap[g]? = some (.cells cs t (0, 0)) := h
  unfold BoxAt
  simp [World.setCell, Array.getElem?_modify, h1]
end

theorem GrpAt.apart {w : World} {b : Nat} {P Q G : Int} (h : GrpAt w b P Q G) {a : Addr} (ha : b ≠ a.block) (v : Value) : GrpAt (w.setCell a v) b P Q G := by
  have hk := Below.heap_setCell w a v b ha
  exact ⟨by rw [World.cell?_of_block hk]; exact h.1, by rw [World.cell?_of_block hk]; exact h.2.1, by rw [World.cell?_of_block hk]; exact h.2.2⟩

theorem OwnI.keep {w w' : World} {base : Nat} {v : Value} {xs : List Int} (h : OwnI w base v xs) (hk : ∀ k, base ≤ k → k < w.heap.size → w'.heap[k]? = w.heap[k]?) : OwnI w' base v xs := by
  refine ⟨h.1, ?_⟩
  rcases h.2 with hn | ⟨g, cap, cur, rfl, hb, hgg, rest⟩
  · exact .inl hn
  · refine .inr ⟨g, cap, cur, rfl, hb, ?_, rest⟩
    rw [hk g hb (Array.getElem?_eq_some_iff.1 hgg).1]
    exact hgg

theorem OwnI.apart {w : World} {base : Nat} {v : Value} {xs : List Int} (h : OwnI w base v xs) {a : Addr} (ha : a.block < base) (u : Value) : OwnI (w.setCell a u) base v xs :=
  h.keep fun k hk _ => Below.heap_setCell w a u k (by omega)

theorem second_box {w w1 : World} {o : Obj} {t : TypeId} {cs : Array Value} (hU : Up ((w.alloc o).alloc (.cells cs t)) w1) : BoxAt w1 (w.heap.size + 1) t cs := by
  have h := BoxAt.up (BoxAt.new (w.alloc o) t cs) hU
  simpa using h

theorem second_cell {w w1 : World} {o : Obj} {t : TypeId} {u : Value} (hU : Up ((w.alloc o).alloc (.cells #[u] t)) w1) : w1.cell? ⟨w.heap.size + 1, 0, none⟩ = some u := (second_box hU).val rfl
end Go.Proofs.YtmbbnjbohnobcaaDoor
