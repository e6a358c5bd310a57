/- The examples of layer 10. -/
import Derived.Test.YtmbbnjbohnobcaaDoorSortA
import Derived.Test.YtmbbnjbohnobcaaDoorBoxes
import Derived.LoopN
namespace Go.Proofs.YtmbbnjbohnobcaaDoor
open Go.RowKit Go.Sp Go.Sort
set_option maxHeartbeats 400000

theorem gv_small : gvB 23 11 4 = true := by decide +kernel

/-- A slice over a block that holds just its elements. -/
theorem ints_blk {w : World} {b cap n : Nat} {xs : List Int} {t : TypeId} {fr : Nat × Nat} (hb : w.heap[b]? = some (.cells (xs.map (Value.int .i64)).toArray t fr)) (hn : n = xs.length) (hl : xs.length ≤ 9223372036854775807) : IntsAt w (.slice (some ⟨b, 0, none⟩) n cap) xs := by
  subst hn
  exact ints_at hl fun i hi => by simp [World.cell?, hb, hi]

end Go.Proofs.YtmbbnjbohnobcaaDoor
