/- Boxes of groups; short slices. -/
import Derived.Test.YtmbbnjbohnobcaaDoorLawTen
namespace Go.Proofs.YtmbbnjbohnobcaaDoor
open Go.RowKit Go.Sp
set_option maxHeartbeats 1000000

theorem alloc_at (w : World) (o : Obj) (b : Nat) (h : b = w.heap.size) : (w.alloc o).heap[b]? = some o := by
  subst h
  show (w.heap.push o)[w.heap.size]? = some o
  simp

theorem chk_cases {P Q G : Int} {xs : List Int} (h : chkI P Q G xs = 0) : gvB P Q G = true ∧ ∀ x ∈ xs, elB P Q x = true := by
  unfold chkI at h
  split at h
  · split at h
    · rename_i h1 h2; exact ⟨h1, fun x hx => List.all_eq_true.1 h2 x hx⟩
    · cases h
  · cases h

theorem ints_three {w : World} {b cap : Nat} {x y z : Int} (h : w.cell? ⟨b, 0, none⟩ = some (.int .i64 x)) (h1 : w.cell? ⟨b, 1, none⟩ = some (.int .i64 y)) (h2 : w.cell? ⟨b, 2, none⟩ = some (.int .i64 z)) : IntsAt w (.slice (some ⟨b, 0, none⟩) 3 cap) [x, y, z] :=
  ints_at (xs := [x, y, z]) (by simp) fun i hi => by
    have : i = 0 ∨ i = 1 ∨ i = 2 := by simp at hi; omega
    rcases this with rfl | rfl | rfl
    · exact h
    · exact h1
    · exact h2

theorem box_reads {w w1 : World} {P Q G : Int} {o : Obj} (ho : o = .cells #[.int .i64 P, .int .i64 Q, .int .i64 G] 23) (hU : Up (w.alloc o) w1) : GrpAt w1 w.heap.size P Q G := by
  have hb := alloc_at w o _ rfl
  have hlt : w.heap.size < (w.alloc o).heap.size := by simp
  have hk := hU.block hlt
  rw [hb, ho] at hk
  exact ⟨by simp [World.cell?, hk], by simp [World.cell?, hk], by simp [World.cell?, hk]⟩
end Go.Proofs.YtmbbnjbohnobcaaDoor
