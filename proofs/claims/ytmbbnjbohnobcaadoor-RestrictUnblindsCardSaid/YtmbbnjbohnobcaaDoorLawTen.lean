/- The helpers of the statements of layer 10. -/
import Derived.Test.YtmbbnjbohnobcaaDoorFuncs
namespace Go.Proofs.YtmbbnjbohnobcaaDoor
open Go.RowKit Go.Sp
set_option maxHeartbeats 400000

/-- A group in a variable's block. -/
def GrpAt (w : World) (b : Nat) (P Q G : Int) : Prop :=
  w.cell? ⟨b, 0, none⟩ = some (.int .i64 P) ∧ w.cell? ⟨b, 1, none⟩ = some (.int .i64 Q) ∧ w.cell? ⟨b, 2, none⟩ = some (.int .i64 G)

theorem GrpAt.up {w w' : World} {b : Nat} {P Q G : Int} (h : GrpAt w b P Q G) (hU : Up w w') : GrpAt w' b P Q G := by
  obtain ⟨h0, h1, h2⟩ := h
  have hb := cell_lt h0
  exact ⟨by rw [hU.cell hb]; exact h0, by rw [hU.cell hb]; exact h1, by rw [hU.cell hb]; exact h2⟩

theorem any_not (p : Int → Bool) : ∀ xs : List Int, xs.any (fun x => !p x) = !xs.all p
  | [] => rfl
  | x :: l => by rw [List.any_cons, List.all_cons, any_not p l]; simp

end Go.Proofs.YtmbbnjbohnobcaaDoor
