/- Library functions that are handed a function. The helpers of the statements of layer 10. -/
import Derived.Test.YtdlcmpbpdbpanaaDoorMRestrictChallenges6
namespace Go.Proofs.YtdlcmpbpdbpanaaDoor
open Go.RowKit Go.Sp
set_option maxHeartbeats 400000

/-- The place of the first number that p says yes to; -1 if there is none. -/
def idxI (p : Int → Bool) : List Int → Nat → Int
  | [], _ => -1
  | x :: l, k => if p x = true then (k : Int) else idxI p l (k + 1)

theorem idxI_nonneg (p : Int → Bool) : ∀ (xs : List Int) (k : Nat), decide (0 ≤ idxI p xs k) = xs.any p
  | [], _ => rfl
  | x :: l, k => by
    rw [idxI, List.any_cons]
    by_cases h : p x = true
    · rw [if_pos h, h]; simp
    · rw [if_neg h, idxI_nonneg p l (k + 1)]; simp [h]

end Go.Proofs.YtdlcmpbpdbpanaaDoor
namespace Go.Proofs.YtdlcmpbpdbpanaaDoor
open Go.RowKit Go.Sp
set_option maxHeartbeats 400000

/-- A group in a variable's block. -/
def GrpAt (w : World) (b : Nat) (P Q G : Int) : Prop :=
  w.cell? ⟨b, 0, none⟩ = some (.int .i64 P) ∧ w.cell? ⟨b, 1, none⟩ = some (.int .i64 Q) ∧ w.cell? ⟨b, 2, none⟩ = some (.int .i64 G)

theorem GrpAt.up {w w' : World} {b : Nat} {P Q G : Int} (h : GrpAt w b P Q G) (hU : Up w w') : GrpAt w' b P Q G := by
  obtain ⟨h0, h1, h2⟩ := h
  have hb := cell_lt h0
  exact ⟨by rw [hU.cell hb]; exact h0, by rw [hU.cell hb]; exact h1, by rw [hU.cell hb]; exact h2⟩

theorem any_not (p : Int → Bool) : ∀ xs : List Int, xs.any (fun x => !p x) = !xs.all p
  | [] => rfl
  | x :: l => by rw [List.any_cons, List.all_cons, any_not p l]; simp

end Go.Proofs.YtdlcmpbpdbpanaaDoor
