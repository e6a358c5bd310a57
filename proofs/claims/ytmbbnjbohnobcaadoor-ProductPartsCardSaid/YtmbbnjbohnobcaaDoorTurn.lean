/- slices.Clone and slices.Reverse at lists of integers. -/
import Derived.Test.YtmbbnjbohnobcaaDoorOwnB
namespace Go.Proofs.YtmbbnjbohnobcaaDoor
open Go.RowKit Go.Sp Go.Sort

theorem clone_any (v : Value) (xs : List Int) (w : World) (h : IntsAt w v xs) (hl : xs.length ≤ 1000) :
    Calls Tryd.prog 15 #[v] w fun e w' => ∃ v', e = .returned v' ∧ OwnI w' w.heap.size v' xs ∧ Up w w' := by
  obtain ⟨_, a, cap, rfl, hc⟩ := h
  by_cases hx : xs = []
  · subst hx
    cases a with
    | none =>
      refine (Tryd.slices_Clone_int_nil 0 cap w).mono ?_
      rintro e w' ⟨rfl, rfl⟩
      exact ⟨_, rfl, ⟨by simp, .inl ⟨rfl, rfl⟩⟩, Up.refl _⟩
    | some a =>
      refine (Tryd.slices_Clone_int_zero a cap w).mono ?_
      rintro e w' ⟨v', rfl, hO, _, hB⟩
      exact ⟨v', rfl, hO, hB⟩
  · obtain ⟨b, off, rfl, hcell⟩ := hc hx
    refine (Tryd.slices_Clone_int b off xs.length cap xs w (Nat.le_refl _) (by omega) hcell).mono ?_
    rintro e w' ⟨v', rfl, hO, _, hB⟩
    rw [List.take_length] at hO
    exact ⟨v', rfl, hO, hB⟩

theorem rev_own {w : World} {base : Nat} {v : Value} {xs : List Int} (h : OwnI w base v xs) (hz : xs.length < 4611686018427387904) :
    Calls Tryd.prog 16 #[v] w fun e w' => e = .returned (.tuple #[]) ∧ OwnI w' base v xs.reverse ∧ w.grownBy w' v.ownBlock := by
  rcases h.2 with ⟨hv, hn⟩ | ⟨g, cap, cur, rfl, hb, hg, hn, hm, hs, ht⟩
  · subst hv
    have hx : xs = [] := List.length_eq_zero_iff.1 hn
    subst hx
    refine (Tryd.slices_Reverse_int_empty none 0 w).mono ?_
    rintro e w' ⟨he, rfl⟩
    exact ⟨he, h, World.grownBy.refl _ _⟩
  · have hH := holds_of_blockI hg (by simpa using ht)
    refine (Tryd.slices_Reverse_int g 0 cap xs w hH (by omega)).mono ?_
    rintro e w' ⟨he, n, rfl⟩
    have hg0 : Go.Sort.grow (Go.Sort.putRow (Value.int .i64) (Go.Sort.ahead w n) g 0 xs.reverse.toArray) #[] = Go.Sort.putRow (Value.int .i64) (Go.Sort.ahead w n) g 0 xs.reverse.toArray := Go.Sort.grow_empty _
    rw [← hg0]
    refine ⟨he, ?_, grownBy_sortedI _⟩
    have hl : xs.reverse.length = xs.length := by simp
    unfold OwnI
    rw [hl]
    exact ownsRow_sortedI hl hb hg hn hm hs
end Go.Proofs.YtmbbnjbohnobcaaDoor
