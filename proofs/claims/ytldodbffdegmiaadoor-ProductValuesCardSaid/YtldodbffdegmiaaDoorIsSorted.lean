/- slices.IsSorted of integers in order. -/
import Derived.Test.YtldodbffdegmiaaDoorAwakeTen
import Derived.Test.YtldodbffdegmiaaDoorShelf
import Derived.BigQuiet
import Derived.IntWalk
namespace Go.Proofs.YtldodbffdegmiaaDoor
open Go.RowKit Go.Sp
set_option maxHeartbeats 1000000
set_option maxRecDepth 20000

theorem sorted_at {xs : List Int} (h : xs.Pairwise (· ≤ ·)) {k : Nat} (hk : k + 1 < xs.length) : xs.getD k 0 ≤ xs.getD (k + 1) 0 := by
  have := List.pairwise_iff_getElem.1 h k (k + 1) (by omega) hk (by omega)
  simpa [hk, show k < xs.length by omega] using this

theorem sorted_ok (v : Value) (xs : List Int) (w : World) (hv : IntsAt w v xs) (hs : xs.Pairwise (· ≤ ·)) :
    Calls Tryd.prog 37 #[v] w fun e w' => e = .returned (.bool true) ∧ Up w w' := by
  obtain ⟨hl, a, c, rfl, hc⟩ := hv
  have HS := hid (fun k => @sorted_at xs hs k)
  obtain ⟨n, hn⟩ : ∃ n, xs.length = n := ⟨_, rfl⟩
  have HC := hid hc
  have HN := hid hn
  rw [hn] at hl
  rw [hn]
  clear hn hs hc
  go_enter Tryd.func37, Tryd.ntmps37
  go_wp2_with fail
  go_loopw [3] (fun vi wr => ∃ j : Int, j < n ∧ -1 ≤ j ∧ vi = .int .i64 j ∧ Up w wr ∧ (∀ a, wr.cell? a = w.cell? a)) (fun vi _ => (intOf vi).toNat)
  case atStart => exact ⟨(n : Int) - 1, by omega, by omega, rfl, Up.refl w, fun _ => rfl⟩
  case round =>
    obtain ⟨j, hj, hj0, rfl, hU, hsame⟩ := hrel
    have HM := hid hsame
    have HU := hid hU
    clear hU hsame
    by_cases hlt : 0 < j
    · obtain ⟨k, rfl⟩ : ∃ k : Nat, j = (k : Int) + 1 := ⟨(j - 1).toNat, by omega⟩
      obtain ⟨b, off, rfl, hcell⟩ := HC.out (by rintro rfl; have := HN.out; simp at this; omega)
      have hk : k + 1 < xs.length := by rw [HN.out]; omega
      have p0 := hcell k (by omega)
      have p1 := hcell (k + 1) hk
      have hle := HS.out k hk
      rw [← HM.out] at p0 p1
      clear hcell hk
      generalize xs.getD k 0 = y at *
      generalize xs.getD (k + 1) 0 = x at *
      have hlt2 : decide (x < y) = false := by simp; omega
      have HL : Hid (∀ w', Calls Tryd.prog 90 #[.int .i64 x, .int .i64 y] w' fun e w2 => e = .returned (.bool false) ∧ w2 = w') := hid (fun w' => by
        have := Tryd.cmp_Less_int2 x y w'
        rw [hlt2] at this
        exact this)
      have hw : IntKind.i64.wrap ((k : Int) + 1 - 1) = k := by rw [show (k : Int) + 1 - 1 = k by omega]; exact IntWalk.i64_in _ (by omega)
      clear hle hlt2
      go_wp2_with fail
      go_quiet ((go_at_call 90; exact Calls.quiet_of_same (HL.out _)))
      go_wp2_with fail
      have hm : (intOf (Value.int .i64 (k : Int))).toNat < (intOf (Value.int .i64 ((k : Int) + 1))).toNat := by simp [intOf]
      exact ⟨⟨k, by omega, by omega, rfl, by simpa using HU.out.drewN _, fun a => by simpa using HM.out a⟩, hm⟩
    · go_wp2
      go_ret
      exact ⟨rfl, HU.out⟩
end Go.Proofs.YtldodbffdegmiaaDoor
