/- The frame of all contracts: 'Up w w'': what was there when the call began is there still. Plain arithmetic of a division of two words by one (Knuth): the estimate of a digit, its corrections. No program in sight. -/
import Derived.WalkKit
import Derived.WalkSpells
import Derived.Handy
import Derived.WalkSmall
namespace Go.Sp
open Go.RowKit

theorem hid {p : Prop} (h : p) : Hid p := h

/-- Nothing that was there has turned. -/
def Up (w w' : World) : Prop := Below w.heap.size w w'

theorem Up.refl (w : World) : Up w w := Below.refl _ _
theorem Up.trans {a b c : World} (h : Up a b) (k : Up b c) : Up a c := Below.trans h (k.mono (Below.size h))
theorem Up.alloc {w w' : World} (h : Up w w') (o : Obj) : Up w (w'.alloc o) := Below.alloc h (Below.size h) o
theorem Up.drew {w w' : World} (h : Up w w') : Up w w'.drew := Below.drew h
theorem Up.drewN {w w' : World} (h : Up w w') (n : Nat) : Up w (w'.drewN n) := below_drewN h n
theorem Up.setCell {w w' : World} (h : Up w w') {a : Addr} (ha : w.heap.size ≤ a.block) (v : Value) : Up w (w'.setCell a v) := Below.setCell h ha v
theorem Up.size {w w' : World} (h : Up w w') : w.heap.size ≤ w'.heap.size := Below.size h
theorem Up.cell {w w' : World} (h : Up w w') {a : Addr} (ha : a.block < w.heap.size) : w'.cell? a = w.cell? a := Below.cell h ha
theorem Up.frozen {w w' : World} (h : Up w w') {a : Addr} (ha : a.block < w.heap.size) : w'.frozen? a = w.frozen? a := Below.frozen h ha
theorem Up.block {w w' : World} (h : Up w w') {k : Nat} (hk : k < w.heap.size) : w'.heap[k]? = w.heap[k]? := Below.block h k hk
theorem Up.below {w w' : World} (h : Up w w') : Below w.heap.size w w' := h

/-- Old cells, and their marks, read as they did: two rules for the walk. -/
theorem Up.reads {w w' : World} (h : Up w w') : (∀ b o, b < w.heap.size → w'.cell? ⟨b, o, none⟩ = w.cell? ⟨b, o, none⟩) ∧ (∀ b o, b < w.heap.size → w'.frozen? ⟨b, o, none⟩ = w.frozen? ⟨b, o, none⟩) :=
  ⟨fun _ _ hb => h.cell hb, fun _ _ hb => h.frozen hb⟩

end Go.Sp
namespace Go.Sp.Dv

/-- The estimate: U below Y = y1 B + y0. -/
theorem init {U y1 y0 n1 : Int} (h1 : 2147483648 ≤ y1) (h2 : y1 < 4294967296) (h3 : 0 ≤ y0) (h4 : y0 < 4294967296) (hU : 0 ≤ U) (hY : U < y1 * 4294967296 + y0) (hn : 0 ≤ n1) (hn2 : n1 < 4294967296) :
    0 ≤ U / y1 ∧ U / y1 ≤ 4294967297 ∧ 0 ≤ U - U / y1 * y1 ∧ U - U / y1 * y1 < y1 ∧ (U * 4294967296 + n1) / (y1 * 4294967296 + y0) ≤ U / y1 := by
  have e := Int.mul_ediv_add_emod U y1
  have m0 := Int.emod_nonneg U (show y1 ≠ 0 by omega)
  have m1 := Int.emod_lt_of_pos U (show 0 < y1 by omega)
  rw [Int.mul_comm] at e
  generalize U / y1 = q at *
  generalize U % y1 = r at *
  have q0 : 0 ≤ q := by
    refine Int.not_lt.1 fun hq => ?_
    have : q * y1 ≤ (-1) * y1 := Int.mul_le_mul_of_nonneg_right (by omega) (by omega)
    omega
  have q1 : q ≤ 4294967297 := by
    refine Int.not_lt.1 fun hq => ?_
    have : 4294967298 * y1 ≤ q * y1 := Int.mul_le_mul_of_nonneg_right (by omega) (by omega)
    omega
  refine ⟨q0, q1, by omega, by omega, ?_⟩
  refine Int.lt_add_one_iff.1 (Int.ediv_lt_of_lt_mul (by omega) ?_)
  have g : (q + 1) * (y1 * 4294967296 + y0) = q * y1 * 4294967296 + y1 * 4294967296 + (q * y0 + y0) := by grind
  have g2 : 0 ≤ q * y0 := Int.mul_nonneg q0 h3
  rw [g]
  generalize q * y1 = s at *
  generalize q * y0 = t at *
  omega

/-- The test says yes: the estimate is too great. -/
theorem down {U q r y1 y0 n1 : Int} (hr : q * y1 + r = U) (hU : 0 ≤ U) (hY : U < y1 * 4294967296 + y0) (hn : 0 ≤ n1) (hn2 : n1 < 4294967296)
    (ht : 4294967296 ≤ q ∨ 4294967296 * r + n1 < q * y0) : (U * 4294967296 + n1) / (y1 * 4294967296 + y0) ≤ q - 1 := by
  refine Int.lt_add_one_iff.1 (Int.ediv_lt_of_lt_mul (by omega) ?_)
  rw [show q - 1 + 1 = q by omega]
  have g : q * (y1 * 4294967296 + y0) = q * y1 * 4294967296 + q * y0 := by grind
  rcases ht with ht | ht
  · have := Int.mul_le_mul_of_nonneg_right ht (show (0 : Int) ≤ y1 * 4294967296 + y0 by omega)
    omega
  · rw [g]
    generalize q * y1 = s at *
    generalize q * y0 = t at *
    omega

/-- The test says no: the estimate is the digit. -/
theorem stop {U q r y1 y0 n1 : Int} (hr : q * y1 + r = U) (h1 : 2147483648 ≤ y1) (h3 : 0 ≤ y0)
    (hq : (U * 4294967296 + n1) / (y1 * 4294967296 + y0) ≤ q) (ht : q * y0 ≤ 4294967296 * r + n1) : (U * 4294967296 + n1) / (y1 * 4294967296 + y0) = q := by
  refine Int.le_antisymm hq ?_
  refine (Int.le_ediv_iff_mul_le (by omega)).2 ?_
  have g : q * (y1 * 4294967296 + y0) = q * y1 * 4294967296 + q * y0 := by grind
  rw [g]
  generalize q * y1 = s at *
  generalize q * y0 = t at *
  omega

/-- The rest has grown beyond a digit: likewise. -/
theorem over {U q r y1 y0 n1 : Int} (hr : q * y1 + r = U) (h1 : 2147483648 ≤ y1) (h3 : 0 ≤ y0) (h4 : y0 < 4294967296) (hn : 0 ≤ n1)
    (hq : (U * 4294967296 + n1) / (y1 * 4294967296 + y0) ≤ q) (hb : q ≤ 4294967296) (ht : 4294967296 ≤ r) : (U * 4294967296 + n1) / (y1 * 4294967296 + y0) = q := by
  refine stop hr h1 h3 hq ?_
  have := Int.mul_le_mul_of_nonneg_right hb h3
  omega

/-- The products that the test makes do not wrap. -/
theorem small {q y0 : Int} (q0 : 0 ≤ q) (q1 : q ≤ 4294967297) (h3 : 0 ≤ y0) (h4 : y0 < 4294967296) : 0 ≤ q * y0 ∧ q * y0 ≤ 18446744073709551615 := by
  have a := Int.mul_le_mul q1 (show y0 ≤ 4294967295 by omega) h3 (by omega)
  exact ⟨Int.mul_nonneg q0 h3, by omega⟩

/-- The rest of a digit's step, as the 64-bit numbers give it. -/
theorem rest {U Y n1 q : Int} (hY : 0 < Y) (hYs : Y ≤ 18446744073709551615) (hq : (U * 4294967296 + n1) / Y = q) :
    ((U * 4294967296 % 18446744073709551616 + n1) % 18446744073709551616 - q * Y % 18446744073709551616) % 18446744073709551616 = (U * 4294967296 + n1) % Y := by
  have e := Int.mul_ediv_add_emod (U * 4294967296 + n1) Y
  rw [hq, Int.mul_comm] at e
  have m0 := Int.emod_nonneg (U * 4294967296 + n1) (show Y ≠ 0 by omega)
  have m1 := Int.emod_lt_of_pos (U * 4294967296 + n1) hY
  generalize q * Y = s at *
  omega

theorem div_two {T Y n0 : Int} (hY : 0 < Y) :
    (T * 4294967296 + n0) / Y = T / Y * 4294967296 + (T % Y * 4294967296 + n0) / Y ∧ (T * 4294967296 + n0) % Y = (T % Y * 4294967296 + n0) % Y := by
  have e := Int.mul_ediv_add_emod T Y
  have k : T * 4294967296 + n0 = T % Y * 4294967296 + n0 + T / Y * 4294967296 * Y := by
    have : T / Y * 4294967296 * Y = Y * (T / Y) * 4294967296 := by grind
    omega
  constructor
  · rw [k, Int.add_mul_ediv_right _ _ (by omega)]; omega
  · rw [k, Int.add_mul_emod_self_right]

/-- A division by a multiple. -/
theorem scaled (N z : Int) (k : Int) (hk : 0 < k) : N * k / (z * k) = N / z ∧ N * k % (z * k) = N % z * k := by
  constructor
  · exact Int.mul_ediv_mul_of_pos_left _ _ hk
  · have e := Int.mul_ediv_add_emod (N * k) (z * k)
    rw [Int.mul_ediv_mul_of_pos_left _ _ hk] at e
    have e2 := Int.mul_ediv_add_emod N z
    have : z * k * (N / z) = z * (N / z) * k := by grind
    have h3 : N * k = z * (N / z) * k + N % z * k := by rw [← Int.add_mul, e2]
    omega
end Go.Sp.Dv
