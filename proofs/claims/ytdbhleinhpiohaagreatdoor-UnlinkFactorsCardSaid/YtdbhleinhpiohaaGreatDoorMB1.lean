/- The frame of all contracts: 'Up w w'': what was there when the call began is there still. Plain arithmetic of a division of two words by one (Knuth): the estimate of a digit, its corrections. No program in sight. DERIVED: THE SHELF's CONTRACTS AT THIS DUMP, IN PLAIN WORDS (tools/lay-plain.mjs out of 'TryzShelf.lean', which tools/lay-shelf.mjs wrote): THE SAME DECLARATIONS UNDER THE SAME NAMES: 'import', 'namespace', 'open', 'def', 'theorem' AND NOTHING ELSE: no command of the shelf's: FOR A HAND-IN. Each laying: the table of numbers ('.._ren') and one theorem, a field a fact of the dump's own or the kernel's comparison; each contract: ONE APPLICATION. math/bits.Mul64 and math/bits.Div64, by walking their text. Plain arithmetic modulo m on integers: products, powers by squaring, the strong test. No program in sight. -/
import Derived.Test.YtdbhleinhpiohaaGreatDoorProg
import Derived.WalkKit
import Derived.WalkSpells
import Derived.Handy
import Derived.WalkSmall
import Derived.Shelf.Small.Bits
import Derived.Shelf.Strconv.Itoa0
import Derived.Shelf.Bits.Mul64
import Derived.Deep.CutRange
import Derived.Deep.CutBlock
import Derived.Deep.QuietTactic
import Derived.BigQuiet
import Derived.Lib.BitFns
import Derived.Lib.ItoaNum
import Derived.Lib.TrailingZeros
namespace Go.Sp
open Go.RowKit

theorem hid {p : Prop} (h : p) : Hid p := h

/-- Nothing that was there has turned. -/
def Up (w w' : World) : Prop := Below w.heap.size w w'

theorem Up.refl (w : World) : Up w w := Below.refl _ _
theorem Up.trans {a b c : World} (h : Up a b) (k : Up b c) : Up a c := Below.trans h (k.mono (Below.size h))
theorem Up.alloc {w w' : World} (h : Up w w') (o : Obj) : Up w (w'.alloc o) := Below.alloc h (Below.size h) o
theorem Up.drew {w w' : World} (h : Up w w') : Up w w'.drew := Below.drew h
theorem Up.drewN {w w' : World} (h : Up w w') (n : Nat) : Up w (w'.drewN n) := below_drewN h n
theorem Up.setCell {w w' : World} (h : Up w w') {a : Addr} (ha : w.heap.size ≤ a.block) (v : Value) : Up w (w'.setCell a v) := Below.setCell h ha v
theorem Up.size {w w' : World} (h : Up w w') : w.heap.size ≤ w'.heap.size := Below.size h
theorem Up.cell {w w' : World} (h : Up w w') {a : Addr} (ha : a.block < w.heap.size) : w'.cell? a = w.cell? a := Below.cell h ha
theorem Up.frozen {w w' : World} (h : Up w w') {a : Addr} (ha : a.block < w.heap.size) : w'.frozen? a = w.frozen? a := Below.frozen h ha
theorem Up.block {w w' : World} (h : Up w w') {k : Nat} (hk : k < w.heap.size) : w'.heap[k]? = w.heap[k]? := Below.block h k hk
theorem Up.below {w w' : World} (h : Up w w') : Below w.heap.size w w' := h

/-- Old cells, and their marks, read as they did: two rules for the walk. -/
theorem Up.reads {w w' : World} (h : Up w w') : (∀ b o, b < w.heap.size → w'.cell? ⟨b, o, none⟩ = w.cell? ⟨b, o, none⟩) ∧ (∀ b o, b < w.heap.size → w'.frozen? ⟨b, o, none⟩ = w.frozen? ⟨b, o, none⟩) :=
  ⟨fun _ _ hb => h.cell hb, fun _ _ hb => h.frozen hb⟩

end Go.Sp
namespace Go.Sp.Dv

/-- The estimate: U below Y = y1 B + y0. -/
theorem init {U y1 y0 n1 : Int} (h1 : 2147483648 ≤ y1) (h2 : y1 < 4294967296) (h3 : 0 ≤ y0) (h4 : y0 < 4294967296) (hU : 0 ≤ U) (hY : U < y1 * 4294967296 + y0) (hn : 0 ≤ n1) (hn2 : n1 < 4294967296) :
    0 ≤ U / y1 ∧ U / y1 ≤ 4294967297 ∧ 0 ≤ U - U / y1 * y1 ∧ U - U / y1 * y1 < y1 ∧ (U * 4294967296 + n1) / (y1 * 4294967296 + y0) ≤ U / y1 := by
  have e := Int.mul_ediv_add_emod U y1
  have m0 := Int.emod_nonneg U (show y1 ≠ 0 by omega)
  have m1 := Int.emod_lt_of_pos U (show 0 < y1 by omega)
  rw [Int.mul_comm] at e
  generalize U / y1 = q at *
  generalize U % y1 = r at *
  have q0 : 0 ≤ q := by
    refine Int.not_lt.1 fun hq => ?_
    have : q * y1 ≤ (-1) * y1 := Int.mul_le_mul_of_nonneg_right (by omega) (by omega)
    omega
  have q1 : q ≤ 4294967297 := by
    refine Int.not_lt.1 fun hq => ?_
    have : 4294967298 * y1 ≤ q * y1 := Int.mul_le_mul_of_nonneg_right (by omega) (by omega)
    omega
  refine ⟨q0, q1, by omega, by omega, ?_⟩
  refine Int.lt_add_one_iff.1 (Int.ediv_lt_of_lt_mul (by omega) ?_)
  have g : (q + 1) * (y1 * 4294967296 + y0) = q * y1 * 4294967296 + y1 * 4294967296 + (q * y0 + y0) := by grind
  have g2 : 0 ≤ q * y0 := Int.mul_nonneg q0 h3
  rw [g]
  generalize q * y1 = s at *
  generalize q * y0 = t at *
  omega

/-- The test says yes: the estimate is too great. -/
theorem down {U q r y1 y0 n1 : Int} (hr : q * y1 + r = U) (hU : 0 ≤ U) (hY : U < y1 * 4294967296 + y0) (hn : 0 ≤ n1) (hn2 : n1 < 4294967296)
    (ht : 4294967296 ≤ q ∨ 4294967296 * r + n1 < q * y0) : (U * 4294967296 + n1) / (y1 * 4294967296 + y0) ≤ q - 1 := by
  refine Int.lt_add_one_iff.1 (Int.ediv_lt_of_lt_mul (by omega) ?_)
  rw [show q - 1 + 1 = q by omega]
  have g : q * (y1 * 4294967296 + y0) = q * y1 * 4294967296 + q * y0 := by grind
  rcases ht with ht | ht
  · have := Int.mul_le_mul_of_nonneg_right ht (show (0 : Int) ≤ y1 * 4294967296 + y0 by omega)
    omega
  · rw [g]
    generalize q * y1 = s at *
    generalize q * y0 = t at *
    omega

/-- The test says no: the estimate is the digit. -/
theorem stop {U q r y1 y0 n1 : Int} (hr : q * y1 + r = U) (h1 : 2147483648 ≤ y1) (h3 : 0 ≤ y0)
    (hq : (U * 4294967296 + n1) / (y1 * 4294967296 + y0) ≤ q) (ht : q * y0 ≤ 4294967296 * r + n1) : (U * 4294967296 + n1) / (y1 * 4294967296 + y0) = q := by
  refine Int.le_antisymm hq ?_
  refine (Int.le_ediv_iff_mul_le (by omega)).2 ?_
  have g : q * (y1 * 4294967296 + y0) = q * y1 * 4294967296 + q * y0 := by grind
  rw [g]
  generalize q * y1 = s at *
  generalize q * y0 = t at *
  omega

/-- The rest has grown beyond a digit: likewise. -/
theorem over {U q r y1 y0 n1 : Int} (hr : q * y1 + r = U) (h1 : 2147483648 ≤ y1) (h3 : 0 ≤ y0) (h4 : y0 < 4294967296) (hn : 0 ≤ n1)
    (hq : (U * 4294967296 + n1) / (y1 * 4294967296 + y0) ≤ q) (hb : q ≤ 4294967296) (ht : 4294967296 ≤ r) : (U * 4294967296 + n1) / (y1 * 4294967296 + y0) = q := by
  refine stop hr h1 h3 hq ?_
  have := Int.mul_le_mul_of_nonneg_right hb h3
  omega

/-- The products that the test makes do not wrap. -/
theorem small {q y0 : Int} (q0 : 0 ≤ q) (q1 : q ≤ 4294967297) (h3 : 0 ≤ y0) (h4 : y0 < 4294967296) : 0 ≤ q * y0 ∧ q * y0 ≤ 18446744073709551615 := by
  have a := Int.mul_le_mul q1 (show y0 ≤ 4294967295 by omega) h3 (by omega)
  exact ⟨Int.mul_nonneg q0 h3, by omega⟩

/-- The rest of a digit's step, as the 64-bit numbers give it. -/
theorem rest {U Y n1 q : Int} (hY : 0 < Y) (hYs : Y ≤ 18446744073709551615) (hq : (U * 4294967296 + n1) / Y = q) :
    ((U * 4294967296 % 18446744073709551616 + n1) % 18446744073709551616 - q * Y % 18446744073709551616) % 18446744073709551616 = (U * 4294967296 + n1) % Y := by
  have e := Int.mul_ediv_add_emod (U * 4294967296 + n1) Y
  rw [hq, Int.mul_comm] at e
  have m0 := Int.emod_nonneg (U * 4294967296 + n1) (show Y ≠ 0 by omega)
  have m1 := Int.emod_lt_of_pos (U * 4294967296 + n1) hY
  generalize q * Y = s at *
  omega

theorem div_two {T Y n0 : Int} (hY : 0 < Y) :
    (T * 4294967296 + n0) / Y = T / Y * 4294967296 + (T % Y * 4294967296 + n0) / Y ∧ (T * 4294967296 + n0) % Y = (T % Y * 4294967296 + n0) % Y := by
  have e := Int.mul_ediv_add_emod T Y
  have k : T * 4294967296 + n0 = T % Y * 4294967296 + n0 + T / Y * 4294967296 * Y := by
    have : T / Y * 4294967296 * Y = Y * (T / Y) * 4294967296 := by grind
    omega
  constructor
  · rw [k, Int.add_mul_ediv_right _ _ (by omega)]; omega
  · rw [k, Int.add_mul_emod_self_right]

/-- A division by a multiple. -/
theorem scaled (N z : Int) (k : Int) (hk : 0 < k) : N * k / (z * k) = N / z ∧ N * k % (z * k) = N % z * k := by
  constructor
  · exact Int.mul_ediv_mul_of_pos_left _ _ hk
  · have e := Int.mul_ediv_add_emod (N * k) (z * k)
    rw [Int.mul_ediv_mul_of_pos_left _ _ hk] at e
    have e2 := Int.mul_ediv_add_emod N z
    have : z * k * (N / z) = z * (N / z) * k := by grind
    have h3 : N * k = z * (N / z) * k + N % z * k := by rw [← Int.add_mul, e2]
    omega
end Go.Sp.Dv
namespace Go.Proofs.YtdbhleinhpiohaaGreatDoor
open Go.Shelf
def Tryz.lays134_ren : Go.Shelf.Ren := ⟨fun | 134 => 109 | 129 => 117 | n => n, fun | 53 => 108 | 3 => 3 | 4 => 4 | 46 => 103 | 5 => 5 | 9 => 9 | n => n, fun | n => n⟩
theorem Tryz.lays134 : Go.Proofs.Lays.n134 Tryz.prog Tryz.lays134_ren := {
  mixed := by kernel_rfl
  f129 := Tryz.func117.trans (congrArg some (by kernel_rfl))
  f134 := Tryz.func109.trans (congrArg some (by kernel_rfl))
  t3 := Tryz.underlying3
  a3 := Tryz.isAgg3
  z3 := Tryz.sizeOf3
  v3 := Tryz.zeroValue3
  t4 := Tryz.underlying4
  a4 := Tryz.isAgg4
  z4 := Tryz.sizeOf4
  v4 := Tryz.zeroValue4
  t5 := Tryz.underlying5
  a5 := Tryz.isAgg5
  z5 := Tryz.sizeOf5
  v5 := Tryz.zeroValue5
  t9 := Tryz.underlying9
  a9 := Tryz.isAgg9
  z9 := Tryz.sizeOf9
  v9 := Tryz.zeroValue9
  t46 := Tryz.underlying103
  a46 := Tryz.isAgg103
  z46 := Tryz.sizeOf103
  v46 := Tryz.zeroValue103
  t53 := Tryz.underlying108
  a53 := Tryz.isAgg108
  z53 := Tryz.sizeOf108
  v53 := Tryz.zeroValue108 }
/-- bits.LeadingZeros64: "LeadingZeros64 returns the number of leading zero bits in x; the result is 64 for x == 0.": IT RETURNS '64 - Lib.bitLen x'; the world is as it was. ITS CALLEE bits.Len64 IS MET BY ITS OWN CONTRACT OFF THE SHELF (lay that first): entered in place it sends the kernel out of memory. (LAID: no walk: one application.) -/
theorem Tryz.bits_LeadingZeros64 (x : Int) (w : World) (h0 : 0 ≤ x) (h1 : x ≤ 18446744073709551615) :
    Calls Tryz.prog 109 #[.int .u64 x] w fun e w' => e = .returned (.int .i64 (64 - (Lib.bitLen x.toNat : Int))) ∧ w' = w := Any.bits_LeadingZeros64 Tryz.lays134 x w h0 h1
def Tryz.lays129_ren : Go.Shelf.Ren := ⟨fun | 129 => 117 | n => n, fun | 53 => 108 | 3 => 3 | 4 => 4 | 46 => 103 | 5 => 5 | 9 => 9 | n => n, fun | n => n⟩
theorem Tryz.lays129 : Go.Proofs.Lays.n129 Tryz.prog Tryz.lays129_ren := {
  mixed := by kernel_rfl
  f129 := Tryz.func117.trans (congrArg some (by kernel_rfl))
  t3 := Tryz.underlying3
  a3 := Tryz.isAgg3
  z3 := Tryz.sizeOf3
  v3 := Tryz.zeroValue3
  t4 := Tryz.underlying4
  a4 := Tryz.isAgg4
  z4 := Tryz.sizeOf4
  v4 := Tryz.zeroValue4
  t5 := Tryz.underlying5
  a5 := Tryz.isAgg5
  z5 := Tryz.sizeOf5
  v5 := Tryz.zeroValue5
  t9 := Tryz.underlying9
  a9 := Tryz.isAgg9
  z9 := Tryz.sizeOf9
  v9 := Tryz.zeroValue9
  t46 := Tryz.underlying103
  a46 := Tryz.isAgg103
  z46 := Tryz.sizeOf103
  v46 := Tryz.zeroValue103
  t53 := Tryz.underlying108
  a53 := Tryz.isAgg108
  z53 := Tryz.sizeOf108
  v53 := Tryz.zeroValue108 }
/-- bits.Len64: "Len64 returns the minimum number of bits required to represent x; the result is 0 for x == 0.": IT RETURNS 'Lib.bitLen x'; the world is as it was. ('h0', 'h1': x is a uint64.) (LAID: no walk: one application.) -/
theorem Tryz.bits_Len64 (x : Int) (w : World) (h0 : 0 ≤ x) (h1 : x ≤ 18446744073709551615) :
    Calls Tryz.prog 117 #[.int .u64 x] w fun e w' => e = .returned (.int .i64 (Lib.bitLen x.toNat)) ∧ w' = w := Any.bits_Len64 Tryz.lays129 x w h0 h1
def Tryz.lays264_ren : Go.Shelf.Ren := ⟨fun | 264 => 96 | n => n, fun | 53 => 108 | 46 => 103 | n => n, fun | n => n⟩
theorem Tryz.lays264 : Go.Proofs.Lays.n264 Tryz.prog Tryz.lays264_ren := {
  mixed := by kernel_rfl
  f264 := Tryz.func96.trans (congrArg some (by kernel_rfl))
  t46 := Tryz.underlying103
  a46 := Tryz.isAgg103
  z46 := Tryz.sizeOf103
  v46 := Tryz.zeroValue103
  t53 := Tryz.underlying108
  a53 := Tryz.isAgg108
  z53 := Tryz.sizeOf108
  v53 := Tryz.zeroValue108 }
open Go.RowKit Go.Lib in
theorem Tryz.bits_Mul64 (x y : Nat) (hx : x < 18446744073709551616) (hy : y < 18446744073709551616) (w : World) :
    Calls Tryz.prog 96 #[.int .u64 x, .int .u64 y] w fun e w' => e = .returned (.tuple #[.int .u64 ((x * y / 18446744073709551616 : Nat) : Int), .int .u64 ((x * y % 18446744073709551616 : Nat) : Int)]) ∧ w' = w := Any.bits_Mul64 Tryz.lays264 x y hx hy w
end Go.Proofs.YtdbhleinhpiohaaGreatDoor
namespace Go.Proofs.YtdbhleinhpiohaaGreatDoor
open Go.RowKit Go.Sp
set_option maxHeartbeats 400000

theorem mul64_any (x y : Int) (hx0 : 0 ≤ x) (hx : x < 18446744073709551616) (hy0 : 0 ≤ y) (hy : y < 18446744073709551616) (w : World) :
    Calls Tryz.prog 96 #[.int .u64 x, .int .u64 y] w fun e w' => e = .returned (.tuple #[.int .u64 (x * y / 18446744073709551616), .int .u64 (x * y % 18446744073709551616)]) ∧ w = w' := by
  have hm := hid (mul64_arith x y hx0 hx hy0 hy)
  go_enter Tryz.func96, Tryz.ntmps96
  go_wp2
  go_ret2
  refine ⟨?_, rfl⟩
  rw [← hm.out]
  simp only [IntKind.wrap_u64]
  rw [and_low32 x hx0 hx, and_low32 y hy0 hy, and_low32 _ (by omega) (by omega)]
  rfl

/-- The shift that brings z's highest bit to the front. -/
theorem shift_facts (z : Int) (h0 : 1 ≤ z) (h1 : z ≤ 18446744073709551615) :
    0 ≤ 64 - (Lib.bitLen z.toNat : Int) ∧ 64 - (Lib.bitLen z.toNat : Int) ≤ 63 ∧ 9223372036854775808 ≤ z * 2 ^ (64 - (Lib.bitLen z.toNat : Int)).toNat ∧ z * 2 ^ (64 - (Lib.bitLen z.toNat : Int)).toNat ≤ 18446744073709551615 := by
  obtain ⟨n, rfl⟩ := Int.eq_ofNat_of_zero_le (show 0 ≤ z by omega)
  rw [Int.toNat_natCast]
  obtain ⟨b1, b2, b3⟩ := Lib.bitLenAux_bounds 64 n (by omega) (by omega)
  have b4 : Lib.bitLen n ≤ 64 := Lib.bitLen_le n 64 (by omega) (by omega)
  change 1 ≤ Lib.bitLen n at b1
  change 2 ^ (Lib.bitLen n - 1) ≤ n at b2
  change n < 2 ^ Lib.bitLen n at b3
  generalize Lib.bitLen n = l at *
  refine ⟨by omega, by omega, ?_⟩
  rw [show (64 - (l : Int)).toNat = 64 - l by omega]
  have p1 : 2 ^ (l - 1) * 2 ^ (64 - l) = 2 ^ 63 := by rw [← Nat.pow_add]; congr 1; omega
  have p2 : 2 ^ l * 2 ^ (64 - l) = 2 ^ 64 := by rw [← Nat.pow_add]; congr 1; omega
  have q0 : 0 < 2 ^ (64 - l) := Nat.two_pow_pos _
  have q1 := Nat.mul_le_mul_right (2 ^ (64 - l)) b2
  have q2 := Nat.mul_lt_mul_of_pos_right b3 q0
  rw [p1] at q1
  rw [p2] at q2
  have e : (n : Int) * 2 ^ (64 - l) = ((n * 2 ^ (64 - l) : Nat) : Int) := by simp
  rw [e]
  omega

/-- What the shifts give. -/
theorem shifted (x y z s : Int) (hx0 : 1 ≤ x) (hx : x < z) (hy0 : 0 ≤ y) (hy : y ≤ 18446744073709551615) (s0 : 0 ≤ s) (s1 : s ≤ 63) (z2 : z * 2 ^ s.toNat ≤ 18446744073709551615) :
    0 ≤ bits .or .u64 (IntKind.u64.wrap (x * 2 ^ s.toNat)) (y / 2 ^ (64 - s).toNat) ∧
    bits .or .u64 (IntKind.u64.wrap (x * 2 ^ s.toNat)) (y / 2 ^ (64 - s).toNat) < z * 2 ^ s.toNat ∧
    0 ≤ IntKind.u64.wrap (y * 2 ^ s.toNat) ∧ IntKind.u64.wrap (y * 2 ^ s.toNat) ≤ 18446744073709551615 ∧
    bits .or .u64 (IntKind.u64.wrap (x * 2 ^ s.toNat)) (y / 2 ^ (64 - s).toNat) * 18446744073709551616 + IntKind.u64.wrap (y * 2 ^ s.toNat) = (x * 18446744073709551616 + y) * 2 ^ s.toNat := by
  obtain ⟨k, rfl⟩ := Int.eq_ofNat_of_zero_le s0
  rw [show (64 - (k : Int)).toNat = 64 - k by omega, Int.toNat_natCast] at *
  have p : (2 : Int) ^ k * 2 ^ (64 - k) = 18446744073709551616 := by rw [← Int.pow_add, show k + (64 - k) = 64 by omega]; rfl
  have K0 : (0 : Int) < 2 ^ k := Int.pow_pos (by decide)
  have L0 : (0 : Int) < 2 ^ (64 - k) := Int.pow_pos (by decide)
  have hm : (x * 2 ^ k) % 2 ^ k = 0 := Int.mul_emod_left _ _
  have hjoin := fun a b => bits_join .u64 64 (by decide) (fun n h0 h1 => by rw [IntKind.wrap_u64]; omega) k a b
  generalize (2 : Int) ^ k = K at *
  generalize (2 : Int) ^ (64 - k) = L at *
  have a1 : x * K < z * K := Int.mul_lt_mul_of_pos_right hx K0
  have a2 : 0 ≤ x * K := Int.mul_nonneg (by omega) (by omega)
  have a3 : x * K + K ≤ z * K := by
    have := Int.mul_le_mul_of_nonneg_right (show x + 1 ≤ z by omega) (show 0 ≤ K by omega)
    rw [Int.add_mul, Int.one_mul] at this; exact this
  have d := Int.mul_ediv_add_emod y L
  have d0 := Int.emod_nonneg y (show L ≠ 0 by omega)
  have d1 := Int.emod_lt_of_pos y L0
  have d2 : 0 ≤ y / L := Int.ediv_nonneg hy0 (by omega)
  have d3 : y / L < K := Int.ediv_lt_of_lt_mul L0 (by omega)
  have w1 : IntKind.u64.wrap (x * K) = x * K := by rw [IntKind.wrap_u64]; omega
  have jo := hjoin (x * K) (y / L) a2 hm (by omega) d2 d3 (by omega)
  have w2 : IntKind.u64.wrap (y * K) = y % L * K := by
    rw [IntKind.wrap_u64]
    have e : y * K = y % L * K + y / L * 18446744073709551616 := by
      rw [← p]; conv => lhs; rw [← d]
      grind
    have b1 : 0 ≤ y % L * K := Int.mul_nonneg d0 (by omega)
    have b2 : y % L * K < L * K := Int.mul_lt_mul_of_pos_right d1 K0
    rw [Int.mul_comm L K, p] at b2
    rw [e, Int.add_mul_emod_self_right]
    omega
  have b1 : 0 ≤ y % L * K := Int.mul_nonneg d0 (by omega)
  have b2 : y % L * K < L * K := Int.mul_lt_mul_of_pos_right d1 K0
  rw [Int.mul_comm L K, p] at b2
  rw [w1, jo, w2]
  refine ⟨by omega, by omega, b1, by omega, ?_⟩
  conv => rhs; rw [← d]
  rw [← p]
  grind

/-- Both digits put together. -/
theorem joined {x y z U V Z n1 n0 d d0 R1 : Int} {k : Nat} (hz : 1 ≤ z) (eZ : z * 2 ^ k = Z) (uv : U * 18446744073709551616 + V = (x * 18446744073709551616 + y) * 2 ^ k) (En : V = n1 * 4294967296 + n0)
    (hd : (U * 4294967296 + n1) / Z = d) (hR : (U * 4294967296 + n1) % Z = R1) (hd0 : (R1 * 4294967296 + n0) / Z = d0) :
    (x * 18446744073709551616 + y) / z = d * 4294967296 + d0 ∧ (x * 18446744073709551616 + y) % z = (R1 * 4294967296 + n0) % Z / 2 ^ k := by
  have K0 : (0 : Int) < 2 ^ k := Int.pow_pos (by decide)
  have Z0 : 0 < Z := by rw [← eZ]; exact Int.mul_pos (by omega) K0
  obtain ⟨s1, s2⟩ := Dv.scaled (x * 18446744073709551616 + y) z (2 ^ k) K0
  obtain ⟨t1, t2⟩ := Dv.div_two (T := U * 4294967296 + n1) (Y := Z) (n0 := n0) Z0
  rw [hd, hR, hd0] at t1
  rw [hR] at t2
  have e : (x * 18446744073709551616 + y) * 2 ^ k = (U * 4294967296 + n1) * 4294967296 + n0 := by rw [← uv, En]; omega
  rw [eZ, e] at s1 s2
  refine ⟨by rw [← s1, t1], ?_⟩
  rw [← t2, s2, Int.mul_ediv_cancel _ (by omega)]

set_option maxHeartbeats 1000000 in
set_option maxRecDepth 100000 in
theorem div64_big (x y z : Int) (hx0 : 1 ≤ x) (hx : x < z) (hy0 : 0 ≤ y) (hy : y ≤ 18446744073709551615) (hz : z ≤ 18446744073709551615) (w : World) :
    Calls Tryz.prog 97 #[.int .u64 x, .int .u64 y, .int .u64 z] w fun e w' => e = .returned (.tuple #[.int .u64 ((x * 18446744073709551616 + y)/z), .int .u64 ((x * 18446744073709551616 + y) % z)]) ∧ w = w' := by
  have hl := fun w => (Tryz.bits_LeadingZeros64 z w (by omega) hz).mono fun e w' (h : _ ∧ w' = w) => (⟨h.1, h.2.symm⟩ : _ ∧ w = w')
  obtain ⟨l0, l1, z1, z2⟩ := shift_facts z (by omega) hz
  obtain ⟨u0, u1, v0, v1, uv⟩ := shifted x y z _ hx0 hx hy0 hy l0 l1 z2
  generalize 64 - (Lib.bitLen z.toNat : Int) = s at *
  obtain ⟨Z, eZ⟩ : ∃ Z, z * 2 ^ s.toNat = Z := ⟨_, rfl⟩
  obtain ⟨U, eU⟩ : ∃ U, bits .or .u64 (IntKind.u64.wrap (x * 2 ^ s.toNat)) (y / 2 ^ (64 - s).toNat) = U := ⟨_, rfl⟩
  obtain ⟨V, eV⟩ : ∃ V, IntKind.u64.wrap (y * 2 ^ s.toNat) = V := ⟨_, rfl⟩
  rw [eZ] at z1 z2 u1
  rw [eU] at u0 u1 uv
  rw [eV] at v0 v1 uv
  have eW : IntKind.u64.wrap (z * 2 ^ s.toNat) = Z := by rw [eZ, IntKind.wrap_u64]; omega
  have aZ : bits .and .u64 Z 4294967295 = Z % 4294967296 := and_low32 Z (by omega) (by omega)
  have aV : bits .and .u64 V 4294967295 = V % 4294967296 := and_low32 V (by omega) (by omega)
  obtain ⟨y1, ey1⟩ : ∃ y1, Z / 4294967296 = y1 := ⟨_, rfl⟩
  obtain ⟨y0, ey0⟩ : ∃ y0, Z % 4294967296 = y0 := ⟨_, rfl⟩
  obtain ⟨n1, en1⟩ : ∃ n1, V / 4294967296 = n1 := ⟨_, rfl⟩
  obtain ⟨n0, en0⟩ : ∃ n0, V % 4294967296 = n0 := ⟨_, rfl⟩
  have Ey : Z = y1 * 4294967296 + y0 := by omega
  have En : V = n1 * 4294967296 + n0 := by omega
  have by1 : 2147483648 ≤ y1 := by omega
  have by1' : y1 < 4294967296 := by omega
  have by0 : 0 ≤ y0 := by omega
  have by0' : y0 < 4294967296 := by omega
  have bn1 : 0 ≤ n1 := by omega
  have bn1' : n1 < 4294967296 := by omega
  have bn0 : 0 ≤ n0 := by omega
  have bn0' : n0 < 4294967296 := by omega
  have HE := hid Ey
  have HN := hid En
  have HZ := hid eZ
  have HU := hid uv
  rw [Ey] at u1
  obtain ⟨i0, i1, i2, i3, i4⟩ := Dv.init by1 by1' by0 by0' u0 u1 bn1 bn1'
  have i5 : 0 ≤ U / y1 * y1 := Int.mul_nonneg i0 (by omega)
  have eqr : IntKind.u64.wrap (U / y1 * y1) = U / y1 * y1 := by rw [IntKind.wrap_u64]; omega
  have HI := hid i4
  have hxz : (x == 0) = false := by simp; omega
  have hzz : (z == 0) = false := by simp; omega
  have hzx : decide (z ≤ x) = false := by simp; omega
  have hy1z : (y1 == 0) = false := by simp; omega
  clear eZ uv Ey En i4
  go_enter Tryz.func97, Tryz.ntmps97
  go_upto_region 15 with (go_at_call 109; refine (hl _).mono ?_; rintro e w' ⟨rfl, rfl⟩)
  go_upto_block 0 with fail
  clear eqr hl
  go_cut [15] from 67 (fun a w' => a = .int .u64 ((U * 4294967296 + n1) / (y1 * 4294967296 + y0)) ∧ w' = w)
  case first =>
    go_wp2_with fail
    go_loop [15, 16] (fun a b => ∃ q r : Int, a = .int .u64 q ∧ b = .int .u64 r ∧ q * y1 + r = U ∧ 0 ≤ q ∧ q ≤ 4294967297 ∧ 0 ≤ r ∧ r < 4294967296 ∧ (U * 4294967296 + n1) / (y1 * 4294967296 + y0) ≤ q) (fun a _ => (intOf a).toNat)
    case atStart => exact ⟨_, _, rfl, rfl, by omega, i0, i1, i2, by omega, HI.out⟩
    case round =>
      obtain ⟨q, r, rfl, rfl, hr, q0, q1, r0, r1, hT⟩ := hrel
      obtain ⟨m0, m1⟩ := Dv.small q0 q1 by0 by0'
      have e1 : IntKind.u64.wrap (q * y0) = q * y0 := by rw [IntKind.wrap_u64]; omega
      have e2 : IntKind.u64.wrap (4294967296 * r) = 4294967296 * r := by rw [IntKind.wrap_u64]; omega
      have HR := hid hr
      have HT := hid hT
      clear hr hT
      have key : (4294967296 ≤ q ∨ 4294967296 * r + n1 < q * y0) → (U * 4294967296 + n1) / (y1 * 4294967296 + y0) ≤ q - 1 := Dv.down HR.out u0 u1 bn1 bn1'
      by_cases t1 : decide (4294967296 ≤ q) = true
      · have k1 := key (.inl (by simpa using t1))
        have q1' : 1 ≤ q := by simp at t1; omega
        by_cases t3 : decide (4294967296 ≤ r + y1) = true
        · have hd := Dv.over (q := q - 1) (r := r + y1) (U := U) (by rw [← HR.out, Int.sub_mul]; omega) by1 by0 by0' bn1 k1 (by omega) (by simpa using t3)
          have HD := hid hd
          clear hd k1 key
          go_wp2_with fail
          go_meet
          case rel => exact ⟨by rw [HD.out], rfl⟩
        · clear key
          have HK := hid k1
          clear k1
          have t3 : decide (4294967296 ≤ r + y1) = false := by simpa using t3
          have b3 : r + y1 < 4294967296 := by simpa using t3
          go_wp2_with fail
          go_round
          case rel => exact ⟨q - 1, r + y1, rfl, rfl, by rw [← HR.out, Int.sub_mul]; omega, by omega, by omega, by omega, b3, HK.out⟩
          case measure => simp [intOf]; omega
      · have t1 : decide (4294967296 ≤ q) = false := by simpa using t1
        have q2 : q < 4294967296 := by simpa using t1
        by_cases t2 : decide (4294967296 * r + n1 < q * y0) = true
        · have k1 := key (.inr (by simpa using t2))
          have q1' : 1 ≤ q := by
            refine Int.not_lt.1 fun hq => ?_
            have : q = 0 := by omega
            subst this; simp at t2; omega
          by_cases t3 : decide (4294967296 ≤ r + y1) = true
          · have hd := Dv.over (q := q - 1) (r := r + y1) (U := U) (by rw [← HR.out, Int.sub_mul]; omega) by1 by0 by0' bn1 k1 (by omega) (by simpa using t3)
            have HD := hid hd
            clear hd k1 key
            go_wp2_with fail
            go_meet
            case rel => exact ⟨by rw [HD.out], rfl⟩
          · clear key
            have HK := hid k1
            clear k1
            have t3 : decide (4294967296 ≤ r + y1) = false := by simpa using t3
            have b3 : r + y1 < 4294967296 := by simpa using t3
            go_wp2_with fail
            go_round
            case rel => exact ⟨q - 1, r + y1, rfl, rfl, by rw [← HR.out, Int.sub_mul]; omega, by omega, by omega, by omega, b3, HK.out⟩
            case measure => simp [intOf]; omega
        · have t2 : decide (4294967296 * r + n1 < q * y0) = false := by simpa using t2
          have hd := Dv.stop HR.out by1 by0 HT.out (by simpa using t2)
          have HD := hid hd
          clear hd key
          go_wp2_with fail
          go_meet
          case rel => exact ⟨by rw [HD.out], rfl⟩
  case rest =>
    obtain ⟨rfl, hw'⟩ := hcut
    subst hw'
    have T0 : 0 ≤ U * 4294967296 + n1 := by omega
    have d0 : 0 ≤ (U * 4294967296 + n1) / (y1 * 4294967296 + y0) := Int.ediv_nonneg T0 (by omega)
    have d1 : (U * 4294967296 + n1) / (y1 * 4294967296 + y0) < 4294967296 := Int.ediv_lt_of_lt_mul (by omega) (by omega)
    obtain ⟨d, ed⟩ : ∃ d, (U * 4294967296 + n1) / (y1 * 4294967296 + y0) = d := ⟨_, rfl⟩
    rw [ed] at d0 d1 ⊢
    have eD := ed
    rw [← HE.out] at eD
    have hrest := Dv.rest (U := U) (n1 := n1) (show 0 < Z by omega) z2 eD
    have R0 : 0 ≤ (U * 4294967296 + n1) % Z := Int.emod_nonneg _ (by omega)
    have R2 : (U * 4294967296 + n1) % Z < Z := Int.emod_lt_of_pos _ (by omega)
    obtain ⟨R1, eR⟩ : ∃ R1, (U * 4294967296 + n1) % Z = R1 := ⟨_, rfl⟩
    rw [eR] at hrest R0 R2
    rw [HE.out] at R2
    have eS : IntKind.u64.wrap (IntKind.u64.wrap (IntKind.u64.wrap (U * 4294967296) + n1) - IntKind.u64.wrap (d * Z)) = R1 := by
      simp only [IntKind.wrap_u64]; exact hrest
    obtain ⟨j0, j1, j2, j3, j4⟩ := Dv.init by1 by1' by0 by0' R0 R2 bn0 bn0'
    have j5 : 0 ≤ R1 / y1 * y1 := Int.mul_nonneg j0 (by omega)
    have eqr : IntKind.u64.wrap (R1 / y1 * y1) = R1 / y1 * y1 := by rw [IntKind.wrap_u64]; omega
    have HJ := hid j4
    have HD1 := hid eD
    have HR1 := hid eR
    clear j4 eD ed eR hrest
    go_upto_block 2 with fail
    clear eqr
    go_cut [18] from 102 (fun a w' => a = .int .u64 ((R1 * 4294967296 + n0) / (y1 * 4294967296 + y0)) ∧ w' = wc)
    case first =>
      go_wp2_with fail
      go_loop [18, 16] (fun a b => ∃ q r : Int, a = .int .u64 q ∧ b = .int .u64 r ∧ q * y1 + r = R1 ∧ 0 ≤ q ∧ q ≤ 4294967297 ∧ 0 ≤ r ∧ r < 4294967296 ∧ (R1 * 4294967296 + n0) / (y1 * 4294967296 + y0) ≤ q) (fun a _ => (intOf a).toNat)
      case atStart => exact ⟨_, _, rfl, rfl, by omega, j0, j1, j2, by omega, HJ.out⟩
      case round =>
        obtain ⟨q, r, rfl, rfl, hr, q0, q1, r0, r1, hT⟩ := hrel
        obtain ⟨m0, m1⟩ := Dv.small q0 q1 by0 by0'
        have e1 : IntKind.u64.wrap (q * y0) = q * y0 := by rw [IntKind.wrap_u64]; omega
        have e2 : IntKind.u64.wrap (4294967296 * r) = 4294967296 * r := by rw [IntKind.wrap_u64]; omega
        have HR := hid hr
        have HT := hid hT
        clear hr hT
        have key : (4294967296 ≤ q ∨ 4294967296 * r + n0 < q * y0) → (R1 * 4294967296 + n0) / (y1 * 4294967296 + y0) ≤ q - 1 := Dv.down HR.out R0 R2 bn0 bn0'
        by_cases t1 : decide (4294967296 ≤ q) = true
        · have k1 := key (.inl (by simpa using t1))
          have q1' : 1 ≤ q := by simp at t1; omega
          by_cases t3 : decide (4294967296 ≤ r + y1) = true
          · have hd := Dv.over (q := q - 1) (r := r + y1) (U := R1) (by rw [← HR.out, Int.sub_mul]; omega) by1 by0 by0' bn0 k1 (by omega) (by simpa using t3)
            have HD := hid hd
            clear hd k1 key
            go_wp2_with fail
            go_meet
            case rel => exact ⟨by rw [HD.out], rfl⟩
          · clear key
            have HK := hid k1
            clear k1
            have t3 : decide (4294967296 ≤ r + y1) = false := by simpa using t3
            have b3 : r + y1 < 4294967296 := by simpa using t3
            go_wp2_with fail
            go_round
            case rel => exact ⟨q - 1, r + y1, rfl, rfl, by rw [← HR.out, Int.sub_mul]; omega, by omega, by omega, by omega, b3, HK.out⟩
            case measure => simp [intOf]; omega
        · have t1 : decide (4294967296 ≤ q) = false := by simpa using t1
          have q2 : q < 4294967296 := by simpa using t1
          by_cases t2 : decide (4294967296 * r + n0 < q * y0) = true
          · have k1 := key (.inr (by simpa using t2))
            have q1' : 1 ≤ q := by
              refine Int.not_lt.1 fun hq => ?_
              have : q = 0 := by omega
              subst this; simp at t2; omega
            by_cases t3 : decide (4294967296 ≤ r + y1) = true
            · have hd := Dv.over (q := q - 1) (r := r + y1) (U := R1) (by rw [← HR.out, Int.sub_mul]; omega) by1 by0 by0' bn0 k1 (by omega) (by simpa using t3)
              have HD := hid hd
              clear hd k1 key
              go_wp2_with fail
              go_meet
              case rel => exact ⟨by rw [HD.out], rfl⟩
            · clear key
              have HK := hid k1
              clear k1
              have t3 : decide (4294967296 ≤ r + y1) = false := by simpa using t3
              have b3 : r + y1 < 4294967296 := by simpa using t3
              go_wp2_with fail
              go_round
              case rel => exact ⟨q - 1, r + y1, rfl, rfl, by rw [← HR.out, Int.sub_mul]; omega, by omega, by omega, by omega, b3, HK.out⟩
              case measure => simp [intOf]; omega
          · have t2 : decide (4294967296 * r + n0 < q * y0) = false := by simpa using t2
            have hd := Dv.stop HR.out by1 by0 HT.out (by simpa using t2)
            have HD := hid hd
            clear hd key
            go_wp2_with fail
            go_meet
            case rel => exact ⟨by rw [HD.out], rfl⟩
    case rest =>
      obtain ⟨rfl, hw'⟩ := hcut
      subst hw'
      have T0' : 0 ≤ R1 * 4294967296 + n0 := by omega
      have f0 : 0 ≤ (R1 * 4294967296 + n0) / (y1 * 4294967296 + y0) := Int.ediv_nonneg T0' (by omega)
      have f1 : (R1 * 4294967296 + n0) / (y1 * 4294967296 + y0) < 4294967296 := Int.ediv_lt_of_lt_mul (by omega) (by omega)
      obtain ⟨f, ef⟩ : ∃ f, (R1 * 4294967296 + n0) / (y1 * 4294967296 + y0) = f := ⟨_, rfl⟩
      rw [ef] at f0 f1 ⊢
      have eF := ef
      rw [← HE.out] at eF
      have hrest := Dv.rest (U := R1) (n1 := n0) (show 0 < Z by omega) z2 eF
      have eG : IntKind.u64.wrap (IntKind.u64.wrap (IntKind.u64.wrap (R1 * 4294967296) + n0) - IntKind.u64.wrap (f * Z)) = (R1 * 4294967296 + n0) % Z := by
        simp only [IntKind.wrap_u64]; exact hrest
      have HF := hid (joined (by omega) HZ.out HU.out HN.out HD1.out HR1.out eF)
      clear ef eF hrest
      go_wp2
      go_ret2
      refine ⟨?_, rfl⟩
      rw [HF.out.1, HF.out.2]
      rfl

theorem div64_zero (y z : Int) (hx : 0 < z) (hy0 : 0 ≤ y) (hy : y ≤ 18446744073709551615) (hz : z ≤ 18446744073709551615) (w : World) :
    Calls Tryz.prog 97 #[.int .u64 0, .int .u64 y, .int .u64 z] w fun e w' => e = .returned (.tuple #[.int .u64 (y / z), .int .u64 (y % z)]) ∧ ∃ n, w' = w.drewN n := by
  have hzz : (z == 0) = false := by simp; omega
  have hzx : decide (z ≤ 0) = false := by simp; omega
  go_enter Tryz.func97, Tryz.ntmps97
  go_wp2
  go_quiet (fail)
  go_wp2
  go_ret2
  exact ⟨rfl, _, rfl⟩

/-- A division of two words by one, where the quotient fits. -/
theorem div64_any (x y z : Int) (hx0 : 0 ≤ x) (hx : x < z) (hy0 : 0 ≤ y) (hy : y ≤ 18446744073709551615) (hz : z ≤ 18446744073709551615) (w : World) :
    Calls Tryz.prog 97 #[.int .u64 x, .int .u64 y, .int .u64 z] w fun e w' => e = .returned (.tuple #[.int .u64 ((x * 18446744073709551616 + y) / z), .int .u64 ((x * 18446744073709551616 + y) % z)]) ∧ Up w w' := by
  by_cases h : 1 ≤ x
  · exact (div64_big x y z h hx hy0 hy hz w).mono fun _ _ ⟨h1, h2⟩ => ⟨h1, h2 ▸ Up.refl w⟩
  · have hx' : x = 0 := by omega
    subst hx'
    refine (div64_zero y z hx hy0 hy hz w).mono fun _ _ ⟨h1, n, h2⟩ => ⟨by rw [h1]; simp, ?_⟩
    subst h2
    exact (Up.refl w).drewN n

end Go.Proofs.YtdbhleinhpiohaaGreatDoor
namespace Go.Sp

theorem emul {m a b c d : Int} (h1 : a % m = b % m) (h2 : c % m = d % m) : (a * c) % m = (b * d) % m := by
  rw [Int.mul_emod, h1, h2, ← Int.mul_emod]

theorem epow {m a b : Int} (h : a % m = b % m) (n : Nat) : a ^ n % m = b ^ n % m := by
  induction n with
  | zero => simp
  | succ n ih => rw [Int.pow_succ, Int.pow_succ]; exact emul ih h

theorem emod_self (a m : Int) : a % m % m = a % m := Int.emod_emod_of_dvd a (Int.dvd_refl m)

/-- The power of a residue: what Pow returns. -/
def pw (a : Int) (e : Nat) (m : Int) : Int := a ^ e % m

theorem pw_zero (a m : Int) : pw a 0 m = 1 % m := by simp [pw]

theorem pw_lt (a : Int) (e : Nat) {m : Int} (h : 0 < m) : pw a e m < m := Int.emod_lt_of_pos _ h
theorem pw_nonneg (a : Int) (e : Nat) {m : Int} (h : 0 < m) : 0 ≤ pw a e m := Int.emod_nonneg _ (by omega)

theorem pw_add (a m : Int) (e f : Nat) : pw a (e + f) m = pw a e m * pw a f m % m := by
  unfold pw
  rw [Int.pow_add]
  exact emul (emod_self _ _).symm (emod_self _ _).symm

theorem pow_mul' (a : Int) (e f : Nat) : a ^ (e * f) = (a ^ e) ^ f := by
  induction f with
  | zero => simp
  | succ f ih => rw [Nat.mul_succ, Int.pow_add, ih, Int.pow_succ]

theorem mul_pow' (a b : Int) (n : Nat) : (a * b) ^ n = a ^ n * b ^ n := by
  induction n with
  | zero => simp
  | succ n ih => rw [Int.pow_succ, Int.pow_succ, Int.pow_succ, ih]; simp [Int.mul_assoc, Int.mul_comm, Int.mul_left_comm]

theorem pw_mul (a m : Int) (e f : Nat) : pw a (e * f) m = pw (pw a e m) f m := by
  unfold pw
  rw [pow_mul']
  exact epow (emod_self _ _).symm f

theorem pw_prod (a b m : Int) (e : Nat) : pw (a * b % m) e m = pw a e m * pw b e m % m := by
  unfold pw
  rw [epow (emod_self (a * b) m) e, mul_pow']
  exact emul (emod_self _ _).symm (emod_self _ _).symm

theorem one_pow' (e : Nat) : (1 : Int) ^ e = 1 := by
  induction e with
  | zero => rfl
  | succ n ih => rw [Int.pow_succ, ih]; rfl

theorem pw_one_base (e : Nat) (m : Int) : pw 1 e m = 1 % m := by rw [pw, one_pow']

/-- One round of Pow. -/
theorem round_odd (x a m : Int) (e : Nat) (he : e % 2 = 1) : (x * a % m) * (a * a % m) ^ (e / 2) % m = x * a ^ e % m := by
  have h1 : (x * a % m) * (a * a % m) ^ (e / 2) % m = (x * a) * (a * a) ^ (e / 2) % m :=
    emul (emod_self _ _) (epow (emod_self _ _) _)
  have h2 : (a * a) ^ (e / 2) = a ^ (2 * (e / 2)) := by rw [pow_mul']; congr 1; rw [Int.pow_succ, Int.pow_succ]; simp
  have h3 : e = 1 + 2 * (e / 2) := by omega
  rw [h1, h2]
  conv => rhs; rw [h3, Int.pow_add]
  rw [show a ^ 1 = a from by rw [Int.pow_succ]; simp, Int.mul_assoc]

theorem round_even (x a m : Int) (e : Nat) (he : e % 2 = 0) : x * (a * a % m) ^ (e / 2) % m = x * a ^ e % m := by
  have h1 : x * (a * a % m) ^ (e / 2) % m = x * (a * a) ^ (e / 2) % m := emul rfl (epow (emod_self _ _) _)
  have h2 : (a * a) ^ (e / 2) = a ^ (2 * (e / 2)) := by rw [pow_mul']; congr 1; rw [Int.pow_succ, Int.pow_succ]; simp
  have h3 : e = 2 * (e / 2) := by omega
  rw [h1, h2]
  conv => rhs; rw [h3]

/-- One round of a product by doubling. -/
theorem double_odd (o a b m : Int) (hb : b % 2 = 1) : ((o + a) % m + (a + a) % m * (b / 2)) % m = (o + a * b) % m := by
  have h1 : ((o + a) % m + (a + a) % m * (b / 2)) % m = ((o + a) + (a + a) * (b / 2)) % m := by
    rw [Int.add_emod, emod_self, emul (emod_self (a + a) m) (rfl : (b / 2) % m = (b / 2) % m), ← Int.add_emod]
  rw [h1]
  congr 1
  have : b = 2 * (b / 2) + 1 := by omega
  conv => rhs; rw [this]
  grind

theorem double_even (o a b m : Int) (hb : b % 2 = 0) : (o + (a + a) % m * (b / 2)) % m = (o + a * b) % m := by
  have h1 : (o + (a + a) % m * (b / 2)) % m = (o + (a + a) * (b / 2)) % m := by
    rw [Int.add_emod, emul (emod_self (a + a) m) (rfl : (b / 2) % m = (b / 2) % m), ← Int.add_emod]
  rw [h1]
  congr 1
  have : b = 2 * (b / 2) := by omega
  conv => rhs; rw [this]
  grind

/-- Squares up to k times: is one of them n - 1? -/
def sqs (n : Int) : Int → Nat → Bool
  | _, 0 => false
  | x, k + 1 => let y := x * x % n; y == n - 1 || sqs n y k

/-- The strong test of n = 2^s d + 1 for a base. -/
def strongB (n a : Int) (d s : Nat) : Bool :=
  let x := pw a d n
  x == 1 || x == n - 1 || sqs n x (s - 1)

def baseList : List Int := [2, 3, 5, 7, 11, 13, 17, 19, 23, 29, 31, 37]

/-- What the first base that divides n says, if there is one. -/
def trial : List Int → Int → Option Bool
  | [], _ => none
  | p :: l, n => if n % p = 0 then some (n == p) else trial l n

/-- What prime.Is returns. -/
def isP (n : Int) : Bool :=
  if n < 2 then false else
  match trial baseList n with
  | some b => b
  | none => baseList.all fun a => strongB n a ((n - 1).toNat / 2 ^ Lib.ctz 64 (n - 1).toNat) (Lib.ctz 64 (n - 1).toNat)

/-- Euclid's extended algorithm: what its four numbers satisfy. -/
structure Eu (a m d b x y : Int) : Prop where
  d1 : 1 ≤ d
  b0 : 0 ≤ b
  lt : b < d
  dm : d ≤ m
  fx : m ∣ a * x - d
  fy : m ∣ a * y - b
  dv : ∀ k : Int, k ∣ d → k ∣ b → k ∣ a ∧ k ∣ m
  x0 : -m ≤ x
  x1 : x ≤ m
  sg : (0 ≤ y ∧ x ≤ 0 ∧ y * d - x * b = m) ∨ (y ≤ 0 ∧ 0 ≤ x ∧ x * b - y * d = m)

theorem Eu.start {a m : Int} (h0 : 0 ≤ a) (h1 : a < m) : Eu a m m a 0 1 :=
  ⟨by omega, h0, h1, by omega, ⟨-1, by simp⟩, ⟨0, by simp⟩, fun _ h k => ⟨k, h⟩, by omega, by omega, .inl ⟨by omega, by omega, by simp⟩⟩

theorem eu_key {u v d b m : Int} (hu : 0 ≤ u) (hv : 0 ≤ v) (d1 : 1 ≤ d) (b0 : 0 ≤ b) (e : v * d + u * b = m) : v ≤ m := by
  have h1 : 0 ≤ u * b := Int.mul_nonneg hu b0
  have h2 : v * 1 ≤ v * d := Int.mul_le_mul_of_nonneg_left d1 hv
  omega

theorem Eu.y_bd {a m d b x y : Int} (h : Eu a m d b x y) : -m ≤ y ∧ y ≤ m := by
  rcases h.sg with ⟨y0, x0, e⟩ | ⟨y0, x0, e⟩
  · have := eu_key (u := -x) (v := y) (d := d) (b := b) (m := m) (by omega) y0 h.d1 h.b0 (by rw [Int.neg_mul]; omega)
    have := h.d1; have := h.dm
    omega
  · have := eu_key (u := x) (v := -y) (d := d) (b := b) (m := m) x0 (by omega) h.d1 h.b0 (by rw [Int.neg_mul]; omega)
    have := h.d1; have := h.dm
    omega

theorem Eu.q_bd {a m d b x y : Int} (h : Eu a m d b x y) (hb : 1 ≤ b) : 0 ≤ d / b ∧ d / b ≤ m ∧ 0 ≤ d / b * b ∧ d / b * b ≤ d ∧ d - d / b * b < b := by
  have d1 := h.d1
  have dm := h.dm
  have q0 : 0 ≤ d / b := Int.ediv_nonneg (by omega) (by omega)
  have q1 : d / b * b ≤ d := Int.ediv_mul_le d (by omega)
  have q2 : d / b * 1 ≤ d / b * b := Int.mul_le_mul_of_nonneg_left hb q0
  have q3 := Int.emod_lt_of_pos d (show 0 < b by omega)
  have q4 := Int.mul_ediv_add_emod d b
  rw [Int.mul_comm] at q4
  exact ⟨q0, by omega, by omega, q1, by omega⟩

theorem Eu.step {a m d b x y : Int} (h : Eu a m d b x y) (hb : 1 ≤ b) : Eu a m b (d - d / b * b) y (x - d / b * y) := by
  obtain ⟨q0, q1, q2, q3, q4⟩ := h.q_bd hb
  obtain ⟨y0, y1⟩ := h.y_bd
  have lt := h.lt
  have dm := h.dm
  refine ⟨hb, by omega, q4, by omega, h.fy, ?_, ?_, y0, y1, ?_⟩
  · obtain ⟨s, hs⟩ := h.fx
    obtain ⟨t, ht⟩ := h.fy
    exact ⟨s - d / b * t, by rw [Int.mul_sub, Int.mul_sub]; rw [show m * (d / b * t) = d / b * (m * t) by grind, ← hs, ← ht]; grind⟩
  · intro k hk1 hk2
    refine h.dv k ?_ hk1
    have := Int.dvd_add hk2 (Int.dvd_trans hk1 (Int.dvd_mul_left (d / b) b))
    rwa [Int.sub_add_cancel] at this
  · rcases h.sg with ⟨s0, s1, e⟩ | ⟨s0, s1, e⟩
    · right
      have : 0 ≤ d / b * y := Int.mul_nonneg q0 s0
      exact ⟨by omega, s0, by grind⟩
    · left
      have : 0 ≤ d / b * (-y) := Int.mul_nonneg q0 (by omega)
      rw [Int.mul_neg] at this
      exact ⟨by omega, s0, by grind⟩

/-- The product that the step makes. -/
theorem Eu.qy_bd {a m d b x y : Int} (h : Eu a m d b x y) (hb : 1 ≤ b) : -m ≤ d / b * y ∧ d / b * y ≤ m ∧ -m ≤ x - d / b * y ∧ x - d / b * y ≤ m := by
  obtain ⟨q0, q1, q2, q3, q4⟩ := h.q_bd hb
  have s := (h.step hb).y_bd
  rcases h.sg with ⟨s0, s1, e⟩ | ⟨s0, s1, e⟩
  · have : 0 ≤ d / b * y := Int.mul_nonneg q0 s0
    omega
  · have : 0 ≤ d / b * (-y) := Int.mul_nonneg q0 (by omega)
    rw [Int.mul_neg] at this
    omega

/-- At the end: the common divisor, and the factor as a residue. -/
theorem Eu.done {a m d x y : Int} (h : Eu a m d 0 x y) (X : Int) (hX : m ∣ X - x) : 0 ≤ X % m ∧ X % m < m ∧ m ∣ a * (X % m) - d ∧ d ∣ a ∧ d ∣ m := by
  have d1 := h.d1
  have dm := h.dm
  have g := h.dv d (Int.dvd_refl d) (Int.dvd_zero d)
  refine ⟨Int.emod_nonneg _ (by omega), Int.emod_lt_of_pos _ (by omega), ?_, g.1, g.2⟩
  obtain ⟨s, hs⟩ := h.fx
  obtain ⟨t, ht⟩ := hX
  have e := Int.mul_ediv_add_emod X m
  refine ⟨s + a * t - a * (X / m), ?_⟩
  have h1 : X % m = X - m * (X / m) := by omega
  have h2 : X = x + m * t := by omega
  rw [h1]
  have h3 : a * (X - m * (X / m)) - d = (a * x - d) + m * (a * t) - m * (a * (X / m)) := by
    conv => lhs; rw [show X - m * (X / m) = x + m * t - m * (X / m) by omega]
    grind
  rw [h3, hs]
  grind

/-- Go's remainder, and the residue. -/
theorem tmod_cases (a m : Int) (h2 : 1 ≤ m) : (a.tmod m < 0 ∧ a.tmod m + m = a % m ∧ -m < a.tmod m) ∨ (0 ≤ a.tmod m ∧ a.tmod m = a % m) := by
  have b0 := Int.emod_nonneg a (show m ≠ 0 by omega)
  have b1 := Int.emod_lt_of_pos a (show 0 < m by omega)
  rw [Int.tmod_eq_emod (a := a) (b := m)]
  split
  · right; omega
  · rename_i hc
    have : (m.natAbs : Int) = m := by omega
    have hd : a % m ≠ 0 := fun h => hc (.inr (Int.dvd_of_emod_eq_zero h))
    left; omega

/-- An inverse modulo m is the only one. -/
theorem inv_unique {a b x m : Int} (hb0 : 0 ≤ b) (hb1 : b < m) (hx0 : 0 ≤ x) (hx1 : x < m) (hb : a * b % m = 1 % m) (hx : a * x % m = 1 % m) : x = b := by
  have h1 : x * (a * b) % m = x * 1 % m := emul rfl hb
  have h2 : b * (a * x) % m = b * 1 % m := emul rfl hx
  rw [show x * (a * b) = b * (a * x) by grind, h2, Int.mul_one, Int.mul_one, Int.emod_eq_of_lt hb0 hb1, Int.emod_eq_of_lt hx0 hx1] at h1
  exact h1.symm

/-- Are P, Q, G a valid group? -/
def gvB (P Q G : Int) : Bool :=
  decide (P < 2305843009213693952) && decide (3 ≤ Q) && decide (Q % 2 = 1) && isP P && isP Q && decide ((P - 1) % Q = 0) && decide (2 ≤ G) && decide (G < P) && decide (pw G Q.toNat P = 1)

/-- Is x an element of a valid group? -/
def elB (P Q x : Int) : Bool := decide (1 ≤ x) && decide (x < P) && decide (pw x Q.toNat P = 1)

theorem isP_two {n : Int} (h : isP n = true) : 2 ≤ n := by
  refine Int.not_lt.1 fun hlt => ?_
  rw [isP, if_pos hlt] at h
  cases h

/-- What a valid group is. -/
structure Gp (P Q G : Int) : Prop where
  P4 : 4 ≤ P
  P61 : P < 2305843009213693952
  Q3 : 3 ≤ Q
  Qo : Q % 2 = 1
  QP : Q < P
  pP : isP P = true
  pQ : isP Q = true
  dv : (P - 1) % Q = 0
  G2 : 2 ≤ G
  GP : G < P
  GQ : pw G Q.toNat P = 1

theorem gv_iff {P Q G : Int} : gvB P Q G = true ↔ Gp P Q G := by
  constructor
  · intro h
    simp only [gvB, Bool.and_eq_true, decide_eq_true_eq] at h
    obtain ⟨⟨⟨⟨⟨⟨⟨⟨h1, h2⟩, h3⟩, h4⟩, h5⟩, h6⟩, h7⟩, h8⟩, h9⟩ := h
    have hQP : Q < P := by
      have := isP_two h4
      refine Int.not_le.1 fun hle => ?_
      rw [Int.emod_eq_of_lt (by omega) (by omega)] at h6
      omega
    exact ⟨by omega, h1, h2, h3, hQP, h4, h5, h6, h7, h8, h9⟩
  · intro h
    simp [gvB, h.P61, h.Q3, h.Qo, h.pP, h.pQ, h.dv, h.G2, h.GP, h.GQ]

theorem el_iff {P Q x : Int} : elB P Q x = true ↔ 1 ≤ x ∧ x < P ∧ pw x Q.toNat P = 1 := by
  simp [elB, and_assoc]

end Go.Sp
