/- The frame of all contracts: 'Up w w'': what was there when the call began is there still. Plain arithmetic of a division of two words by one (Knuth): the estimate of a digit, its corrections. No program in sight. DERIVED: THE SHELF's CONTRACTS AT THIS DUMP, IN PLAIN WORDS (tools/lay-plain.mjs out of 'TrydShelf.lean', which tools/lay-shelf.mjs wrote): THE SAME DECLARATIONS UNDER THE SAME NAMES: 'import', 'namespace', 'open', 'def', 'theorem' AND NOTHING ELSE: no command of the shelf's: FOR A HAND-IN. Each laying: the table of numbers ('.._ren') and one theorem, a field a fact of the dump's own or the kernel's comparison; each contract: ONE APPLICATION. -/
import Derived.Test.YtdlcmpbpdbpanaaDoorProg
import Derived.WalkKit
import Derived.WalkSpells
import Derived.Handy
import Derived.WalkSmall
import Derived.Shelf.Small.Bits
import Derived.Shelf.Small.Wraps
import Derived.Shelf.Strconv.Itoa0
import Derived.Shelf.Sort.Plain
import Derived.Shelf.Bits.Mul64
import Derived.Ground.Names2Prog
import Derived.Shelf.Slices.SearchI
import Derived.Shelf.Slices.In.SortNone
namespace Go.Sp
open Go.RowKit

theorem hid {p : Prop} (h : p) : Hid p := h

/-- Nothing that was there has turned. -/
def Up (w w' : World) : Prop := Below w.heap.size w w'

theorem Up.refl (w : World) : Up w w := Below.refl _ _
theorem Up.trans {a b c : World} (h : Up a b) (k : Up b c) : Up a c := Below.trans h (k.mono (Below.size h))
theorem Up.alloc {w w' : World} (h : Up w w') (o : Obj) : Up w (w'.alloc o) := Below.alloc h (Below.size h) o
theorem Up.drew {w w' : World} (h : Up w w') : Up w w'.drew := Below.drew h
theorem Up.drewN {w w' : World} (h : Up w w') (n : Nat) : Up w (w'.drewN n) := below_drewN h n
theorem Up.setCell {w w' : World} (h : Up w w') {a : Addr} (ha : w.heap.size ≤ a.block) (v : Value) : Up w (w'.setCell a v) := Below.setCell h ha v
theorem Up.size {w w' : World} (h : Up w w') : w.heap.size ≤ w'.heap.size := Below.size h
theorem Up.cell {w w' : World} (h : Up w w') {a : Addr} (ha : a.block < w.heap.size) : w'.cell? a = w.cell? a := Below.cell h ha
theorem Up.frozen {w w' : World} (h : Up w w') {a : Addr} (ha : a.block < w.heap.size) : w'.frozen? a = w.frozen? a := Below.frozen h ha
theorem Up.block {w w' : World} (h : Up w w') {k : Nat} (hk : k < w.heap.size) : w'.heap[k]? = w.heap[k]? := Below.block h k hk
theorem Up.below {w w' : World} (h : Up w w') : Below w.heap.size w w' := h

/-- Old cells, and their marks, read as they did: two rules for the walk. -/
theorem Up.reads {w w' : World} (h : Up w w') : (∀ b o, b < w.heap.size → w'.cell? ⟨b, o, none⟩ = w.cell? ⟨b, o, none⟩) ∧ (∀ b o, b < w.heap.size → w'.frozen? ⟨b, o, none⟩ = w.frozen? ⟨b, o, none⟩) :=
  ⟨fun _ _ hb => h.cell hb, fun _ _ hb => h.frozen hb⟩

end Go.Sp
namespace Go.Sp.Dv

/-- The estimate: U below Y = y1 B + y0. -/
theorem init {U y1 y0 n1 : Int} (h1 : 2147483648 ≤ y1) (h2 : y1 < 4294967296) (h3 : 0 ≤ y0) (h4 : y0 < 4294967296) (hU : 0 ≤ U) (hY : U < y1 * 4294967296 + y0) (hn : 0 ≤ n1) (hn2 : n1 < 4294967296) :
    0 ≤ U / y1 ∧ U / y1 ≤ 4294967297 ∧ 0 ≤ U - U / y1 * y1 ∧ U - U / y1 * y1 < y1 ∧ (U * 4294967296 + n1) / (y1 * 4294967296 + y0) ≤ U / y1 := by
  have e := Int.mul_ediv_add_emod U y1
  have m0 := Int.emod_nonneg U (show y1 ≠ 0 by omega)
  have m1 := Int.emod_lt_of_pos U (show 0 < y1 by omega)
  rw [Int.mul_comm] at e
  generalize U / y1 = q at *
  generalize U % y1 = r at *
  have q0 : 0 ≤ q := by
    refine Int.not_lt.1 fun hq => ?_
    have : q * y1 ≤ (-1) * y1 := Int.mul_le_mul_of_nonneg_right (by omega) (by omega)
    omega
  have q1 : q ≤ 4294967297 := by
    refine Int.not_lt.1 fun hq => ?_
    have : 4294967298 * y1 ≤ q * y1 := Int.mul_le_mul_of_nonneg_right (by omega) (by omega)
    omega
  refine ⟨q0, q1, by omega, by omega, ?_⟩
  refine Int.lt_add_one_iff.1 (Int.ediv_lt_of_lt_mul (by omega) ?_)
  have g : (q + 1) * (y1 * 4294967296 + y0) = q * y1 * 4294967296 + y1 * 4294967296 + (q * y0 + y0) := by grind
  have g2 : 0 ≤ q * y0 := Int.mul_nonneg q0 h3
  rw [g]
  generalize q * y1 = s at *
  generalize q * y0 = t at *
  omega

/-- The test says yes: the estimate is too great. -/
theorem down {U q r y1 y0 n1 : Int} (hr : q * y1 + r = U) (hU : 0 ≤ U) (hY : U < y1 * 4294967296 + y0) (hn : 0 ≤ n1) (hn2 : n1 < 4294967296)
    (ht : 4294967296 ≤ q ∨ 4294967296 * r + n1 < q * y0) : (U * 4294967296 + n1) / (y1 * 4294967296 + y0) ≤ q - 1 := by
  refine Int.lt_add_one_iff.1 (Int.ediv_lt_of_lt_mul (by omega) ?_)
  rw [show q - 1 + 1 = q by omega]
  have g : q * (y1 * 4294967296 + y0) = q * y1 * 4294967296 + q * y0 := by grind
  rcases ht with ht | ht
  · have := Int.mul_le_mul_of_nonneg_right ht (show (0 : Int) ≤ y1 * 4294967296 + y0 by omega)
    omega
  · rw [g]
    generalize q * y1 = s at *
    generalize q * y0 = t at *
    omega

/-- The test says no: the estimate is the digit. -/
theorem stop {U q r y1 y0 n1 : Int} (hr : q * y1 + r = U) (h1 : 2147483648 ≤ y1) (h3 : 0 ≤ y0)
    (hq : (U * 4294967296 + n1) / (y1 * 4294967296 + y0) ≤ q) (ht : q * y0 ≤ 4294967296 * r + n1) : (U * 4294967296 + n1) / (y1 * 4294967296 + y0) = q := by
  refine Int.le_antisymm hq ?_
  refine (Int.le_ediv_iff_mul_le (by omega)).2 ?_
  have g : q * (y1 * 4294967296 + y0) = q * y1 * 4294967296 + q * y0 := by grind
  rw [g]
  generalize q * y1 = s at *
  generalize q * y0 = t at *
  omega

/-- The rest has grown beyond a digit: likewise. -/
theorem over {U q r y1 y0 n1 : Int} (hr : q * y1 + r = U) (h1 : 2147483648 ≤ y1) (h3 : 0 ≤ y0) (h4 : y0 < 4294967296) (hn : 0 ≤ n1)
    (hq : (U * 4294967296 + n1) / (y1 * 4294967296 + y0) ≤ q) (hb : q ≤ 4294967296) (ht : 4294967296 ≤ r) : (U * 4294967296 + n1) / (y1 * 4294967296 + y0) = q := by
  refine stop hr h1 h3 hq ?_
  have := Int.mul_le_mul_of_nonneg_right hb h3
  omega

/-- The products that the test makes do not wrap. -/
theorem small {q y0 : Int} (q0 : 0 ≤ q) (q1 : q ≤ 4294967297) (h3 : 0 ≤ y0) (h4 : y0 < 4294967296) : 0 ≤ q * y0 ∧ q * y0 ≤ 18446744073709551615 := by
  have a := Int.mul_le_mul q1 (show y0 ≤ 4294967295 by omega) h3 (by omega)
  exact ⟨Int.mul_nonneg q0 h3, by omega⟩

/-- The rest of a digit's step, as the 64-bit numbers give it. -/
theorem rest {U Y n1 q : Int} (hY : 0 < Y) (hYs : Y ≤ 18446744073709551615) (hq : (U * 4294967296 + n1) / Y = q) :
    ((U * 4294967296 % 18446744073709551616 + n1) % 18446744073709551616 - q * Y % 18446744073709551616) % 18446744073709551616 = (U * 4294967296 + n1) % Y := by
  have e := Int.mul_ediv_add_emod (U * 4294967296 + n1) Y
  rw [hq, Int.mul_comm] at e
  have m0 := Int.emod_nonneg (U * 4294967296 + n1) (show Y ≠ 0 by omega)
  have m1 := Int.emod_lt_of_pos (U * 4294967296 + n1) hY
  generalize q * Y = s at *
  omega

theorem div_two {T Y n0 : Int} (hY : 0 < Y) :
    (T * 4294967296 + n0) / Y = T / Y * 4294967296 + (T % Y * 4294967296 + n0) / Y ∧ (T * 4294967296 + n0) % Y = (T % Y * 4294967296 + n0) % Y := by
  have e := Int.mul_ediv_add_emod T Y
  have k : T * 4294967296 + n0 = T % Y * 4294967296 + n0 + T / Y * 4294967296 * Y := by
    have : T / Y * 4294967296 * Y = Y * (T / Y) * 4294967296 := by grind
    omega
  constructor
  · rw [k, Int.add_mul_ediv_right _ _ (by omega)]; omega
  · rw [k, Int.add_mul_emod_self_right]

/-- A division by a multiple. -/
theorem scaled (N z : Int) (k : Int) (hk : 0 < k) : N * k / (z * k) = N / z ∧ N * k % (z * k) = N % z * k := by
  constructor
  · exact Int.mul_ediv_mul_of_pos_left _ _ hk
  · have e := Int.mul_ediv_add_emod (N * k) (z * k)
    rw [Int.mul_ediv_mul_of_pos_left _ _ hk] at e
    have e2 := Int.mul_ediv_add_emod N z
    have : z * k * (N / z) = z * (N / z) * k := by grind
    have h3 : N * k = z * (N / z) * k + N % z * k := by rw [← Int.add_mul, e2]
    omega
end Go.Sp.Dv
namespace Go.Proofs.YtdlcmpbpdbpanaaDoor
open Go.Shelf
def Tryd.lays128_ren : Go.Shelf.Ren := ⟨fun | 128 => 180 | n => n, fun | 51 => 122 | 3 => 3 | 4 => 4 | 46 => 35 | 5 => 5 | 9 => 9 | n => n, fun | n => n⟩
theorem Tryd.lays128 : Go.Proofs.Lays.n128 Tryd.prog Tryd.lays128_ren := {
  mixed := by kernel_rfl
  f128 := Tryd.func180.trans (congrArg some (by kernel_rfl))
  t3 := Tryd.underlying3
  a3 := Tryd.isAgg3
  z3 := Tryd.sizeOf3
  v3 := Tryd.zeroValue3
  t4 := Tryd.underlying4
  a4 := Tryd.isAgg4
  z4 := Tryd.sizeOf4
  v4 := Tryd.zeroValue4
  t5 := Tryd.underlying5
  a5 := Tryd.isAgg5
  z5 := Tryd.sizeOf5
  v5 := Tryd.zeroValue5
  t9 := Tryd.underlying9
  a9 := Tryd.isAgg9
  z9 := Tryd.sizeOf9
  v9 := Tryd.zeroValue9
  t46 := Tryd.underlying35
  a46 := Tryd.isAgg35
  z46 := Tryd.sizeOf35
  v46 := Tryd.zeroValue35
  t51 := Tryd.underlying122
  a51 := Tryd.isAgg122
  z51 := Tryd.sizeOf122
  v51 := Tryd.zeroValue122 }
/-- bits.Len32: "Len32 returns the minimum number of bits required to represent x; the result is 0 for x == 0.": IT RETURNS 'Lib.bitLen x'; the world is as it was. ('h0', 'h1': x is a uint32.) (LAID: no walk: one application.) -/
theorem Tryd.bits_Len32 (x : Int) (w : World) (h0 : 0 ≤ x) (h1 : x ≤ 4294967295) :
    Calls Tryd.prog 180 #[.int .u32 x] w fun e w' => e = .returned (.int .i64 (Lib.bitLen x.toNat)) ∧ w' = w := Any.bits_Len32 Tryd.lays128 x w h0 h1
def Tryd.lays125_ren : Go.Shelf.Ren := ⟨fun | 125 => 147 | 128 => 180 | 129 => 121 | n => n, fun | 46 => 35 | 3 => 3 | 51 => 122 | 53 => 34 | 4 => 4 | 5 => 5 | 9 => 9 | n => n, fun | n => n⟩
theorem Tryd.lays125 : Go.Proofs.Lays.n125 Tryd.prog Tryd.lays125_ren := {
  mixed := by kernel_rfl
  f125 := Tryd.func147.trans (congrArg some (by kernel_rfl))
  f128 := Tryd.func180.trans (congrArg some (by kernel_rfl))
  f129 := Tryd.func121.trans (congrArg some (by kernel_rfl))
  t3 := Tryd.underlying3
  a3 := Tryd.isAgg3
  z3 := Tryd.sizeOf3
  v3 := Tryd.zeroValue3
  t4 := Tryd.underlying4
  a4 := Tryd.isAgg4
  z4 := Tryd.sizeOf4
  v4 := Tryd.zeroValue4
  t5 := Tryd.underlying5
  a5 := Tryd.isAgg5
  z5 := Tryd.sizeOf5
  v5 := Tryd.zeroValue5
  t9 := Tryd.underlying9
  a9 := Tryd.isAgg9
  z9 := Tryd.sizeOf9
  v9 := Tryd.zeroValue9
  t46 := Tryd.underlying35
  a46 := Tryd.isAgg35
  z46 := Tryd.sizeOf35
  v46 := Tryd.zeroValue35
  t51 := Tryd.underlying122
  a51 := Tryd.isAgg122
  z51 := Tryd.sizeOf122
  v51 := Tryd.zeroValue122
  t53 := Tryd.underlying34
  a53 := Tryd.isAgg34
  z53 := Tryd.sizeOf34
  v53 := Tryd.zeroValue34 }
/-- bits.Len: "Len returns the minimum number of bits required to represent x; the result is 0 for x == 0.": IT RETURNS 'Lib.bitLen x'; the world is as it was. (A uint has 64 bits in the model.) ITS CALLEE bits.Len64 IS MET BY ITS OWN CONTRACT OFF THE SHELF (lay that first). (LAID: no walk: one application.) -/
theorem Tryd.bits_Len (x : Int) (w : World) (h0 : 0 ≤ x) (h1 : x ≤ 18446744073709551615) :
    Calls Tryd.prog 147 #[.int .u64 x] w fun e w' => e = .returned (.int .i64 (Lib.bitLen x.toNat)) ∧ w' = w := Any.bits_Len Tryd.lays125 x w h0 h1
def Tryd.lays134_ren : Go.Shelf.Ren := ⟨fun | 134 => 193 | 129 => 121 | n => n, fun | 53 => 34 | 3 => 3 | 4 => 4 | 46 => 35 | 5 => 5 | 9 => 9 | n => n, fun | n => n⟩
theorem Tryd.lays134 : Go.Proofs.Lays.n134 Tryd.prog Tryd.lays134_ren := {
  mixed := by kernel_rfl
  f129 := Tryd.func121.trans (congrArg some (by kernel_rfl))
  f134 := Tryd.func193.trans (congrArg some (by kernel_rfl))
  t3 := Tryd.underlying3
  a3 := Tryd.isAgg3
  z3 := Tryd.sizeOf3
  v3 := Tryd.zeroValue3
  t4 := Tryd.underlying4
  a4 := Tryd.isAgg4
  z4 := Tryd.sizeOf4
  v4 := Tryd.zeroValue4
  t5 := Tryd.underlying5
  a5 := Tryd.isAgg5
  z5 := Tryd.sizeOf5
  v5 := Tryd.zeroValue5
  t9 := Tryd.underlying9
  a9 := Tryd.isAgg9
  z9 := Tryd.sizeOf9
  v9 := Tryd.zeroValue9
  t46 := Tryd.underlying35
  a46 := Tryd.isAgg35
  z46 := Tryd.sizeOf35
  v46 := Tryd.zeroValue35
  t53 := Tryd.underlying34
  a53 := Tryd.isAgg34
  z53 := Tryd.sizeOf34
  v53 := Tryd.zeroValue34 }
/-- bits.LeadingZeros64: "LeadingZeros64 returns the number of leading zero bits in x; the result is 64 for x == 0.": IT RETURNS '64 - Lib.bitLen x'; the world is as it was. ITS CALLEE bits.Len64 IS MET BY ITS OWN CONTRACT OFF THE SHELF (lay that first): entered in place it sends the kernel out of memory. (LAID: no walk: one application.) -/
theorem Tryd.bits_LeadingZeros64 (x : Int) (w : World) (h0 : 0 ≤ x) (h1 : x ≤ 18446744073709551615) :
    Calls Tryd.prog 193 #[.int .u64 x] w fun e w' => e = .returned (.int .i64 (64 - (Lib.bitLen x.toNat : Int))) ∧ w' = w := Any.bits_LeadingZeros64 Tryd.lays134 x w h0 h1
def Tryd.lays215_ren : Go.Shelf.Ren := ⟨fun | 215 => 199 | n => n, fun | 3 => 3 | 4 => 4 | n => n, fun | n => n⟩
theorem Tryd.lays215 : Go.Proofs.Lays.n215 Tryd.prog Tryd.lays215_ren := {
  mixed := by kernel_rfl
  f215 := Tryd.func199.trans (congrArg some (by kernel_rfl))
  t3 := Tryd.underlying3
  a3 := Tryd.isAgg3
  z3 := Tryd.sizeOf3
  v3 := Tryd.zeroValue3
  t4 := Tryd.underlying4
  a4 := Tryd.isAgg4
  z4 := Tryd.sizeOf4
  v4 := Tryd.zeroValue4 }
open Go.RowKit in
/-- cmp.isNaN at int: 'x != x': false. (LAID: no walk: one application.) -/
theorem Tryd.cmp_isNaN_int (x : Int) (w : World) :
    Calls Tryd.prog 199 #[.int .i64 x] w fun e w' => e = .returned (.bool false) ∧ w' = w := Any.cmp_isNaN_int Tryd.lays215 x w
def Tryd.lays129_ren : Go.Shelf.Ren := ⟨fun | 129 => 121 | n => n, fun | 53 => 34 | 3 => 3 | 4 => 4 | 46 => 35 | 5 => 5 | 9 => 9 | n => n, fun | n => n⟩
theorem Tryd.lays129 : Go.Proofs.Lays.n129 Tryd.prog Tryd.lays129_ren := {
  mixed := by kernel_rfl
  f129 := Tryd.func121.trans (congrArg some (by kernel_rfl))
  t3 := Tryd.underlying3
  a3 := Tryd.isAgg3
  z3 := Tryd.sizeOf3
  v3 := Tryd.zeroValue3
  t4 := Tryd.underlying4
  a4 := Tryd.isAgg4
  z4 := Tryd.sizeOf4
  v4 := Tryd.zeroValue4
  t5 := Tryd.underlying5
  a5 := Tryd.isAgg5
  z5 := Tryd.sizeOf5
  v5 := Tryd.zeroValue5
  t9 := Tryd.underlying9
  a9 := Tryd.isAgg9
  z9 := Tryd.sizeOf9
  v9 := Tryd.zeroValue9
  t46 := Tryd.underlying35
  a46 := Tryd.isAgg35
  z46 := Tryd.sizeOf35
  v46 := Tryd.zeroValue35
  t53 := Tryd.underlying34
  a53 := Tryd.isAgg34
  z53 := Tryd.sizeOf34
  v53 := Tryd.zeroValue34 }
/-- bits.Len64: "Len64 returns the minimum number of bits required to represent x; the result is 0 for x == 0.": IT RETURNS 'Lib.bitLen x'; the world is as it was. ('h0', 'h1': x is a uint64.) (LAID: no walk: one application.) -/
theorem Tryd.bits_Len64 (x : Int) (w : World) (h0 : 0 ≤ x) (h1 : x ≤ 18446744073709551615) :
    Calls Tryd.prog 121 #[.int .u64 x] w fun e w' => e = .returned (.int .i64 (Lib.bitLen x.toNat)) ∧ w' = w := Any.bits_Len64 Tryd.lays129 x w h0 h1
def Tryd.lays189_ren : Go.Shelf.Ren := ⟨fun | 189 => 97 | 125 => 147 | 257 => 146 | 128 => 180 | 129 => 121 | 294 => 171 | 295 => 172 | 296 => 173 | 297 => 174 | 298 => 175 | 299 => 176 | 216 => 177 | 300 => 178 | 301 => 179 | 328 => 194 | 329 => 195 | 330 => 196 | 331 => 197 | 332 => 198 | 215 => 199 | 343 => 206 | n => n, fun | 28 => 44 | 3 => 3 | 46 => 35 | 0 => 0 | 51 => 122 | 53 => 34 | 4 => 4 | 183 => 215 | 182 => 214 | 131 => 219 | 5 => 5 | 9 => 9 | 218 => 233 | 222 => 100 | 228 => 239 | 229 => 240 | n => n, fun | n => n⟩
theorem Tryd.lays189 : Go.Proofs.Lays.n189 Tryd.prog Tryd.lays189_ren := {
  mixed := by kernel_rfl
  f125 := Tryd.func147.trans (congrArg some (by kernel_rfl))
  f128 := Tryd.func180.trans (congrArg some (by kernel_rfl))
  f129 := Tryd.func121.trans (congrArg some (by kernel_rfl))
  f189 := Tryd.func97.trans (congrArg some (by kernel_rfl))
  f215 := Tryd.func199.trans (congrArg some (by kernel_rfl))
  f216 := Tryd.func177.trans (congrArg some (by kernel_rfl))
  f257 := Tryd.func146.trans (congrArg some (by kernel_rfl))
  f294 := Tryd.func171.trans (congrArg some (by kernel_rfl))
  f295 := Tryd.func172.trans (congrArg some (by kernel_rfl))
  f296 := Tryd.func173.trans (congrArg some (by kernel_rfl))
  f297 := Tryd.func174.trans (congrArg some (by kernel_rfl))
  f298 := Tryd.func175.trans (congrArg some (by kernel_rfl))
  f299 := Tryd.func176.trans (congrArg some (by kernel_rfl))
  f300 := Tryd.func178.trans (congrArg some (by kernel_rfl))
  f301 := Tryd.func179.trans (congrArg some (by kernel_rfl))
  f328 := Tryd.func194.trans (congrArg some (by kernel_rfl))
  f329 := Tryd.func195.trans (congrArg some (by kernel_rfl))
  f330 := Tryd.func196.trans (congrArg some (by kernel_rfl))
  f331 := Tryd.func197.trans (congrArg some (by kernel_rfl))
  f332 := Tryd.func198.trans (congrArg some (by kernel_rfl))
  f343 := Tryd.func206.trans (congrArg some (by kernel_rfl))
  t0 := Tryd.underlying0
  a0 := Tryd.isAgg0
  z0 := Tryd.sizeOf0
  v0 := Tryd.zeroValue0
  t3 := Tryd.underlying3
  a3 := Tryd.isAgg3
  z3 := Tryd.sizeOf3
  v3 := Tryd.zeroValue3
  t4 := Tryd.underlying4
  a4 := Tryd.isAgg4
  z4 := Tryd.sizeOf4
  v4 := Tryd.zeroValue4
  t5 := Tryd.underlying5
  a5 := Tryd.isAgg5
  z5 := Tryd.sizeOf5
  v5 := Tryd.zeroValue5
  t9 := Tryd.underlying9
  a9 := Tryd.isAgg9
  z9 := Tryd.sizeOf9
  v9 := Tryd.zeroValue9
  t28 := Tryd.underlying44
  a28 := Tryd.isAgg44
  z28 := Tryd.sizeOf44
  v28 := Tryd.zeroValue44
  t46 := Tryd.underlying35
  a46 := Tryd.isAgg35
  z46 := Tryd.sizeOf35
  v46 := Tryd.zeroValue35
  t51 := Tryd.underlying122
  a51 := Tryd.isAgg122
  z51 := Tryd.sizeOf122
  v51 := Tryd.zeroValue122
  t53 := Tryd.underlying34
  a53 := Tryd.isAgg34
  z53 := Tryd.sizeOf34
  v53 := Tryd.zeroValue34
  t131 := Tryd.underlying219
  a131 := Tryd.isAgg219
  z131 := Tryd.sizeOf219
  v131 := Tryd.zeroValue219
  t182 := Tryd.underlying214
  a182 := Tryd.isAgg214
  z182 := Tryd.sizeOf214
  v182 := Tryd.zeroValue214
  t183 := Tryd.underlying215
  a183 := Tryd.isAgg215
  z183 := Tryd.sizeOf215
  v183 := Tryd.zeroValue215
  t218 := Tryd.underlying233
  a218 := Tryd.isAgg233
  z218 := Tryd.sizeOf233
  v218 := Tryd.zeroValue233
  t222 := Tryd.underlying100
  a222 := Tryd.isAgg100
  z222 := Tryd.sizeOf100
  v222 := Tryd.zeroValue100
  t228 := Tryd.underlying239
  a228 := Tryd.isAgg239
  z228 := Tryd.sizeOf239
  v228 := Tryd.zeroValue239
  t229 := Tryd.underlying240
  a229 := Tryd.isAgg240
  z229 := Tryd.sizeOf240
  v229 := Tryd.zeroValue240 }
open Go.Sort Go.RowKit in
theorem Tryd.slices_Sort_int (blk off cap : Nat) (zs : List Int) (w : World) (hH : Holds (Value.int .i64) w blk off zs.toArray) (hblk : blk < w.heap.size) (hsz : zs.length < 4611686018427387904) :
    Calls Tryd.prog 97 #[.slice (some ⟨blk, off, none⟩) zs.length cap] w fun e w' =>
      e = .returned (.tuple #[]) ∧ ∃ n os, w' = grow (putRow (Value.int .i64) (Sort.ahead w n) blk off (zs.mergeSort fun x y => decide (x ≤ y)).toArray) os := Any.slices_Sort_int Tryd.lays189 blk off cap zs w hH hblk hsz
def Tryd.lays264_ren : Go.Shelf.Ren := ⟨fun | 264 => 169 | n => n, fun | 53 => 34 | 46 => 35 | n => n, fun | n => n⟩
theorem Tryd.lays264 : Go.Proofs.Lays.n264 Tryd.prog Tryd.lays264_ren := {
  mixed := by kernel_rfl
  f264 := Tryd.func169.trans (congrArg some (by kernel_rfl))
  t46 := Tryd.underlying35
  a46 := Tryd.isAgg35
  z46 := Tryd.sizeOf35
  v46 := Tryd.zeroValue35
  t53 := Tryd.underlying34
  a53 := Tryd.isAgg34
  z53 := Tryd.sizeOf34
  v53 := Tryd.zeroValue34 }
open Go.RowKit Go.Lib in
theorem Tryd.bits_Mul64 (x y : Nat) (hx : x < 18446744073709551616) (hy : y < 18446744073709551616) (w : World) :
    Calls Tryd.prog 169 #[.int .u64 x, .int .u64 y] w fun e w' => e = .returned (.tuple #[.int .u64 ((x * y / 18446744073709551616 : Nat) : Int), .int .u64 ((x * y % 18446744073709551616 : Nat) : Int)]) ∧ w' = w := Any.bits_Mul64 Tryd.lays264 x y hx hy w
def Tryd.laysNm237_ren : Go.Shelf.Ren := ⟨fun | 37 => 199 | n => n, fun | 3 => 3 | 4 => 4 | n => n, fun | n => n⟩
theorem Tryd.laysNm237 : Go.Proofs.Lays2.n37 Tryd.prog Tryd.laysNm237_ren := {
  mixed := by kernel_rfl
  f37 := Tryd.func199.trans (congrArg some (by kernel_rfl))
  t3 := Tryd.underlying3
  a3 := Tryd.isAgg3
  z3 := Tryd.sizeOf3
  v3 := Tryd.zeroValue3
  t4 := Tryd.underlying4
  a4 := Tryd.isAgg4
  z4 := Tryd.sizeOf4
  v4 := Tryd.zeroValue4 }
open Go.RowKit Go.Lib in
/-- cmp.isNaN[int]: 'x != x': false. (LAID: no walk: one application.) -/
theorem Tryd.cmp_isNaN_int2 (x : Int) (w : World) :
    Calls Tryd.prog 199 #[.int .i64 x] w fun e w' => e = .returned (.bool false) ∧ w' = w := Any.cmp_isNaN_int2 Tryd.laysNm237 x w
def Tryd.laysNm231_ren : Go.Shelf.Ren := ⟨fun | 31 => 177 | 37 => 199 | n => n, fun | 3 => 3 | 4 => 4 | n => n, fun | n => n⟩
theorem Tryd.laysNm231 : Go.Proofs.Lays2.n31 Tryd.prog Tryd.laysNm231_ren := {
  mixed := by kernel_rfl
  f31 := Tryd.func177.trans (congrArg some (by kernel_rfl))
  f37 := Tryd.func199.trans (congrArg some (by kernel_rfl))
  t3 := Tryd.underlying3
  a3 := Tryd.isAgg3
  z3 := Tryd.sizeOf3
  v3 := Tryd.zeroValue3
  t4 := Tryd.underlying4
  a4 := Tryd.isAgg4
  z4 := Tryd.sizeOf4
  v4 := Tryd.zeroValue4 }
open Go.RowKit Go.Lib in
/-- cmp.Less[int]: "Less reports whether x is less than y.": 'x < y'; the world is as it was. (LAID: no walk: one application.) -/
theorem Tryd.cmp_Less_int2 (x y : Int) (w : World) :
    Calls Tryd.prog 177 #[.int .i64 x, .int .i64 y] w fun e w' => e = .returned (.bool (decide (x < y))) ∧ w' = w := Any.cmp_Less_int2 Tryd.laysNm231 x y w
open Go.RowKit Go.Sort in
/-- .. and plain. (LAID: no walk: one application.) -/
theorem Tryd.slices_Sort_int_none (p : Option Addr) (cap : Nat) (w : World) :
    Calls Tryd.prog 97 #[.slice p 0 cap] w fun e w' => e = .returned (.tuple #[]) ∧ w' = w := Any.slices_Sort_int_none Tryd.lays189 p cap w
end Go.Proofs.YtdlcmpbpdbpanaaDoor
