/- DERIVED: THE SHELF's CONTRACTS AT THIS DUMP, IN PLAIN WORDS (tools/lay-plain.mjs out of 'TryzShelf.lean', which tools/lay-shelf.mjs wrote): THE SAME DECLARATIONS UNDER THE SAME NAMES: 'import', 'namespace', 'open', 'def', 'theorem' AND NOTHING ELSE: no command of the shelf's: FOR A HAND-IN. Each laying: the table of numbers ('.._ren') and one theorem, a field a fact of the dump's own or the kernel's comparison; each contract: ONE APPLICATION. math/bits.Mul64 and math/bits.Div64, by walking their text. -/
import Derived.Test.YtdlcmpbpdbpanaaGreatDoorProg
import Derived.Test.YtdlcmpbpdbpanaaGreatDoorMUnlinkExplains1
import Derived.Shelf.Small.Bits
import Derived.Shelf.Strconv.Itoa0
import Derived.Shelf.Bits.Mul64
import Derived.Deep.CutRange
import Derived.Deep.CutBlock
import Derived.Deep.QuietTactic
import Derived.BigQuiet
import Derived.Lib.BitFns
import Derived.Lib.ItoaNum
namespace Go.Proofs.YtdlcmpbpdbpanaaGreatDoor
open Go.Shelf
def Tryz.lays134_ren : Go.Shelf.Ren := ⟨fun | 134 => 244 | 129 => 248 | n => n, fun | 53 => 190 | 3 => 3 | 4 => 4 | 46 => 222 | 5 => 5 | 9 => 9 | n => n, fun | n => n⟩
theorem Tryz.lays134 : Go.Proofs.Lays.n134 Tryz.prog Tryz.lays134_ren := {
  mixed := by kernel_rfl
  f129 := Tryz.func248.trans (congrArg some (by kernel_rfl))
  f134 := Tryz.func244.trans (congrArg some (by kernel_rfl))
  t3 := Tryz.underlying3
  a3 := Tryz.isAgg3
  z3 := Tryz.sizeOf3
  v3 := Tryz.zeroValue3
  t4 := Tryz.underlying4
  a4 := Tryz.isAgg4
  z4 := Tryz.sizeOf4
  v4 := Tryz.zeroValue4
  t5 := Tryz.underlying5
  a5 := Tryz.isAgg5
  z5 := Tryz.sizeOf5
  v5 := Tryz.zeroValue5
  t9 := Tryz.underlying9
  a9 := Tryz.isAgg9
  z9 := Tryz.sizeOf9
  v9 := Tryz.zeroValue9
  t46 := Tryz.underlying222
  a46 := Tryz.isAgg222
  z46 := Tryz.sizeOf222
  v46 := Tryz.zeroValue222
  t53 := Tryz.underlying190
  a53 := Tryz.isAgg190
  z53 := Tryz.sizeOf190
  v53 := Tryz.zeroValue190 }
/-- bits.LeadingZeros64: "LeadingZeros64 returns the number of leading zero bits in x; the result is 64 for x == 0.": IT RETURNS '64 - Lib.bitLen x'; the world is as it was. ITS CALLEE bits.Len64 IS MET BY ITS OWN CONTRACT OFF THE SHELF (lay that first): entered in place it sends the kernel out of memory. (LAID: no walk: one application.) -/
theorem Tryz.bits_LeadingZeros64 (x : Int) (w : World) (h0 : 0 ≤ x) (h1 : x ≤ 18446744073709551615) :
    Calls Tryz.prog 244 #[.int .u64 x] w fun e w' => e = .returned (.int .i64 (64 - (Lib.bitLen x.toNat : Int))) ∧ w' = w := Any.bits_LeadingZeros64 Tryz.lays134 x w h0 h1
def Tryz.lays129_ren : Go.Shelf.Ren := ⟨fun | 129 => 248 | n => n, fun | 53 => 190 | 3 => 3 | 4 => 4 | 46 => 222 | 5 => 5 | 9 => 9 | n => n, fun | n => n⟩
theorem Tryz.lays129 : Go.Proofs.Lays.n129 Tryz.prog Tryz.lays129_ren := {
  mixed := by kernel_rfl
  f129 := Tryz.func248.trans (congrArg some (by kernel_rfl))
  t3 := Tryz.underlying3
  a3 := Tryz.isAgg3
  z3 := Tryz.sizeOf3
  v3 := Tryz.zeroValue3
  t4 := Tryz.underlying4
  a4 := Tryz.isAgg4
  z4 := Tryz.sizeOf4
  v4 := Tryz.zeroValue4
  t5 := Tryz.underlying5
  a5 := Tryz.isAgg5
  z5 := Tryz.sizeOf5
  v5 := Tryz.zeroValue5
  t9 := Tryz.underlying9
  a9 := Tryz.isAgg9
  z9 := Tryz.sizeOf9
  v9 := Tryz.zeroValue9
  t46 := Tryz.underlying222
  a46 := Tryz.isAgg222
  z46 := Tryz.sizeOf222
  v46 := Tryz.zeroValue222
  t53 := Tryz.underlying190
  a53 := Tryz.isAgg190
  z53 := Tryz.sizeOf190
  v53 := Tryz.zeroValue190 }
/-- bits.Len64: "Len64 returns the minimum number of bits required to represent x; the result is 0 for x == 0.": IT RETURNS 'Lib.bitLen x'; the world is as it was. ('h0', 'h1': x is a uint64.) (LAID: no walk: one application.) -/
theorem Tryz.bits_Len64 (x : Int) (w : World) (h0 : 0 ≤ x) (h1 : x ≤ 18446744073709551615) :
    Calls Tryz.prog 248 #[.int .u64 x] w fun e w' => e = .returned (.int .i64 (Lib.bitLen x.toNat)) ∧ w' = w := Any.bits_Len64 Tryz.lays129 x w h0 h1
def Tryz.lays264_ren : Go.Shelf.Ren := ⟨fun | 264 => 218 | n => n, fun | 53 => 190 | 46 => 222 | n => n, fun | n => n⟩
theorem Tryz.lays264 : Go.Proofs.Lays.n264 Tryz.prog Tryz.lays264_ren := {
  mixed := by kernel_rfl
  f264 := Tryz.func218.trans (congrArg some (by kernel_rfl))
  t46 := Tryz.underlying222
  a46 := Tryz.isAgg222
  z46 := Tryz.sizeOf222
  v46 := Tryz.zeroValue222
  t53 := Tryz.underlying190
  a53 := Tryz.isAgg190
  z53 := Tryz.sizeOf190
  v53 := Tryz.zeroValue190 }
open Go.RowKit Go.Lib in
theorem Tryz.bits_Mul64 (x y : Nat) (hx : x < 18446744073709551616) (hy : y < 18446744073709551616) (w : World) :
    Calls Tryz.prog 218 #[.int .u64 x, .int .u64 y] w fun e w' => e = .returned (.tuple #[.int .u64 ((x * y / 18446744073709551616 : Nat) : Int), .int .u64 ((x * y % 18446744073709551616 : Nat) : Int)]) ∧ w' = w := Any.bits_Mul64 Tryz.lays264 x y hx hy w
end Go.Proofs.YtdlcmpbpdbpanaaGreatDoor
namespace Go.Proofs.YtdlcmpbpdbpanaaGreatDoor
open Go.RowKit Go.Sp
set_option maxHeartbeats 400000

theorem mul64_any (x y : Int) (hx0 : 0 ≤ x) (hx : x < 18446744073709551616) (hy0 : 0 ≤ y) (hy : y < 18446744073709551616) (w : World) :
    Calls Tryz.prog 218 #[.int .u64 x, .int .u64 y] w fun e w' => e = .returned (.tuple #[.int .u64 (x * y / 18446744073709551616), .int .u64 (x * y % 18446744073709551616)]) ∧ w = w' := by
  have hm := hid (mul64_arith x y hx0 hx hy0 hy)
  go_enter Tryz.func218, Tryz.ntmps218
  go_wp2
  go_ret2
  refine ⟨?_, rfl⟩
  rw [← hm.out]
  simp only [IntKind.wrap_u64]
  rw [and_low32 x hx0 hx, and_low32 y hy0 hy, and_low32 _ (by omega) (by omega)]
  rfl

/-- The shift that brings z's highest bit to the front. -/
theorem shift_facts (z : Int) (h0 : 1 ≤ z) (h1 : z ≤ 18446744073709551615) :
    0 ≤ 64 - (Lib.bitLen z.toNat : Int) ∧ 64 - (Lib.bitLen z.toNat : Int) ≤ 63 ∧ 9223372036854775808 ≤ z * 2 ^ (64 - (Lib.bitLen z.toNat : Int)).toNat ∧ z * 2 ^ (64 - (Lib.bitLen z.toNat : Int)).toNat ≤ 18446744073709551615 := by
  obtain ⟨n, rfl⟩ := Int.eq_ofNat_of_zero_le (show 0 ≤ z by omega)
  rw [Int.toNat_natCast]
  obtain ⟨b1, b2, b3⟩ := Lib.bitLenAux_bounds 64 n (by omega) (by omega)
  have b4 : Lib.bitLen n ≤ 64 := Lib.bitLen_le n 64 (by omega) (by omega)
  change 1 ≤ Lib.bitLen n at b1
  change 2 ^ (Lib.bitLen n - 1) ≤ n at b2
  change n < 2 ^ Lib.bitLen n at b3
  generalize Lib.bitLen n = l at *
  refine ⟨by omega, by omega, ?_⟩
  rw [show (64 - (l : Int)).toNat = 64 - l by omega]
  have p1 : 2 ^ (l - 1) * 2 ^ (64 - l) = 2 ^ 63 := by rw [← Nat.pow_add]; congr 1; omega
  have p2 : 2 ^ l * 2 ^ (64 - l) = 2 ^ 64 := by rw [← Nat.pow_add]; congr 1; omega
  have q0 : 0 < 2 ^ (64 - l) := Nat.two_pow_pos _
  have q1 := Nat.mul_le_mul_right (2 ^ (64 - l)) b2
  have q2 := Nat.mul_lt_mul_of_pos_right b3 q0
  rw [p1] at q1
  rw [p2] at q2
  have e : (n : Int) * 2 ^ (64 - l) = ((n * 2 ^ (64 - l) : Nat) : Int) := by simp
  rw [e]
  omega

/-- What the shifts give. -/
theorem shifted (x y z s : Int) (hx0 : 1 ≤ x) (hx : x < z) (hy0 : 0 ≤ y) (hy : y ≤ 18446744073709551615) (s0 : 0 ≤ s) (s1 : s ≤ 63) (z2 : z * 2 ^ s.toNat ≤ 18446744073709551615) :
    0 ≤ bits .or .u64 (IntKind.u64.wrap (x * 2 ^ s.toNat)) (y / 2 ^ (64 - s).toNat) ∧
    bits .or .u64 (IntKind.u64.wrap (x * 2 ^ s.toNat)) (y / 2 ^ (64 - s).toNat) < z * 2 ^ s.toNat ∧
    0 ≤ IntKind.u64.wrap (y * 2 ^ s.toNat) ∧ IntKind.u64.wrap (y * 2 ^ s.toNat) ≤ 18446744073709551615 ∧
    bits .or .u64 (IntKind.u64.wrap (x * 2 ^ s.toNat)) (y / 2 ^ (64 - s).toNat) * 18446744073709551616 + IntKind.u64.wrap (y * 2 ^ s.toNat) = (x * 18446744073709551616 + y) * 2 ^ s.toNat := by
  obtain ⟨k, rfl⟩ := Int.eq_ofNat_of_zero_le s0
  rw [show (64 - (k : Int)).toNat = 64 - k by omega, Int.toNat_natCast] at *
  have p : (2 : Int) ^ k * 2 ^ (64 - k) = 18446744073709551616 := by rw [← Int.pow_add, show k + (64 - k) = 64 by omega]; rfl
  have K0 : (0 : Int) < 2 ^ k := Int.pow_pos (by decide)
  have L0 : (0 : Int) < 2 ^ (64 - k) := Int.pow_pos (by decide)
  have hm : (x * 2 ^ k) % 2 ^ k = 0 := Int.mul_emod_left _ _
  have hjoin := fun a b => bits_join .u64 64 (by decide) (fun n h0 h1 => by rw [IntKind.wrap_u64]; omega) k a b
  generalize (2 : Int) ^ k = K at *
  generalize (2 : Int) ^ (64 - k) = L at *
  have a1 : x * K < z * K := Int.mul_lt_mul_of_pos_right hx K0
  have a2 : 0 ≤ x * K := Int.mul_nonneg (by omega) (by omega)
  have a3 : x * K + K ≤ z * K := by
    have := Int.mul_le_mul_of_nonneg_right (show x + 1 ≤ z by omega) (show 0 ≤ K by omega)
    rw [Int.add_mul, Int.one_mul] at this; exact this
  have d := Int.mul_ediv_add_emod y L
  have d0 := Int.emod_nonneg y (show L ≠ 0 by omega)
  have d1 := Int.emod_lt_of_pos y L0
  have d2 : 0 ≤ y / L := Int.ediv_nonneg hy0 (by omega)
  have d3 : y / L < K := Int.ediv_lt_of_lt_mul L0 (by omega)
  have w1 : IntKind.u64.wrap (x * K) = x * K := by rw [IntKind.wrap_u64]; omega
  have jo := hjoin (x * K) (y / L) a2 hm (by omega) d2 d3 (by omega)
  have w2 : IntKind.u64.wrap (y * K) = y % L * K := by
    rw [IntKind.wrap_u64]
    have e : y * K = y % L * K + y / L * 18446744073709551616 := by
      rw [← p]; conv => lhs; rw [← d]
      grind
    have b1 : 0 ≤ y % L * K := Int.mul_nonneg d0 (by omega)
    have b2 : y % L * K < L * K := Int.mul_lt_mul_of_pos_right d1 K0
    rw [Int.mul_comm L K, p] at b2
    rw [e, Int.add_mul_emod_self_right]
    omega
  have b1 : 0 ≤ y % L * K := Int.mul_nonneg d0 (by omega)
  have b2 : y % L * K < L * K := Int.mul_lt_mul_of_pos_right d1 K0
  rw [Int.mul_comm L K, p] at b2
  rw [w1, jo, w2]
  refine ⟨by omega, by omega, b1, by omega, ?_⟩
  conv => rhs; rw [← d]
  rw [← p]
  grind

/-- Both digits put together. -/
theorem joined {x y z U V Z n1 n0 d d0 R1 : Int} {k : Nat} (hz : 1 ≤ z) (eZ : z * 2 ^ k = Z) (uv : U * 18446744073709551616 + V = (x * 18446744073709551616 + y) * 2 ^ k) (En : V = n1 * 4294967296 + n0)
    (hd : (U * 4294967296 + n1) / Z = d) (hR : (U * 4294967296 + n1) % Z = R1) (hd0 : (R1 * 4294967296 + n0) / Z = d0) :
    (x * 18446744073709551616 + y) / z = d * 4294967296 + d0 ∧ (x * 18446744073709551616 + y) % z = (R1 * 4294967296 + n0) % Z / 2 ^ k := by
  have K0 : (0 : Int) < 2 ^ k := Int.pow_pos (by decide)
  have Z0 : 0 < Z := by rw [← eZ]; exact Int.mul_pos (by omega) K0
  obtain ⟨s1, s2⟩ := Dv.scaled (x * 18446744073709551616 + y) z (2 ^ k) K0
  obtain ⟨t1, t2⟩ := Dv.div_two (T := U * 4294967296 + n1) (Y := Z) (n0 := n0) Z0
  rw [hd, hR, hd0] at t1
  rw [hR] at t2
  have e : (x * 18446744073709551616 + y) * 2 ^ k = (U * 4294967296 + n1) * 4294967296 + n0 := by rw [← uv, En]; omega
  rw [eZ, e] at s1 s2
  refine ⟨by rw [← s1, t1], ?_⟩
  rw [← t2, s2, Int.mul_ediv_cancel _ (by omega)]

set_option maxHeartbeats 1000000 in
set_option maxRecDepth 100000 in
theorem div64_big (x y z : Int) (hx0 : 1 ≤ x) (hx : x < z) (hy0 : 0 ≤ y) (hy : y ≤ 18446744073709551615) (hz : z ≤ 18446744073709551615) (w : World) :
    Calls Tryz.prog 219 #[.int .u64 x, .int .u64 y, .int .u64 z] w fun e w' => e = .returned (.tuple #[.int .u64 ((x * 18446744073709551616 + y)/z), .int .u64 ((x * 18446744073709551616 + y) % z)]) ∧ w = w' := by
  have hl := fun w => (Tryz.bits_LeadingZeros64 z w (by omega) hz).mono fun e w' (h : _ ∧ w' = w) => (⟨h.1, h.2.symm⟩ : _ ∧ w = w')
  obtain ⟨l0, l1, z1, z2⟩ := shift_facts z (by omega) hz
  obtain ⟨u0, u1, v0, v1, uv⟩ := shifted x y z _ hx0 hx hy0 hy l0 l1 z2
  generalize 64 - (Lib.bitLen z.toNat : Int) = s at *
  obtain ⟨Z, eZ⟩ : ∃ Z, z * 2 ^ s.toNat = Z := ⟨_, rfl⟩
  obtain ⟨U, eU⟩ : ∃ U, bits .or .u64 (IntKind.u64.wrap (x * 2 ^ s.toNat)) (y / 2 ^ (64 - s).toNat) = U := ⟨_, rfl⟩
  obtain ⟨V, eV⟩ : ∃ V, IntKind.u64.wrap (y * 2 ^ s.toNat) = V := ⟨_, rfl⟩
  rw [eZ] at z1 z2 u1
  rw [eU] at u0 u1 uv
  rw [eV] at v0 v1 uv
  have eW : IntKind.u64.wrap (z * 2 ^ s.toNat) = Z := by rw [eZ, IntKind.wrap_u64]; omega
  have aZ : bits .and .u64 Z 4294967295 = Z % 4294967296 := and_low32 Z (by omega) (by omega)
  have aV : bits .and .u64 V 4294967295 = V % 4294967296 := and_low32 V (by omega) (by omega)
  obtain ⟨y1, ey1⟩ : ∃ y1, Z / 4294967296 = y1 := ⟨_, rfl⟩
  obtain ⟨y0, ey0⟩ : ∃ y0, Z % 4294967296 = y0 := ⟨_, rfl⟩
  obtain ⟨n1, en1⟩ : ∃ n1, V / 4294967296 = n1 := ⟨_, rfl⟩
  obtain ⟨n0, en0⟩ : ∃ n0, V % 4294967296 = n0 := ⟨_, rfl⟩
  have Ey : Z = y1 * 4294967296 + y0 := by omega
  have En : V = n1 * 4294967296 + n0 := by omega
  have by1 : 2147483648 ≤ y1 := by omega
  have by1' : y1 < 4294967296 := by omega
  have by0 : 0 ≤ y0 := by omega
  have by0' : y0 < 4294967296 := by omega
  have bn1 : 0 ≤ n1 := by omega
  have bn1' : n1 < 4294967296 := by omega
  have bn0 : 0 ≤ n0 := by omega
  have bn0' : n0 < 4294967296 := by omega
  have HE := hid Ey
  have HN := hid En
  have HZ := hid eZ
  have HU := hid uv
  rw [Ey] at u1
  obtain ⟨i0, i1, i2, i3, i4⟩ := Dv.init by1 by1' by0 by0' u0 u1 bn1 bn1'
  have i5 : 0 ≤ U / y1 * y1 := Int.mul_nonneg i0 (by omega)
  have eqr : IntKind.u64.wrap (U / y1 * y1) = U / y1 * y1 := by rw [IntKind.wrap_u64]; omega
  have HI := hid i4
  have hxz : (x == 0) = false := by simp; omega
  have hzz : (z == 0) = false := by simp; omega
  have hzx : decide (z ≤ x) = false := by simp; omega
  have hy1z : (y1 == 0) = false := by simp; omega
  clear eZ uv Ey En i4
  go_enter Tryz.func219, Tryz.ntmps219
  go_upto_region 15 with (go_at_call 244; refine (hl _).mono ?_; rintro e w' ⟨rfl, rfl⟩)
  go_upto_block 0 with fail
  clear eqr hl
  go_cut [15] from 67 (fun a w' => a = .int .u64 ((U * 4294967296 + n1) / (y1 * 4294967296 + y0)) ∧ w' = w)
  case first =>
    go_wp2_with fail
    go_loop [15, 16] (fun a b => ∃ q r : Int, a = .int .u64 q ∧ b = .int .u64 r ∧ q * y1 + r = U ∧ 0 ≤ q ∧ q ≤ 4294967297 ∧ 0 ≤ r ∧ r < 4294967296 ∧ (U * 4294967296 + n1) / (y1 * 4294967296 + y0) ≤ q) (fun a _ => (intOf a).toNat)
    case atStart => exact ⟨_, _, rfl, rfl, by omega, i0, i1, i2, by omega, HI.out⟩
    case round =>
      obtain ⟨q, r, rfl, rfl, hr, q0, q1, r0, r1, hT⟩ := hrel
      obtain ⟨m0, m1⟩ := Dv.small q0 q1 by0 by0'
      have e1 : IntKind.u64.wrap (q * y0) = q * y0 := by rw [IntKind.wrap_u64]; omega
      have e2 : IntKind.u64.wrap (4294967296 * r) = 4294967296 * r := by rw [IntKind.wrap_u64]; omega
      have HR := hid hr
      have HT := hid hT
      clear hr hT
      have key : (4294967296 ≤ q ∨ 4294967296 * r + n1 < q * y0) → (U * 4294967296 + n1) / (y1 * 4294967296 + y0) ≤ q - 1 := Dv.down HR.out u0 u1 bn1 bn1'
      by_cases t1 : decide (4294967296 ≤ q) = true
      · have k1 := key (.inl (by simpa using t1))
        have q1' : 1 ≤ q := by simp at t1; omega
        by_cases t3 : decide (4294967296 ≤ r + y1) = true
        · have hd := Dv.over (q := q - 1) (r := r + y1) (U := U) (by rw [← HR.out, Int.sub_mul]; omega) by1 by0 by0' bn1 k1 (by omega) (by simpa using t3)
          have HD := hid hd
          clear hd k1 key
          go_wp2_with fail
          go_meet
          case rel => exact ⟨by rw [HD.out], rfl⟩
        · clear key
          have HK := hid k1
          clear k1
          have t3 : decide (4294967296 ≤ r + y1) = false := by simpa using t3
          have b3 : r + y1 < 4294967296 := by simpa using t3
          go_wp2_with fail
          go_round
          case rel => exact ⟨q - 1, r + y1, rfl, rfl, by rw [← HR.out, Int.sub_mul]; omega, by omega, by omega, by omega, b3, HK.out⟩
          case measure => simp [intOf]; omega
      · have t1 : decide (4294967296 ≤ q) = false := by simpa using t1
        have q2 : q < 4294967296 := by simpa using t1
        by_cases t2 : decide (4294967296 * r + n1 < q * y0) = true
        · have k1 := key (.inr (by simpa using t2))
          have q1' : 1 ≤ q := by
            refine Int.not_lt.1 fun hq => ?_
            have : q = 0 := by omega
            subst this; simp at t2; omega
          by_cases t3 : decide (4294967296 ≤ r + y1) = true
          · have hd := Dv.over (q := q - 1) (r := r + y1) (U := U) (by rw [← HR.out, Int.sub_mul]; omega) by1 by0 by0' bn1 k1 (by omega) (by simpa using t3)
            have HD := hid hd
            clear hd k1 key
            go_wp2_with fail
            go_meet
            case rel => exact ⟨by rw [HD.out], rfl⟩
          · clear key
            have HK := hid k1
            clear k1
            have t3 : decide (4294967296 ≤ r + y1) = false := by simpa using t3
            have b3 : r + y1 < 4294967296 := by simpa using t3
            go_wp2_with fail
            go_round
            case rel => exact ⟨q - 1, r + y1, rfl, rfl, by rw [← HR.out, Int.sub_mul]; omega, by omega, by omega, by omega, b3, HK.out⟩
            case measure => simp [intOf]; omega
        · have t2 : decide (4294967296 * r + n1 < q * y0) = false := by simpa using t2
          have hd := Dv.stop HR.out by1 by0 HT.out (by simpa using t2)
          have HD := hid hd
          clear hd key
          go_wp2_with fail
          go_meet
          case rel => exact ⟨by rw [HD.out], rfl⟩
  case rest =>
    obtain ⟨rfl, hw'⟩ := hcut
    subst hw'
    have T0 : 0 ≤ U * 4294967296 + n1 := by omega
    have d0 : 0 ≤ (U * 4294967296 + n1) / (y1 * 4294967296 + y0) := Int.ediv_nonneg T0 (by omega)
    have d1 : (U * 4294967296 + n1) / (y1 * 4294967296 + y0) < 4294967296 := Int.ediv_lt_of_lt_mul (by omega) (by omega)
    obtain ⟨d, ed⟩ : ∃ d, (U * 4294967296 + n1) / (y1 * 4294967296 + y0) = d := ⟨_, rfl⟩
    rw [ed] at d0 d1 ⊢
    have eD := ed
    rw [← HE.out] at eD
    have hrest := Dv.rest (U := U) (n1 := n1) (show 0 < Z by omega) z2 eD
    have R0 : 0 ≤ (U * 4294967296 + n1) % Z := Int.emod_nonneg _ (by omega)
    have R2 : (U * 4294967296 + n1) % Z < Z := Int.emod_lt_of_pos _ (by omega)
    obtain ⟨R1, eR⟩ : ∃ R1, (U * 4294967296 + n1) % Z = R1 := ⟨_, rfl⟩
    rw [eR] at hrest R0 R2
    rw [HE.out] at R2
    have eS : IntKind.u64.wrap (IntKind.u64.wrap (IntKind.u64.wrap (U * 4294967296) + n1) - IntKind.u64.wrap (d * Z)) = R1 := by
      simp only [IntKind.wrap_u64]; exact hrest
    obtain ⟨j0, j1, j2, j3, j4⟩ := Dv.init by1 by1' by0 by0' R0 R2 bn0 bn0'
    have j5 : 0 ≤ R1 / y1 * y1 := Int.mul_nonneg j0 (by omega)
    have eqr : IntKind.u64.wrap (R1 / y1 * y1) = R1 / y1 * y1 := by rw [IntKind.wrap_u64]; omega
    have HJ := hid j4
    have HD1 := hid eD
    have HR1 := hid eR
    clear j4 eD ed eR hrest
    go_upto_block 2 with fail
    clear eqr
    go_cut [18] from 102 (fun a w' => a = .int .u64 ((R1 * 4294967296 + n0) / (y1 * 4294967296 + y0)) ∧ w' = wc)
    case first =>
      go_wp2_with fail
      go_loop [18, 16] (fun a b => ∃ q r : Int, a = .int .u64 q ∧ b = .int .u64 r ∧ q * y1 + r = R1 ∧ 0 ≤ q ∧ q ≤ 4294967297 ∧ 0 ≤ r ∧ r < 4294967296 ∧ (R1 * 4294967296 + n0) / (y1 * 4294967296 + y0) ≤ q) (fun a _ => (intOf a).toNat)
      case atStart => exact ⟨_, _, rfl, rfl, by omega, j0, j1, j2, by omega, HJ.out⟩
      case round =>
        obtain ⟨q, r, rfl, rfl, hr, q0, q1, r0, r1, hT⟩ := hrel
        obtain ⟨m0, m1⟩ := Dv.small q0 q1 by0 by0'
        have e1 : IntKind.u64.wrap (q * y0) = q * y0 := by rw [IntKind.wrap_u64]; omega
        have e2 : IntKind.u64.wrap (4294967296 * r) = 4294967296 * r := by rw [IntKind.wrap_u64]; omega
        have HR := hid hr
        have HT := hid hT
        clear hr hT
        have key : (4294967296 ≤ q ∨ 4294967296 * r + n0 < q * y0) → (R1 * 4294967296 + n0) / (y1 * 4294967296 + y0) ≤ q - 1 := Dv.down HR.out R0 R2 bn0 bn0'
        by_cases t1 : decide (4294967296 ≤ q) = true
        · have k1 := key (.inl (by simpa using t1))
          have q1' : 1 ≤ q := by simp at t1; omega
          by_cases t3 : decide (4294967296 ≤ r + y1) = true
          · have hd := Dv.over (q := q - 1) (r := r + y1) (U := R1) (by rw [← HR.out, Int.sub_mul]; omega) by1 by0 by0' bn0 k1 (by omega) (by simpa using t3)
            have HD := hid hd
            clear hd k1 key
            go_wp2_with fail
            go_meet
            case rel => exact ⟨by rw [HD.out], rfl⟩
          · clear key
            have HK := hid k1
            clear k1
            have t3 : decide (4294967296 ≤ r + y1) = false := by simpa using t3
            have b3 : r + y1 < 4294967296 := by simpa using t3
            go_wp2_with fail
            go_round
            case rel => exact ⟨q - 1, r + y1, rfl, rfl, by rw [← HR.out, Int.sub_mul]; omega, by omega, by omega, by omega, b3, HK.out⟩
            case measure => simp [intOf]; omega
        · have t1 : decide (4294967296 ≤ q) = false := by simpa using t1
          have q2 : q < 4294967296 := by simpa using t1
          by_cases t2 : decide (4294967296 * r + n0 < q * y0) = true
          · have k1 := key (.inr (by simpa using t2))
            have q1' : 1 ≤ q := by
              refine Int.not_lt.1 fun hq => ?_
              have : q = 0 := by omega
              subst this; simp at t2; omega
            by_cases t3 : decide (4294967296 ≤ r + y1) = true
            · have hd := Dv.over (q := q - 1) (r := r + y1) (U := R1) (by rw [← HR.out, Int.sub_mul]; omega) by1 by0 by0' bn0 k1 (by omega) (by simpa using t3)
              have HD := hid hd
              clear hd k1 key
              go_wp2_with fail
              go_meet
              case rel => exact ⟨by rw [HD.out], rfl⟩
            · clear key
              have HK := hid k1
              clear k1
              have t3 : decide (4294967296 ≤ r + y1) = false := by simpa using t3
              have b3 : r + y1 < 4294967296 := by simpa using t3
              go_wp2_with fail
              go_round
              case rel => exact ⟨q - 1, r + y1, rfl, rfl, by rw [← HR.out, Int.sub_mul]; omega, by omega, by omega, by omega, b3, HK.out⟩
              case measure => simp [intOf]; omega
          · have t2 : decide (4294967296 * r + n0 < q * y0) = false := by simpa using t2
            have hd := Dv.stop HR.out by1 by0 HT.out (by simpa using t2)
            have HD := hid hd
            clear hd key
            go_wp2_with fail
            go_meet
            case rel => exact ⟨by rw [HD.out], rfl⟩
    case rest =>
      obtain ⟨rfl, hw'⟩ := hcut
      subst hw'
      have T0' : 0 ≤ R1 * 4294967296 + n0 := by omega
      have f0 : 0 ≤ (R1 * 4294967296 + n0) / (y1 * 4294967296 + y0) := Int.ediv_nonneg T0' (by omega)
      have f1 : (R1 * 4294967296 + n0) / (y1 * 4294967296 + y0) < 4294967296 := Int.ediv_lt_of_lt_mul (by omega) (by omega)
      obtain ⟨f, ef⟩ : ∃ f, (R1 * 4294967296 + n0) / (y1 * 4294967296 + y0) = f := ⟨_, rfl⟩
      rw [ef] at f0 f1 ⊢
      have eF := ef
      rw [← HE.out] at eF
      have hrest := Dv.rest (U := R1) (n1 := n0) (show 0 < Z by omega) z2 eF
      have eG : IntKind.u64.wrap (IntKind.u64.wrap (IntKind.u64.wrap (R1 * 4294967296) + n0) - IntKind.u64.wrap (f * Z)) = (R1 * 4294967296 + n0) % Z := by
        simp only [IntKind.wrap_u64]; exact hrest
      have HF := hid (joined (by omega) HZ.out HU.out HN.out HD1.out HR1.out eF)
      clear ef eF hrest
      go_wp2
      go_ret2
      refine ⟨?_, rfl⟩
      rw [HF.out.1, HF.out.2]
      rfl

theorem div64_zero (y z : Int) (hx : 0 < z) (hy0 : 0 ≤ y) (hy : y ≤ 18446744073709551615) (hz : z ≤ 18446744073709551615) (w : World) :
    Calls Tryz.prog 219 #[.int .u64 0, .int .u64 y, .int .u64 z] w fun e w' => e = .returned (.tuple #[.int .u64 (y / z), .int .u64 (y % z)]) ∧ ∃ n, w' = w.drewN n := by
  have hzz : (z == 0) = false := by simp; omega
  have hzx : decide (z ≤ 0) = false := by simp; omega
  go_enter Tryz.func219, Tryz.ntmps219
  go_wp2
  go_quiet (fail)
  go_wp2
  go_ret2
  exact ⟨rfl, _, rfl⟩

/-- A division of two words by one, where the quotient fits. -/
theorem div64_any (x y z : Int) (hx0 : 0 ≤ x) (hx : x < z) (hy0 : 0 ≤ y) (hy : y ≤ 18446744073709551615) (hz : z ≤ 18446744073709551615) (w : World) :
    Calls Tryz.prog 219 #[.int .u64 x, .int .u64 y, .int .u64 z] w fun e w' => e = .returned (.tuple #[.int .u64 ((x * 18446744073709551616 + y) / z), .int .u64 ((x * 18446744073709551616 + y) % z)]) ∧ Up w w' := by
  by_cases h : 1 ≤ x
  · exact (div64_big x y z h hx hy0 hy hz w).mono fun _ _ ⟨h1, h2⟩ => ⟨h1, h2 ▸ Up.refl w⟩
  · have hx' : x = 0 := by omega
    subst hx'
    refine (div64_zero y z hx hy0 hy hz w).mono fun _ _ ⟨h1, n, h2⟩ => ⟨by rw [h1]; simp, ?_⟩
    subst h2
    exact (Up.refl w).drewN n

end Go.Proofs.YtdlcmpbpdbpanaaGreatDoor
