/- Package word: each function returns what the arithmetic of Arith says, for arguments in range. The number of a digest: doublings, and products. No program in sight. Package digest: the number of a digest. Package draw: the number of the first 8 bytes; a block. -/
import Derived.Test.YtdlcmpbpdbpanaaDoorMB6
import Derived.Test.YtdlcmpbpdbpanaaDoorMB4
namespace Go.Proofs.YtdlcmpbpdbpanaaDoor
open Go.RowKit Go.Sp
set_option maxHeartbeats 400000

theorem i64_and1 (n : Int) : bits .and .i64 n 1 = n % 2 := by
  have h1 : (BitVec.ofInt 64 1).toNat = 2 ^ 1 - 1 := by decide
  have key : (BitVec.ofInt 64 n &&& BitVec.ofInt 64 1).toNat = (n % ((2 ^ 64 : Nat) : Int)).toNat % 2 ^ 1 := by
    rw [BitVec.toNat_and, BitVec.toNat_ofInt, h1, Nat.and_two_pow_sub_one_eq_mod]
  show IntKind.i64.wrap ((BitVec.ofInt 64 n &&& BitVec.ofInt 64 1).toNat : Nat) = n % 2
  rw [key, IntKind.wrap_i64]
  omega

/-- Is a a residue modulo m? -/
def resB (a m : Int) : Bool := decide (0 ≤ a ∧ a < m)

theorem residue_any (a m : Int) (w : World) : Calls Tryd.prog 168 #[.int .i64 a, .int .i64 m] w fun e w' => e = .returned (.bool (resB a m)) ∧ w = w' := by
  go_enter Tryd.func168, Tryd.ntmps168
  go_wp2
  · go_ret
    exact ⟨by simp [resB, *], rfl⟩
  · go_ret
    refine ⟨?_, rfl⟩
    have : ¬ 0 ≤ a := by omega
    simp [resB, this]

theorem check_ok (a b m : Int) (w : World) (h0 : 0 ≤ a) (h1 : a < m) (h2 : 0 ≤ b) (h3 : b < m) (h4 : m < 2305843009213693952) :
    Calls Tryd.prog 144 #[.int .i64 a, .int .i64 b, .int .i64 m] w fun e w' => e = .returned (.int .i64 0) ∧ w = w' := by
  have r1 : resB a m = true := by simp [resB, h0, h1]
  have r2 : resB b m = true := by simp [resB, h2, h3]
  go_enter Tryd.func144, Tryd.ntmps144
  go_wp2_with (go_at_call 168; refine (residue_any _ _ _).mono ?_; rintro e w' ⟨rfl, rfl⟩)
  go_ret
  exact ⟨rfl, rfl⟩

/-- The product of two residues. -/
theorem wmul_any (a b m : Int) (w : World) (h0 : 0 ≤ a) (h1 : a < m) (h2 : 0 ≤ b) (h3 : b < m) (h4 : m < 2305843009213693952) :
    Calls Tryd.prog 145 #[.int .i64 a, .int .i64 b, .int .i64 m] w fun e w' => e = .returned (.int .i64 (a * b % m)) ∧ Up w w' := by
  have p0 : 0 ≤ a * b := Int.mul_nonneg h0 h2
  have p1 : a * b < m * 18446744073709551616 := by
    have : a * b ≤ m * b := Int.mul_le_mul_of_nonneg_right (by omega) h2
    have : m * b ≤ m * 2305843009213693952 := Int.mul_le_mul_of_nonneg_left (by omega) (by omega)
    omega
  have e1 : a * b / 18446744073709551616 * 18446744073709551616 + a * b % 18446744073709551616 = a * b := by omega
  have E1 := hid e1
  have q1 : a * b / 18446744073709551616 < m := by omega
  have q0 : 0 ≤ a * b / 18446744073709551616 := by omega
  have r0 : 0 ≤ a * b % 18446744073709551616 := by omega
  have r1 : a * b % 18446744073709551616 ≤ 18446744073709551615 := by omega
  have s0 : 0 ≤ a * b % m := Int.emod_nonneg _ (by omega)
  have s1 : a * b % m < m := Int.emod_lt_of_pos _ (by omega)
  clear e1 p0 p1
  generalize hX : a * b / 18446744073709551616 = X at *
  generalize hY : a * b % 18446744073709551616 = Y at *
  have HX := hid hX
  have HY := hid hY
  clear hX hY
  go_enter Tryd.func145, Tryd.ntmps145
  go_wp2_with fail
  refine (mul64_any a b h0 (by omega) h2 (by omega) _).mono ?_
  rintro e w' ⟨rfl, rfl⟩
  rw [HX.out, HY.out]
  go_wp2_with fail
  refine (div64_any X Y m q0 q1 r0 r1 (by omega) _).mono ?_
  rintro e w' ⟨rfl, hU⟩
  rw [E1.out]
  go_wp2
  go_ret
  exact ⟨rfl, hU⟩

theorem Mul_ok (a b m : Int) (w : World) (h0 : 0 ≤ a) (h1 : a < m) (h2 : 0 ≤ b) (h3 : b < m) (h4 : m < 2305843009213693952) :
    Calls Tryd.prog 96 #[.int .i64 a, .int .i64 b, .int .i64 m] w fun e w' => e = .returned (.tuple #[.int .i64 (a * b % m), .int .i64 0]) ∧ Up w w' := by
  go_enter Tryd.func96, Tryd.ntmps96
  go_wp2_with fail
  refine (check_ok a b m _ h0 h1 h2 h3 h4).mono ?_
  rintro e w' ⟨rfl, rfl⟩
  go_wp2_with fail
  refine (wmul_any a b m _ h0 h1 h2 h3 h4).mono ?_
  rintro e w' ⟨rfl, hU⟩
  go_wp2
  go_ret2
  exact ⟨rfl, hU⟩

theorem Pow_ok (a e m : Int) (w : World) (h0 : 0 ≤ a) (h1 : a < m) (h2 : 0 ≤ e) (h3 : e ≤ 9223372036854775807) (h4 : m < 2305843009213693952) :
    Calls Tryd.prog 100 #[.int .i64 a, .int .i64 e, .int .i64 m] w fun r w' => r = .returned (.tuple #[.int .i64 (pw a e.toNat m), .int .i64 0]) ∧ Up w w' := by
  have t0 : decide (e < 0) = false := by simp; omega
  have hm0 : (m == 0) = false := by simp; omega
  have m0 : 0 ≤ (1 : Int) % m := Int.emod_nonneg _ (by omega)
  have m1 : (1 : Int) % m < m := Int.emod_lt_of_pos _ (by omega)
  go_enter Tryd.func100, Tryd.ntmps100
  go_wp2_with fail
  refine (check_ok a a m _ h0 h1 h0 h1 h4).mono ?_
  rintro r w' ⟨rfl, rfl⟩
  go_wp2_with fail
  go_loopw [0, 1, 9] (fun va ve vx wr => ∃ (a' : Int) (k : Nat) (x : Int), va = .int .i64 a' ∧ ve = .int .i64 k ∧ vx = .int .i64 x ∧ 0 ≤ a' ∧ a' < m ∧ 0 ≤ x ∧ x < m ∧ k ≤ 9223372036854775807 ∧ x * a' ^ k % m = pw a e.toNat m ∧ Up w wr) (fun _ ve _ _ => (intOf ve).toNat)
  case atStart =>
    refine ⟨a, e.toNat, 1 % m, rfl, by rw [Int.toNat_of_nonneg h2], rfl, h0, h1, m0, m1, by omega, ?_, Up.refl w⟩
    rw [emul (emod_self 1 m) rfl, Int.one_mul]; rfl
  case round =>
    obtain ⟨a', k, x, rfl, rfl, rfl, a0, a1, x0, x1, k1, hI, hU⟩ := hrel
    have HI := hid hI
    clear hI
    have p0 : 0 ≤ a' * a' % m := Int.emod_nonneg _ (by omega)
    have p1 : a' * a' % m < m := Int.emod_lt_of_pos _ (by omega)
    have q0 : 0 ≤ x * a' % m := Int.emod_nonneg _ (by omega)
    have q1 : x * a' % m < m := Int.emod_lt_of_pos _ (by omega)
    by_cases hk : 0 < k
    · have hk2 : decide (0 < k) = true := by simpa using hk
      have hb : bits .and .i64 (k : Int) 1 = ((k % 2 : Nat) : Int) := by rw [i64_and1]; simp
      by_cases ho : k % 2 = 1
      · have ho2 : ((((k % 2 : Nat) : Int)) == 1) = true := by rw [ho]; rfl
        have HO := hid ho
        clear ho
        go_wp2_with fail
        refine (wmul_any x a' m _ x0 x1 a0 a1 h4).mono ?_
        rintro r w1 ⟨rfl, hU1⟩
        go_wp2_with fail
        refine (wmul_any a' a' m _ a0 a1 a0 a1 h4).mono ?_
        rintro r w2 ⟨rfl, hU2⟩
        go_wp2_with fail
        go_roundw
        case rel => exact ⟨_, k / 2, _, rfl, by simp, rfl, p0, p1, q0, q1, by omega, by rw [round_odd _ _ _ _ HO.out, HI.out], (hU.trans hU1).trans hU2⟩
        case measure => simp [intOf]; omega
      · have ho2 : ((((k % 2 : Nat) : Int)) == 1) = false := by
          have : k % 2 = 0 := by omega
          rw [this]; rfl
        have HO := hid (show k % 2 = 0 by omega)
        clear ho
        go_wp2_with fail
        refine (wmul_any a' a' m _ a0 a1 a0 a1 h4).mono ?_
        rintro r w2 ⟨rfl, hU2⟩
        go_wp2_with fail
        go_roundw
        case rel => exact ⟨_, k / 2, _, rfl, by simp, rfl, p0, p1, x0, x1, by omega, by rw [round_even _ _ _ _ HO.out, HI.out], hU.trans hU2⟩
        case measure => simp [intOf]; omega
    · have hk0 : k = 0 := by omega
      subst hk0
      go_wp2
      go_ret2
      refine ⟨?_, hU⟩
      rw [← HI.out]
      simp [Int.emod_eq_of_lt x0 x1]

theorem Reduce_ok (a m : Int) (w : World) (h0 : -9223372036854775808 ≤ a) (h1 : a ≤ 9223372036854775807) (h2 : 1 ≤ m) (h3 : m < 2305843009213693952) :
    Calls Tryd.prog 99 #[.int .i64 a, .int .i64 m] w fun e w' => e = .returned (.tuple #[.int .i64 (a % m), .int .i64 0]) ∧ w = w' := by
  have hm0 : (m == 0) = false := by simp; omega
  have ht := tmod_cases a m h2
  by_cases hs : 0 ≤ a
  · have ht2 : a.tmod m = a % m := Int.tmod_eq_emod_of_nonneg hs
    have b0 := Int.emod_nonneg a (show m ≠ 0 by omega)
    have hlt : decide (a % m < 0) = false := by simp; omega
    clear ht ht2
    go_enter Tryd.func99, Tryd.ntmps99
    go_wp2_with fail
    refine (check_ok 0 0 m _ (by omega) (by omega) (by omega) (by omega) h3).mono ?_
    rintro e w' ⟨rfl, rfl⟩
    go_wp2
    go_ret2
    exact ⟨rfl, rfl⟩
  · rcases ht with ⟨t0, t1, t2⟩ | ⟨t0, t1⟩
    · have T1 := hid t1
      clear t1
      go_enter Tryd.func99, Tryd.ntmps99
      go_wp2_with fail
      refine (check_ok 0 0 m _ (by omega) (by omega) (by omega) (by omega) h3).mono ?_
      rintro e w' ⟨rfl, rfl⟩
      go_wp2
      go_ret2
      exact ⟨by rw [← T1.out]; rfl, rfl⟩
    · have T1 := hid t1
      clear t1
      go_enter Tryd.func99, Tryd.ntmps99
      go_wp2_with fail
      refine (check_ok 0 0 m _ (by omega) (by omega) (by omega) (by omega) h3).mono ?_
      rintro e w' ⟨rfl, rfl⟩
      go_wp2
      go_ret2
      exact ⟨by rw [← T1.out]; rfl, rfl⟩

/-- What euclid returns: a common divisor d of a and m, and an x with a x = d modulo m. -/
def EuOut (a m : Int) (w : World) (e : Ending) (w' : World) : Prop :=
  ∃ d x : Int, e = .returned (.tuple #[.int .i64 d, .int .i64 x]) ∧ 1 ≤ d ∧ 0 ≤ x ∧ x < m ∧ m ∣ a * x - d ∧ d ∣ a ∧ d ∣ m ∧ Up w w'

/-- Is b an inverse of a? -/
def HasInv (a m : Int) : Prop := ∃ b, 0 ≤ b ∧ b < m ∧ a * b % m = 1 % m

theorem Add_ok (a b m : Int) (w : World) (h0 : 0 ≤ a) (h1 : a < m) (h2 : 0 ≤ b) (h3 : b < m) (h4 : m < 2305843009213693952) :
    Calls Tryd.prog 102 #[.int .i64 a, .int .i64 b, .int .i64 m] w fun e w' => e = .returned (.tuple #[.int .i64 ((a + b) % m), .int .i64 0]) ∧ Up w w' := by
  have hm0 : (m == 0) = false := by simp; omega
  go_enter Tryd.func102, Tryd.ntmps102
  go_wp2_with fail
  refine (check_ok a b m _ h0 h1 h2 h3 h4).mono ?_
  rintro e w' ⟨rfl, rfl⟩
  go_wp2
  go_ret2
  exact ⟨rfl, Up.refl _⟩

end Go.Proofs.YtdlcmpbpdbpanaaDoor
namespace Go.Sp

theorem dbl_zero {x m : Int} (h0 : 0 ≤ x) (h1 : x < m) : x * 2 ^ 0 % m = x := by
  rw [show x * 2 ^ 0 = x by simp]
  exact Int.emod_eq_of_lt h0 h1
theorem dbl_step (x m : Int) (j : Nat) : (x * 2 ^ j % m + x * 2 ^ j % m) % m = x * 2 ^ (j + 1) % m := by
  rw [← Int.add_emod, Int.pow_succ, ← Int.mul_assoc]
  congr 1
  omega
theorem num_step (x c m : Int) : (x * 2 ^ 8 % m + c % m) % m = (x * 256 + c) % m := by
  rw [← Int.add_emod]
  rfl
theorem num_ref (x c m : Int) : (x * (256 % m) % m + c) % m = (x * 256 + c) % m := by
  have h : x * (256 % m) % m = x * 256 % m := by rw [Int.mul_emod, Int.emod_emod_of_dvd _ (Int.dvd_refl m), ← Int.mul_emod]
  rw [h, Int.emod_add_emod]
end Go.Sp
namespace Go.Proofs.YtdlcmpbpdbpanaaDoor
open Go.RowKit Go.Sp
set_option maxHeartbeats 2000000
set_option maxRecDepth 20000

theorem Number_ok (h : Nat → Int) (m : Int) (w : World) (hB : Byt h) (m0 : 1 ≤ m) (m1 : m < 2305843009213693952) :
    Calls Tryd.prog 80 #[hashV h, .int .i64 m] w fun e w' => e = .returned (.tuple #[.int .i64 (numH h m), .int .i64 0]) ∧ Up w w' := by
  have hget := fun i (hi : i < 32) => arrK_get (k := .u8) (f := h) hi
  unfold hashV
  generalize arrK .u8 h 32 = cs at *
  have HG := hid hget
  have HB := hid hB
  have HN : Hid (numH h m = numB h m 16) := hid rfl
  clear hget hB
  have d0 : decide (m < 1) = false := by simp; omega
  have d1 : decide (m ≥ 2305843009213693952) = false := by simp; omega
  have dm : (m == 0) = false := by simp; omega
  go_enter Tryd.func80, Tryd.ntmps80
  go_wp2_with fail
  have HB0 := hid (Blk.new (w := w) (t := 23) (cs := cs) rfl rfl)
  have HU0 := hid ((Up.refl w).alloc (.cells cs 23))
  obtain ⟨o, ho⟩ : ∃ o, w.heap.size = o := ⟨_, rfl⟩
  rw [ho] at HB0
  rw [ho]
  clear ho
  go_loopw [6, 17] (fun vx vi wr => ∃ i : Nat, i ≤ 16 ∧ vi = .int .i64 i ∧ vx = .int .i64 (numB h m i) ∧ Hid (Blk wr o 23 cs) ∧ Hid (Up w wr)) (fun _ vi _ => 16 - (intOf vi).toNat)
  case atStart => exact ⟨0, by omega, rfl, rfl, HB0, HU0⟩
  case round =>
    clear HB0 HU0
    obtain ⟨i, hi, rfl, rfl, HBk, HU⟩ := hrel
    by_cases hlt : i < 16
    · have q1 := HBk.out.val (HG.out i (by omega))
      have r3 := HB.out i
      obtain ⟨x0, x1⟩ := numB_range (h := h) (m := m) (by omega) i
      have HS : Hid (numB h m (i + 1) = (numB h m i * 256 + h i) % m) := hid rfl
      generalize numB h m i = x at *
      generalize h i = c at *
      have hc0 := r3.1
      have hc1 := r3.2
      have HX : Hid (0 ≤ x ∧ x < m) := hid ⟨x0, x1⟩
      have di : decide ((i : Int) < 16) = true := by simp; omega
      clear r3
      go_wp2_with fail
      have HX0 : Hid (x = x * 2 ^ 0 % m) := hid (dbl_zero x0 x1).symm
      obtain ⟨wo, rfl⟩ : ∃ wo : World, wo = wr := ⟨_, rfl⟩
      clear x0 x1 q1
      go_loopw [6, 21] (fun vx vj wr => ∃ (j : Nat) (y : Int), j ≤ 8 ∧ vj = .int .i64 j ∧ vx = .int .i64 y ∧ Hid (y = x * 2 ^ j % m) ∧ 0 ≤ y ∧ y < m ∧ Hid (Up wo wr)) (fun _ vj _ => 8 - (intOf vj).toNat)
      case atStart => exact ⟨0, x, by omega, rfl, rfl, HX0, HX.out.1, HX.out.2, hid (Up.refl _)⟩
      case round =>
        obtain ⟨j, y, hj, rfl, rfl, HY, y0, y1, HU2⟩ := hrel
        by_cases hlt2 : j < 8
        · have HA := hid (fun w' => Add_ok y y m w' y0 y1 y0 y1 m1)
          have HY2 : Hid ((y + y) % m = x * 2 ^ (j + 1) % m) := hid (by rw [HY.out]; exact dbl_step x m j)
          have e0 := Int.emod_nonneg (y + y) (show m ≠ 0 by omega)
          have e1 := Int.emod_lt_of_pos (y + y) (show 0 < m by omega)
          go_wp2_with fail
          refine (HA.out _).mono ?_
          rintro e w2 ⟨rfl, hU3⟩
          have HU3 := hid (HU2.out.trans hU3)
          clear hU3 HY HU2 HA
          generalize (y + y) % m = z at *
          go_wp2_with fail
          go_roundw
          case rel => exact ⟨j + 1, z, by omega, by go_num, rfl, HY2, e0, e1, HU3⟩
          case measure => simp [intOf]; omega
        · obtain rfl : j = 8 := by omega
          have e0 := Int.emod_nonneg c (show m ≠ 0 by omega)
          have e1 := Int.emod_lt_of_pos c (show 0 < m by omega)
          have htm : c.tmod m = c % m := Int.tmod_eq_emod_of_nonneg hc0
          have HA := hid (fun w' => Add_ok y (c % m) m w' y0 y1 e0 e1 m1)
          have HZ : Hid ((y + c % m) % m = (x * 256 + c) % m) := hid (by rw [HY.out]; exact num_step x c m)
          go_wp2_with fail
          refine (HA.out _).mono ?_
          rintro e w2 ⟨rfl, hU3⟩
          have HU3 := hid (HU.out.trans (HU2.out.trans hU3))
          have HB3 := hid ((HBk.out.up HU2.out).up hU3)
          clear hU3 HY HU2 HA htm e0 e1
          generalize (y + c % m) % m = z at *
          go_wp2_with fail
          go_roundw
          case rel => exact ⟨i + 1, by omega, by go_num, by rw [HS.out, HZ.out], HB3, HU3⟩
          case measure => simp [intOf]; omega
    · obtain rfl : i = 16 := by omega
      go_wp2
      go_ret2
      exact ⟨by rw [HN.out]; rfl, HU.out⟩
end Go.Proofs.YtdlcmpbpdbpanaaDoor
namespace Go.Proofs.YtdlcmpbpdbpanaaDoor
open Go.RowKit Go.Sp
set_option maxHeartbeats 2000000
set_option maxRecDepth 20000

/-- The number of the first k bytes. -/
def firK (h : Nat → Int) : Nat → Int
  | 0 => 0
  | k + 1 => firK h k * 256 + h k
theorem firK_range {h : Nat → Int} (hB : Byt h) : ∀ k, 0 ≤ firK h k ∧ firK h k < 256 ^ k
  | 0 => by simp [firK]
  | k + 1 => by
    have ih := firK_range hB k
    have hb := hB k
    have e : (256 : Int) ^ (k + 1) = 256 ^ k * 256 := Int.pow_succ _ _
    rw [firK, e]
    omega

theorem or_byte64 (x c : Int) (h0 : 0 ≤ x) (h1 : x < 72057594037927936) (h2 : 0 ≤ c) (h3 : c ≤ 255) : bits .or .u64 (x * 256) c = x * 256 + c := by
  have := bits_join .u64 64 (by decide) (fun n a b => by rw [IntKind.wrap_u64]; omega) 8 (x := x * 256) (y := c) (by omega) (by omega) (by omega) (by omega) (by omega) (by omega)
  exact this

theorem first_any (h : Nat → Int) (w : World) (hB : Byt h) : Calls Tryd.prog 122 #[hashV h] w fun e w' => e = .returned (.int .u64 (firK h 8)) ∧ Up w w' := by
  have hget := fun i (hi : i < 32) => arrK_get (k := .u8) (f := h) hi
  unfold hashV
  generalize arrK .u8 h 32 = cs at *
  have HG := hid hget
  have HB := hid hB
  clear hget hB
  go_enter Tryd.func122, Tryd.ntmps122
  go_wp2_with fail
  have HB0 := hid (Blk.new (w := w) (t := 23) (cs := cs) rfl rfl)
  have HU0 := hid ((Up.refl w).alloc (.cells cs 23))
  obtain ⟨o, ho⟩ : ∃ o, w.heap.size = o := ⟨_, rfl⟩
  rw [ho] at HB0
  rw [ho]
  clear ho
  go_loopw [3, 8] (fun vx vi wr => ∃ i : Nat, i ≤ 8 ∧ vi = .int .i64 i ∧ vx = .int .u64 (firK h i) ∧ Hid (Blk wr o 23 cs) ∧ Hid (Up w wr)) (fun _ vi _ => 8 - (intOf vi).toNat)
  case atStart => exact ⟨0, by omega, rfl, rfl, HB0, HU0⟩
  case round =>
    clear HB0 HU0
    obtain ⟨i, hi, rfl, rfl, HBk, HU⟩ := hrel
    by_cases hlt : i < 8
    · have q1 := HBk.out.val (HG.out i (by omega))
      have r1 := firK_range HB.out i
      have r2 : (256 : Int) ^ i ≤ 72057594037927936 := by
        have : i = 0 ∨ i = 1 ∨ i = 2 ∨ i = 3 ∨ i = 4 ∨ i = 5 ∨ i = 6 ∨ i = 7 := by omega
        rcases this with rfl | rfl | rfl | rfl | rfl | rfl | rfl | rfl <;> decide
      have r3 := HB.out i
      have HS : Hid (firK h (i + 1) = firK h i * 256 + h i) := hid rfl
      have hx1 : firK h i < 72057594037927936 := Int.lt_of_lt_of_le r1.2 r2
      have hx0 := r1.1
      generalize firK h i = x at *
      generalize h i = c at *
      have hc0 := r3.1
      have hc1 := r3.2
      have hor := or_byte64 x c hx0 hx1 hc0 hc1
      clear r1 r2 r3
      go_wp2_with fail
      go_roundw
      case rel => exact ⟨i + 1, by omega, by go_num, by rw [HS.out], HBk, HU⟩
      case measure => simp [intOf]; omega
    · obtain rfl : i = 8 := by omega
      go_wp2
      go_ret
      exact ⟨rfl, HU.out⟩

/-- The cells of a source that draws. -/
def srcA (h : Nat → Int) (c : Int) (f : Bool) : Array Value := (drwA h c).push (.bool f)
theorem srcA_size (h : Nat → Int) (c : Int) (f : Bool) : (srcA h c f).size = 34 := by simp [srcA, drwA_size]
theorem srcA_full (h : Nat → Int) (c : Int) (f : Bool) : (srcA h c f)[33]? = some (.bool f) := by
  rw [srcA, Array.getElem?_push, if_pos (by rw [drwA_size])]
theorem srcA_drw (h : Nat → Int) (c : Int) (f : Bool) {i : Nat} (hi : i < 33) : (srcA h c f)[i]? = (drwA h c)[i]? := by
  rw [srcA, Array.getElem?_push, if_neg (by rw [drwA_size]; omega)]
theorem srcA_ctr (h : Nat → Int) (c : Int) (f : Bool) : (srcA h c f)[32]? = some (.int .i64 c) := by
  rw [srcA_drw _ _ _ (by omega), drwA_ctr]
theorem srcA_setCtr (h : Nat → Int) (c d : Int) (f : Bool) : (srcA h c f).setIfInBounds 32 (.int .i64 d) = srcA h d f := by
  apply Array.ext_getElem?
  intro i
  rw [Array.getElem?_setIfInBounds, srcA_size]
  by_cases h32 : i = 32
  · subst h32; rw [if_pos rfl, if_pos (by omega), srcA_ctr]
  · rw [if_neg (Ne.symm h32)]
    by_cases h33 : i = 33
    · subst h33; rw [srcA_full, srcA_full]
    · by_cases hi : i < 32
      · rw [srcA_drw _ _ _ (by omega), srcA_drw _ _ _ (by omega), drwA_get _ _ hi, drwA_get _ _ hi]
      · rw [Array.getElem?_eq_none (by rw [srcA_size]; omega), Array.getElem?_eq_none (by rw [srcA_size]; omega)]
theorem srcA_setFull (h : Nat → Int) (c : Int) (f g : Bool) : (srcA h c f).setIfInBounds 33 (.bool g) = srcA h c g := by
  apply Array.ext_getElem?
  intro i
  rw [Array.getElem?_setIfInBounds, srcA_size]
  by_cases h33 : i = 33
  · subst h33; rw [if_pos rfl, if_pos (by omega), srcA_full]
  · rw [if_neg (Ne.symm h33)]
    by_cases hi : i < 33
    · rw [srcA_drw _ _ _ hi, srcA_drw _ _ _ hi]
    · rw [Array.getElem?_eq_none (by rw [srcA_size]; omega), Array.getElem?_eq_none (by rw [srcA_size]; omega)]
end Go.Proofs.YtdlcmpbpdbpanaaDoor
