/- Package word: each function returns what the arithmetic of Arith says, for arguments in range. Package prime: Is. The tables that it reads are the program's variables. Package specieref01: the same arithmetic. Package specieref05: Is, below 2^61: the same test. Package group and specieref10: validity and membership. -/
import Derived.Test.YtdbhleinhpiohaaGreatDoorMB1
import Derived.Laws.Rows
namespace Go.Proofs.YtdbhleinhpiohaaGreatDoor
open Go.RowKit Go.Sp
set_option maxHeartbeats 400000

theorem i64_and1 (n : Int) : bits .and .i64 n 1 = n % 2 := by
  have h1 : (BitVec.ofInt 64 1).toNat = 2 ^ 1 - 1 := by decide
  have key : (BitVec.ofInt 64 n &&& BitVec.ofInt 64 1).toNat = (n % ((2 ^ 64 : Nat) : Int)).toNat % 2 ^ 1 := by
    rw [BitVec.toNat_and, BitVec.toNat_ofInt, h1, Nat.and_two_pow_sub_one_eq_mod]
  show IntKind.i64.wrap ((BitVec.ofInt 64 n &&& BitVec.ofInt 64 1).toNat : Nat) = n % 2
  rw [key, IntKind.wrap_i64]
  omega

/-- Is a a residue modulo m? -/
def resB (a m : Int) : Bool := decide (0 ≤ a ∧ a < m)

theorem residue_any (a m : Int) (w : World) : Calls Tryz.prog 95 #[.int .i64 a, .int .i64 m] w fun e w' => e = .returned (.bool (resB a m)) ∧ w = w' := by
  go_enter Tryz.func95, Tryz.ntmps95
  go_wp2
  · go_ret
    exact ⟨by simp [resB, *], rfl⟩
  · go_ret
    refine ⟨?_, rfl⟩
    have : ¬ 0 ≤ a := by omega
    simp [resB, this]

theorem check_ok (a b m : Int) (w : World) (h0 : 0 ≤ a) (h1 : a < m) (h2 : 0 ≤ b) (h3 : b < m) (h4 : m < 2305843009213693952) :
    Calls Tryz.prog 81 #[.int .i64 a, .int .i64 b, .int .i64 m] w fun e w' => e = .returned (.int .i64 0) ∧ w = w' := by
  have r1 : resB a m = true := by simp [resB, h0, h1]
  have r2 : resB b m = true := by simp [resB, h2, h3]
  go_enter Tryz.func81, Tryz.ntmps81
  go_wp2_with (go_at_call 95; refine (residue_any _ _ _).mono ?_; rintro e w' ⟨rfl, rfl⟩)
  go_ret
  exact ⟨rfl, rfl⟩

/-- The product of two residues. -/
theorem wmul_any (a b m : Int) (w : World) (h0 : 0 ≤ a) (h1 : a < m) (h2 : 0 ≤ b) (h3 : b < m) (h4 : m < 2305843009213693952) :
    Calls Tryz.prog 82 #[.int .i64 a, .int .i64 b, .int .i64 m] w fun e w' => e = .returned (.int .i64 (a * b % m)) ∧ Up w w' := by
  have p0 : 0 ≤ a * b := Int.mul_nonneg h0 h2
  have p1 : a * b < m * 18446744073709551616 := by
    have : a * b ≤ m * b := Int.mul_le_mul_of_nonneg_right (by omega) h2
    have : m * b ≤ m * 2305843009213693952 := Int.mul_le_mul_of_nonneg_left (by omega) (by omega)
    omega
  have e1 : a * b / 18446744073709551616 * 18446744073709551616 + a * b % 18446744073709551616 = a * b := by omega
  have E1 := hid e1
  have q1 : a * b / 18446744073709551616 < m := by omega
  have q0 : 0 ≤ a * b / 18446744073709551616 := by omega
  have r0 : 0 ≤ a * b % 18446744073709551616 := by omega
  have r1 : a * b % 18446744073709551616 ≤ 18446744073709551615 := by omega
  have s0 : 0 ≤ a * b % m := Int.emod_nonneg _ (by omega)
  have s1 : a * b % m < m := Int.emod_lt_of_pos _ (by omega)
  clear e1 p0 p1
  generalize hX : a * b / 18446744073709551616 = X at *
  generalize hY : a * b % 18446744073709551616 = Y at *
  have HX := hid hX
  have HY := hid hY
  clear hX hY
  go_enter Tryz.func82, Tryz.ntmps82
  go_wp2_with fail
  refine (mul64_any a b h0 (by omega) h2 (by omega) _).mono ?_
  rintro e w' ⟨rfl, rfl⟩
  rw [HX.out, HY.out]
  go_wp2_with fail
  refine (div64_any X Y m q0 q1 r0 r1 (by omega) _).mono ?_
  rintro e w' ⟨rfl, hU⟩
  rw [E1.out]
  go_wp2
  go_ret
  exact ⟨rfl, hU⟩

theorem Mul_ok (a b m : Int) (w : World) (h0 : 0 ≤ a) (h1 : a < m) (h2 : 0 ≤ b) (h3 : b < m) (h4 : m < 2305843009213693952) :
    Calls Tryz.prog 45 #[.int .i64 a, .int .i64 b, .int .i64 m] w fun e w' => e = .returned (.tuple #[.int .i64 (a * b % m), .int .i64 0]) ∧ Up w w' := by
  go_enter Tryz.func45, Tryz.ntmps45
  go_wp2_with fail
  refine (check_ok a b m _ h0 h1 h2 h3 h4).mono ?_
  rintro e w' ⟨rfl, rfl⟩
  go_wp2_with fail
  refine (wmul_any a b m _ h0 h1 h2 h3 h4).mono ?_
  rintro e w' ⟨rfl, hU⟩
  go_wp2
  go_ret2
  exact ⟨rfl, hU⟩

theorem Pow_ok (a e m : Int) (w : World) (h0 : 0 ≤ a) (h1 : a < m) (h2 : 0 ≤ e) (h3 : e ≤ 9223372036854775807) (h4 : m < 2305843009213693952) :
    Calls Tryz.prog 46 #[.int .i64 a, .int .i64 e, .int .i64 m] w fun r w' => r = .returned (.tuple #[.int .i64 (pw a e.toNat m), .int .i64 0]) ∧ Up w w' := by
  have t0 : decide (e < 0) = false := by simp; omega
  have hm0 : (m == 0) = false := by simp; omega
  have m0 : 0 ≤ (1 : Int) % m := Int.emod_nonneg _ (by omega)
  have m1 : (1 : Int) % m < m := Int.emod_lt_of_pos _ (by omega)
  go_enter Tryz.func46, Tryz.ntmps46
  go_wp2_with fail
  refine (check_ok a a m _ h0 h1 h0 h1 h4).mono ?_
  rintro r w' ⟨rfl, rfl⟩
  go_wp2_with fail
  go_loopw [0, 1, 9] (fun va ve vx wr => ∃ (a' : Int) (k : Nat) (x : Int), va = .int .i64 a' ∧ ve = .int .i64 k ∧ vx = .int .i64 x ∧ 0 ≤ a' ∧ a' < m ∧ 0 ≤ x ∧ x < m ∧ k ≤ 9223372036854775807 ∧ x * a' ^ k % m = pw a e.toNat m ∧ Up w wr) (fun _ ve _ _ => (intOf ve).toNat)
  case atStart =>
    refine ⟨a, e.toNat, 1 % m, rfl, by rw [Int.toNat_of_nonneg h2], rfl, h0, h1, m0, m1, by omega, ?_, Up.refl w⟩
    rw [emul (emod_self 1 m) rfl, Int.one_mul]; rfl
  case round =>
    obtain ⟨a', k, x, rfl, rfl, rfl, a0, a1, x0, x1, k1, hI, hU⟩ := hrel
    have HI := hid hI
    clear hI
    have p0 : 0 ≤ a' * a' % m := Int.emod_nonneg _ (by omega)
    have p1 : a' * a' % m < m := Int.emod_lt_of_pos _ (by omega)
    have q0 : 0 ≤ x * a' % m := Int.emod_nonneg _ (by omega)
    have q1 : x * a' % m < m := Int.emod_lt_of_pos _ (by omega)
    by_cases hk : 0 < k
    · have hk2 : decide (0 < k) = true := by simpa using hk
      have hb : bits .and .i64 (k : Int) 1 = ((k % 2 : Nat) : Int) := by rw [i64_and1]; simp
      by_cases ho : k % 2 = 1
      · have ho2 : ((((k % 2 : Nat) : Int)) == 1) = true := by rw [ho]; rfl
        have HO := hid ho
        clear ho
        go_wp2_with fail
        refine (wmul_any x a' m _ x0 x1 a0 a1 h4).mono ?_
        rintro r w1 ⟨rfl, hU1⟩
        go_wp2_with fail
        refine (wmul_any a' a' m _ a0 a1 a0 a1 h4).mono ?_
        rintro r w2 ⟨rfl, hU2⟩
        go_wp2_with fail
        go_roundw
        case rel => exact ⟨_, k / 2, _, rfl, by simp, rfl, p0, p1, q0, q1, by omega, by rw [round_odd _ _ _ _ HO.out, HI.out], (hU.trans hU1).trans hU2⟩
        case measure => simp [intOf]; omega
      · have ho2 : ((((k % 2 : Nat) : Int)) == 1) = false := by
          have : k % 2 = 0 := by omega
          rw [this]; rfl
        have HO := hid (show k % 2 = 0 by omega)
        clear ho
        go_wp2_with fail
        refine (wmul_any a' a' m _ a0 a1 a0 a1 h4).mono ?_
        rintro r w2 ⟨rfl, hU2⟩
        go_wp2_with fail
        go_roundw
        case rel => exact ⟨_, k / 2, _, rfl, by simp, rfl, p0, p1, x0, x1, by omega, by rw [round_even _ _ _ _ HO.out, HI.out], hU.trans hU2⟩
        case measure => simp [intOf]; omega
    · have hk0 : k = 0 := by omega
      subst hk0
      go_wp2
      go_ret2
      refine ⟨?_, hU⟩
      rw [← HI.out]
      simp [Int.emod_eq_of_lt x0 x1]

theorem Reduce_ok (a m : Int) (w : World) (h0 : -9223372036854775808 ≤ a) (h1 : a ≤ 9223372036854775807) (h2 : 1 ≤ m) (h3 : m < 2305843009213693952) :
    Calls Tryz.prog 47 #[.int .i64 a, .int .i64 m] w fun e w' => e = .returned (.tuple #[.int .i64 (a % m), .int .i64 0]) ∧ w = w' := by
  have hm0 : (m == 0) = false := by simp; omega
  have ht := tmod_cases a m h2
  by_cases hs : 0 ≤ a
  · have ht2 : a.tmod m = a % m := Int.tmod_eq_emod_of_nonneg hs
    have b0 := Int.emod_nonneg a (show m ≠ 0 by omega)
    have hlt : decide (a % m < 0) = false := by simp; omega
    clear ht ht2
    go_enter Tryz.func47, Tryz.ntmps47
    go_wp2_with fail
    refine (check_ok 0 0 m _ (by omega) (by omega) (by omega) (by omega) h3).mono ?_
    rintro e w' ⟨rfl, rfl⟩
    go_wp2
    go_ret2
    exact ⟨rfl, rfl⟩
  · rcases ht with ⟨t0, t1, t2⟩ | ⟨t0, t1⟩
    · have T1 := hid t1
      clear t1
      go_enter Tryz.func47, Tryz.ntmps47
      go_wp2_with fail
      refine (check_ok 0 0 m _ (by omega) (by omega) (by omega) (by omega) h3).mono ?_
      rintro e w' ⟨rfl, rfl⟩
      go_wp2
      go_ret2
      exact ⟨by rw [← T1.out]; rfl, rfl⟩
    · have T1 := hid t1
      clear t1
      go_enter Tryz.func47, Tryz.ntmps47
      go_wp2_with fail
      refine (check_ok 0 0 m _ (by omega) (by omega) (by omega) (by omega) h3).mono ?_
      rintro e w' ⟨rfl, rfl⟩
      go_wp2
      go_ret2
      exact ⟨by rw [← T1.out]; rfl, rfl⟩

/-- What euclid returns: a common divisor d of a and m, and an x with a x = d modulo m. -/
def EuOut (a m : Int) (w : World) (e : Ending) (w' : World) : Prop :=
  ∃ d x : Int, e = .returned (.tuple #[.int .i64 d, .int .i64 x]) ∧ 1 ≤ d ∧ 0 ≤ x ∧ x < m ∧ m ∣ a * x - d ∧ d ∣ a ∧ d ∣ m ∧ Up w w'

theorem euclid_any (a m : Int) (w : World) (h0 : 0 ≤ a) (h1 : a < m) (h4 : m < 2305843009213693952) :
    Calls Tryz.prog 83 #[.int .i64 a, .int .i64 m] w (EuOut a m w) := by
  have hm0 : (m == 0) = false := by simp; omega
  go_enter Tryz.func83, Tryz.ntmps83
  go_wp2_with fail
  go_loop [0, 4, 5, 6] (fun vb vd vx vy => ∃ b d x y : Int, vb = .int .i64 b ∧ vd = .int .i64 d ∧ vx = .int .i64 x ∧ vy = .int .i64 y ∧ Eu a m d b x y) (fun vb _ _ _ => (intOf vb).toNat)
  case atStart => exact ⟨a, m, 0, 1, rfl, rfl, rfl, rfl, Eu.start h0 h1⟩
  case round =>
    obtain ⟨b, d, x, y, rfl, rfl, rfl, rfl, hE⟩ := hrel
    have b0 := hE.b0
    have d1 := hE.d1
    have dm := hE.dm
    have x0 := hE.x0
    have x1 := hE.x1
    obtain ⟨y0, y1⟩ := hE.y_bd
    by_cases hb : 1 ≤ b
    · obtain ⟨q0, q1, q2, q3, q4⟩ := hE.q_bd hb
      obtain ⟨r0, r1, r2, r3⟩ := hE.qy_bd hb
      have HS := hid (hE.step hb)
      clear hE
      have t1 : ((b : Int) != 0) = true := by simp; omega
      have t2 : ((b : Int) == 0) = false := by simp; omega
      obtain ⟨q, hq⟩ : ∃ q, d / b = q := ⟨_, rfl⟩
      have e1 : wrap64 (q * b) = q * b := IntWalk.wrap64_in _ ⟨by rw [← hq]; omega, by rw [← hq]; omega⟩
      have e2 : wrap64 (q * y) = q * y := IntWalk.wrap64_in _ ⟨by rw [← hq]; omega, by rw [← hq]; omega⟩
      rw [hq] at q0 q1 q2 q3 q4 r0 r1 r2 r3 HS
      go_wp2
      go_round
      case rel => exact ⟨_, _, _, _, rfl, rfl, rfl, rfl, HS.out⟩
      case measure => simp [intOf]; omega
    · have hb0 : b = 0 := by omega
      subst hb0
      have HS := hid hE
      clear hE
      by_cases hx : x < 0
      · have t1 : decide (x < 0) = true := by simpa using hx
        go_wp2
        go_quiet (fail)
        go_wp2
        go_ret2
        obtain ⟨f0, f1, f2, f3, f4⟩ := HS.out.done (x + m) ⟨1, by omega⟩
        exact ⟨d, _, rfl, d1, f0, f1, f2, f3, f4, (Up.refl w).drewN _⟩
      · have t1 : decide (x < 0) = false := by simpa using hx
        go_wp2
        go_quiet (fail)
        go_wp2
        go_ret2
        obtain ⟨f0, f1, f2, f3, f4⟩ := HS.out.done x ⟨0, by omega⟩
        exact ⟨d, _, rfl, d1, f0, f1, f2, f3, f4, (Up.refl w).drewN _⟩

/-- The inverse, where there is one. -/
theorem Inverse_ok (a m b : Int) (w : World) (h0 : 0 ≤ a) (h1 : a < m) (h4 : m < 2305843009213693952) (hb0 : 0 ≤ b) (hb1 : b < m) (hb : a * b % m = 1 % m) :
    Calls Tryz.prog 48 #[.int .i64 a, .int .i64 m] w fun e w' => e = .returned (.tuple #[.int .i64 b, .int .i64 0]) ∧ Up w w' := by
  have HB := hid hb
  clear hb
  go_enter Tryz.func48, Tryz.ntmps48
  go_wp2_with fail
  refine (check_ok a a m _ h0 h1 h0 h1 h4).mono ?_
  rintro e w' ⟨rfl, rfl⟩
  go_wp2_with fail
  refine (euclid_any a m _ h0 h1 h4).mono ?_
  rintro e w' ⟨d, x, rfl, d1, x0, x1, hx, da, dm, hU⟩
  have hd : d = 1 := by
    have h : d ∣ a * b % m := by
      rw [Int.emod_def]
      exact Int.dvd_sub (Int.dvd_trans da (Int.dvd_mul_right a b)) (Int.dvd_trans dm (Int.dvd_mul_right m _))
    have h2 : d ∣ 1 := by
      rw [HB.out, Int.emod_def] at h
      have := Int.dvd_add h (Int.dvd_trans dm (Int.dvd_mul_right m (1 / m)))
      rwa [Int.sub_add_cancel] at this
    exact Int.eq_one_of_dvd_one (by omega) h2
  subst hd
  have hxb : x = b := inv_unique hb0 hb1 x0 x1 HB.out (Int.emod_eq_emod_iff_emod_sub_eq_zero.2 (Int.emod_eq_zero_of_dvd hx))
  subst hxb
  clear hx da dm
  go_wp2
  go_ret2
  exact ⟨rfl, hU⟩

/-- Is b an inverse of a? -/
def HasInv (a m : Int) : Prop := ∃ b, 0 ≤ b ∧ b < m ∧ a * b % m = 1 % m

theorem Inverse_zero (a m : Int) (w : World) (h0 : 0 ≤ a) (h1 : a < m) (h4 : m < 2305843009213693952) (hn : ¬ HasInv a m) :
    Calls Tryz.prog 48 #[.int .i64 a, .int .i64 m] w fun e w' => e = .returned (.tuple #[.int .i64 0, .int .i64 10]) ∧ Up w w' := by
  have HB := hid hn
  clear hn
  go_enter Tryz.func48, Tryz.ntmps48
  go_wp2_with fail
  refine (check_ok a a m _ h0 h1 h0 h1 h4).mono ?_
  rintro e w' ⟨rfl, rfl⟩
  go_wp2_with fail
  refine (euclid_any a m _ h0 h1 h4).mono ?_
  rintro e w' ⟨d, x, rfl, d1, x0, x1, hx, da, dm, hU⟩
  have hd : ((d : Int) != 1) = true := by
    rw [bne_iff_ne]
    rintro rfl
    exact HB.out ⟨x, x0, x1, Int.emod_eq_emod_iff_emod_sub_eq_zero.2 (Int.emod_eq_zero_of_dvd hx)⟩
  clear hx da dm
  go_wp2
  go_ret2
  exact ⟨rfl, hU⟩

theorem Add_ok (a b m : Int) (w : World) (h0 : 0 ≤ a) (h1 : a < m) (h2 : 0 ≤ b) (h3 : b < m) (h4 : m < 2305843009213693952) :
    Calls Tryz.prog 50 #[.int .i64 a, .int .i64 b, .int .i64 m] w fun e w' => e = .returned (.tuple #[.int .i64 ((a + b) % m), .int .i64 0]) ∧ Up w w' := by
  have hm0 : (m == 0) = false := by simp; omega
  go_enter Tryz.func50, Tryz.ntmps50
  go_wp2_with fail
  refine (check_ok a b m _ h0 h1 h2 h3 h4).mono ?_
  rintro e w' ⟨rfl, rfl⟩
  go_wp2
  go_ret2
  exact ⟨rfl, Up.refl _⟩

theorem Sub_ok (a b m : Int) (w : World) (h0 : 0 ≤ a) (h1 : a < m) (h2 : 0 ≤ b) (h3 : b < m) (h4 : m < 2305843009213693952) :
    Calls Tryz.prog 49 #[.int .i64 a, .int .i64 b, .int .i64 m] w fun e w' => e = .returned (.tuple #[.int .i64 ((a - b) % m), .int .i64 0]) ∧ Up w w' := by
  have hm0 : (m == 0) = false := by simp; omega
  go_enter Tryz.func49, Tryz.ntmps49
  go_wp2_with fail
  refine (check_ok a b m _ h0 h1 h2 h3 h4).mono ?_
  rintro e w' ⟨rfl, rfl⟩
  go_wp2
  go_ret2
  exact ⟨by rw [← Int.add_emod_right (a - b) m]; rfl, Up.refl _⟩
end Go.Proofs.YtdbhleinhpiohaaGreatDoor
namespace Go.Proofs.YtdbhleinhpiohaaGreatDoor
open Go.RowKit Go.Sp
set_option maxHeartbeats 400000

def basesCells : Array Value := #[.int .u64 2, .int .u64 3, .int .u64 5, .int .u64 7, .int .u64 11, .int .u64 13, .int .u64 17, .int .u64 19, .int .u64 23, .int .u64 29, .int .u64 31, .int .u64 37]

/-- The variables hold what the program's text lays. -/
def Tab (w : World) : Prop :=
  (∃ t fr, w.heap[1]? = some (.cells basesCells t fr)) ∧ ∀ i, i < 64 → w.cell? ⟨5, i, none⟩ = some (.int .u8 (Lib.deBruijn64tab.getD i 0))

theorem Tab.up {w w' : World} (h : Tab w) (hU : Up w w') : Tab w' := by
  obtain ⟨⟨t, fr, h1⟩, h2⟩ := h
  have s1 : 1 < w.heap.size := (Array.getElem?_eq_some_iff.1 h1).1
  have s2 : 5 < w.heap.size := by
    have := h2 0 (by omega)
    unfold World.cell? at this
    split at this
    · rename_i h3; exact (Array.getElem?_eq_some_iff.1 h3).1
    · cases this
  exact ⟨⟨t, fr, by rw [hU.block s1]; exact h1⟩, fun i hi => by rw [hU.cell s2]; exact h2 i hi⟩

theorem tz64_core (x k idx : Nat) (w : World) (hx0 : ((x : Int) == 0) = false)
    (key : IntKind.u64.wrap (bits BinOp.and IntKind.u64 (x : Int) (IntKind.u64.wrap (-(x : Int))) * 285870213051353865) / 288230376151711744 = (idx : Int))
    (hi : idx < 64) (hk : k < 64) (hcell : w.cell? ⟨5, idx, none⟩ = some (.int .u8 k)) :
    Calls Tryz.prog 103 #[.int .u64 x] w fun e w' => e = .returned (.int .i64 k) ∧ w = w' := by
  go_enter Tryz.func103, Tryz.ntmps103
  go_wp2_with (simp only [key])
  go_ret
  exact ⟨rfl, rfl⟩

theorem tz64_key (x a : Nat) (hx : x < 18446744073709551616) (hx0 : x ≠ 0) (hlow : x &&& (18446744073709551616 - x) = a) :
    IntKind.u64.wrap (bits BinOp.and IntKind.u64 (x : Int) (IntKind.u64.wrap (-(x : Int))) * 285870213051353865) / 288230376151711744 = ((a * 285870213051353865 % 18446744073709551616 / 288230376151711744 : Nat) : Int) := by
  have e1 : IntKind.u64.wrap (-(x : Int)) = ((18446744073709551616 - x : Nat) : Int) := by rw [IntKind.wrap_u64]; omega
  rw [e1, bits_and_u64_nat x _ hx (by omega), hlow, IntKind.wrap_u64]
  omega

theorem tz64_any (x : Nat) (hx0 : x ≠ 0) (hx : x < 18446744073709551616) (w : World) (hT : Tab w) :
    Calls Tryz.prog 103 #[.int .u64 x] w fun e w' => e = .returned (.int .i64 (Lib.ctz 64 x)) ∧ w = w' := by
  obtain ⟨hlow, hk⟩ := Lib.lowest_bit 64 x hx0 hx
  obtain ⟨hi, htab⟩ := Lib.deBruijn64_at _ hk
  have hcell := hT.2 _ hi
  rw [htab] at hcell
  exact tz64_core x _ _ w (by simp; omega) (tz64_key x _ hx hx0 hlow) hi hk hcell

/-- The product modulo n. -/
theorem pmul_any (a b n : Int) (w : World) (h0 : 0 ≤ a) (h1 : a < n) (h2 : 0 ≤ b) (h3 : b < n) (h4 : n ≤ 9223372036854775807) :
    Calls Tryz.prog 114 #[.int .u64 a, .int .u64 b, .int .u64 n] w fun e w' => e = .returned (.int .u64 (a * b % n)) ∧ Up w w' := by
  have p0 : 0 ≤ a * b := Int.mul_nonneg h0 h2
  have p1 : a * b < n * 18446744073709551616 := by
    have : a * b ≤ n * b := Int.mul_le_mul_of_nonneg_right (by omega) h2
    have : n * b ≤ n * 9223372036854775807 := Int.mul_le_mul_of_nonneg_left (by omega) (by omega)
    omega
  have e1 : a * b / 18446744073709551616 * 18446744073709551616 + a * b % 18446744073709551616 = a * b := by omega
  have E1 := hid e1
  have q1 : a * b / 18446744073709551616 < n := by omega
  have q0 : 0 ≤ a * b / 18446744073709551616 := by omega
  have r0 : 0 ≤ a * b % 18446744073709551616 := by omega
  have r1 : a * b % 18446744073709551616 ≤ 18446744073709551615 := by omega
  have s0 : 0 ≤ a * b % n := Int.emod_nonneg _ (by omega)
  have s1 : a * b % n < n := Int.emod_lt_of_pos _ (by omega)
  clear e1 p0 p1
  generalize hX : a * b / 18446744073709551616 = X at *
  generalize hY : a * b % 18446744073709551616 = Y at *
  have HX := hid hX
  have HY := hid hY
  clear hX hY
  go_enter Tryz.func114, Tryz.ntmps114
  go_wp2_with fail
  refine (mul64_any a b h0 (by omega) h2 (by omega) _).mono ?_
  rintro e w' ⟨rfl, rfl⟩
  rw [HX.out, HY.out]
  go_wp2_with fail
  refine (div64_any X Y n q0 q1 r0 r1 (by omega) _).mono ?_
  rintro e w' ⟨rfl, hU⟩
  rw [E1.out]
  go_wp2
  go_ret
  exact ⟨rfl, hU⟩

theorem ppow_any (a n : Int) (e : Nat) (w : World) (h0 : 0 ≤ a) (h1 : a < n) (h3 : e ≤ 9223372036854775807) (hn : 2 ≤ n) (h4 : n ≤ 9223372036854775807) :
    Calls Tryz.prog 113 #[.int .u64 a, .int .u64 e, .int .u64 n] w fun r w' => r = .returned (.int .u64 (pw a e n)) ∧ Up w w' := by
  go_enter Tryz.func113, Tryz.ntmps113
  go_wp2_with fail
  go_loopw [0, 1, 7] (fun va ve vx wr => ∃ (a' : Int) (k : Nat) (x : Int), va = .int .u64 a' ∧ ve = .int .u64 k ∧ vx = .int .u64 x ∧ 0 ≤ a' ∧ a' < n ∧ 0 ≤ x ∧ x < n ∧ k ≤ 9223372036854775807 ∧ x * a' ^ k % n = pw a e n ∧ Up w wr) (fun _ ve _ _ => (intOf ve).toNat)
  case atStart => exact ⟨a, e, 1, rfl, rfl, rfl, h0, h1, by omega, by omega, h3, by rw [Int.one_mul]; rfl, Up.refl w⟩
  case round =>
    obtain ⟨a', k, x, rfl, rfl, rfl, a0, a1, x0, x1, k1, hI, hU⟩ := hrel
    have HI := hid hI
    clear hI
    have p0 : 0 ≤ a' * a' % n := Int.emod_nonneg _ (by omega)
    have p1 : a' * a' % n < n := Int.emod_lt_of_pos _ (by omega)
    have q0 : 0 ≤ x * a' % n := Int.emod_nonneg _ (by omega)
    have q1 : x * a' % n < n := Int.emod_lt_of_pos _ (by omega)
    by_cases hk : 0 < k
    · have hk2 : decide (0 < k) = true := by simpa using hk
      have hb : bits .and .u64 (k : Int) 1 = (k : Int) % 2 := and_one_u64 _ (by omega) (by omega)
      by_cases ho : k % 2 = 1
      · have ho2 : ((k : Int) % 2 == 1) = true := by simp; omega
        have HO := hid ho
        clear ho
        go_wp2_with fail
        refine (pmul_any x a' n _ x0 x1 a0 a1 h4).mono ?_
        rintro r w1 ⟨rfl, hU1⟩
        go_wp2_with fail
        refine (pmul_any a' a' n _ a0 a1 a0 a1 h4).mono ?_
        rintro r w2 ⟨rfl, hU2⟩
        go_wp2_with fail
        go_roundw
        case rel => exact ⟨_, k / 2, _, rfl, by simp, rfl, p0, p1, q0, q1, by omega, by rw [round_odd _ _ _ _ HO.out, HI.out], (hU.trans hU1).trans hU2⟩
        case measure => simp [intOf]; omega
      · have ho2 : ((k : Int) % 2 == 1) = false := by simp; omega
        have HO := hid (show k % 2 = 0 by omega)
        clear ho
        go_wp2_with fail
        refine (pmul_any a' a' n _ a0 a1 a0 a1 h4).mono ?_
        rintro r w2 ⟨rfl, hU2⟩
        go_wp2_with fail
        go_roundw
        case rel => exact ⟨_, k / 2, _, rfl, by simp, rfl, p0, p1, x0, x1, by omega, by rw [round_even _ _ _ _ HO.out, HI.out], hU.trans hU2⟩
        case measure => simp [intOf]; omega
    · have hk0 : k = 0 := by omega
      subst hk0
      go_wp2
      go_ret
      refine ⟨?_, hU⟩
      rw [← HI.out]
      simp [Int.emod_eq_of_lt x0 x1]

theorem composite_any (a n : Int) (d s : Nat) (w : World) (h0 : 0 ≤ a) (h1 : a < n) (h3 : d ≤ 9223372036854775807) (hs : s ≤ 64) (hn : 2 ≤ n) (h4 : n ≤ 9223372036854775807) :
    Calls Tryz.prog 104 #[.int .u64 a, .int .u64 n, .int .u64 d, .int .i64 s] w fun r w' => r = .returned (.bool (!strongB n a d s)) ∧ Up w w' := by
  have x0 := pw_nonneg a d (show 0 < n by omega)
  have x1 := pw_lt a d (show 0 < n by omega)
  have HB : Hid (strongB n a d s = (pw a d n == 1 || pw a d n == n - 1 || sqs n (pw a d n) (s - 1))) := hid rfl
  have HP := hid (ppow_any a n d · h0 h1 h3 hn h4)
  generalize pw a d n = x at *
  generalize strongB n a d s = B at *
  by_cases t1 : (x == 1) = true
  · have hB : B = true := by rw [HB.out, t1]; rfl
    subst hB
    go_enter Tryz.func104, Tryz.ntmps104
    go_wp2_with fail
    refine (HP.out _).mono ?_
    rintro r w1 ⟨rfl, hU1⟩
    go_wp2
    go_ret
    exact ⟨rfl, hU1⟩
  · have t1 : (x == 1) = false := by simpa using t1
    by_cases t2 : (x == n - 1) = true
    · have hB : B = true := by rw [HB.out, t2]; simp
      subst hB
      go_enter Tryz.func104, Tryz.ntmps104
      go_wp2_with fail
      refine (HP.out _).mono ?_
      rintro r w1 ⟨rfl, hU1⟩
      go_wp2
      go_ret
      exact ⟨rfl, hU1⟩
    · have t2 : (x == n - 1) = false := by simpa using t2
      have HB2 : Hid (B = sqs n x (s - 1)) := hid (by rw [HB.out, t1, t2]; rfl)
      clear HB
      go_enter Tryz.func104, Tryz.ntmps104
      go_wp2_with fail
      refine (HP.out _).mono ?_
      rintro r w1 ⟨rfl, hU1⟩
      go_wp2_with fail
      go_loopw [9, 24] (fun vx vi wr => ∃ (y : Int) (i : Nat), vx = .int .u64 y ∧ vi = .int .i64 i ∧ i ≤ s - 1 ∧ 0 ≤ y ∧ y < n ∧ B = sqs n y (s - 1 - i) ∧ Up w wr) (fun _ vi _ => s - 1 - (intOf vi).toNat)
      case atStart => exact ⟨x, 0, rfl, rfl, by omega, x0, x1, HB2.out, hU1⟩
      case round =>
        obtain ⟨y, i, rfl, rfl, hi, y0, y1, hI, hU⟩ := hrel
        have HI := hid hI
        clear hI
        have p0 : 0 ≤ y * y % n := Int.emod_nonneg _ (by omega)
        have p1 : y * y % n < n := Int.emod_lt_of_pos _ (by omega)
        by_cases hl : i < s - 1
        · have hl2 : decide ((i : Int) < (s : Int) - 1) = true := by simp; omega
          have hq : s - 1 - i = (s - 1 - (i + 1)) + 1 := by omega
          have HI2 : Hid (B = (y * y % n == n - 1 || sqs n (y * y % n) (s - 1 - (i + 1)))) := hid (by rw [HI.out, hq]; rfl)
          clear HI hq
          go_wp2_with fail
          refine (pmul_any y y n _ y0 y1 y0 y1 h4).mono ?_
          rintro r w2 ⟨rfl, hU2⟩
          by_cases t3 : (y * y % n == n - 1) = true
          · have hB : B = true := by rw [HI2.out, t3]; rfl
            subst hB
            go_wp2
            go_ret
            exact ⟨rfl, hU.trans hU2⟩
          · have t3 : (y * y % n == n - 1) = false := by simpa using t3
            have HI3 : Hid (B = sqs n (y * y % n) (s - 1 - (i + 1))) := hid (by rw [HI2.out, t3]; rfl)
            clear HI2
            go_wp2_with fail
            go_roundw
            case rel => exact ⟨_, i + 1, rfl, by go_num, by omega, p0, p1, HI3.out, hU.trans hU2⟩
            case measure => simp [intOf]; omega
        · have hB : B = false := by rw [HI.out, show s - 1 - i = 0 by omega]; rfl
          have hl2 : decide ((i : Int) < (s : Int) - 1) = false := by simp; omega
          subst hB
          go_wp2
          go_ret
          exact ⟨rfl, hU⟩

theorem bases_at : ∀ (i : Nat) (_ : i < 12) (w : World), (Instr.index 124 (.agg basesCells) (.int .i64 i)).run Tryz.prog w = .ok (.int .u64 (baseList.getD i 0)) w
  | 0, _, _ => by kernel_rfl
  | 1, _, _ => by kernel_rfl
  | 2, _, _ => by kernel_rfl
  | 3, _, _ => by kernel_rfl
  | 4, _, _ => by kernel_rfl
  | 5, _, _ => by kernel_rfl
  | 6, _, _ => by kernel_rfl
  | 7, _, _ => by kernel_rfl
  | 8, _, _ => by kernel_rfl
  | 9, _, _ => by kernel_rfl
  | 10, _, _ => by kernel_rfl
  | 11, _, _ => by kernel_rfl
  | n + 12, h, _ => absurd h (by omega)

theorem base_bd (i : Nat) (hi : i < 12) : 2 ≤ baseList.getD i 0 ∧ baseList.getD i 0 ≤ 37 := by
  have h : i = 0 ∨ i = 1 ∨ i = 2 ∨ i = 3 ∨ i = 4 ∨ i = 5 ∨ i = 6 ∨ i = 7 ∨ i = 8 ∨ i = 9 ∨ i = 10 ∨ i = 11 := by omega
  rcases h with rfl | rfl | rfl | rfl | rfl | rfl | rfl | rfl | rfl | rfl | rfl | rfl <;> decide

theorem base_drop (i : Nat) (hi : i < 12) : baseList.drop i = baseList.getD i 0 :: baseList.drop (i + 1) := by
  rw [List.drop_eq_getElem_cons (by simpa [baseList] using hi)]
  simp [List.getD_eq_getElem?_getD, List.getElem?_eq_getElem (show i < baseList.length by simpa [baseList] using hi)]

theorem Is_small (n : Int) (w : World) (h : n < 2) : Calls Tryz.prog 90 #[.int .i64 n] w fun e w' => e = .returned (.bool (isP n)) ∧ Up w w' := by
  go_enter Tryz.func90, Tryz.ntmps90
  go_wp2
  go_ret
  exact ⟨by simp [isP, h], Up.refl _⟩

set_option maxHeartbeats 1000000 in
theorem Is_big (n : Int) (w : World) (h2 : 2 ≤ n) (h3 : n ≤ 9223372036854775807) (hT : Tab w) : Calls Tryz.prog 90 #[.int .i64 n] w fun e w' => e = .returned (.bool (isP n)) ∧ Up w w' := by
  have HT := hid hT
  obtain ⟨⟨tt, fr, hg⟩, -⟩ := hT
  have t0 : decide (n < 2) = false := by simp; omega
  have HP : Hid (isP n = match trial baseList n with | some b => b | none => baseList.all fun a => strongB n a ((n - 1).toNat / 2 ^ Lib.ctz 64 (n - 1).toNat) (Lib.ctz 64 (n - 1).toNat)) :=
    hid (by rw [isP, if_neg (by omega)]; rfl)
  generalize isP n = B at *
  go_enter Tryz.func90, Tryz.ntmps90
  go_wp2_with (refine wpList_load_row rfl 124 _ rfl 1 rfl tt basesCells fr _ hg Tryz.underlying124 rfl (by kernel_rfl) ?_)
  go_loop [14] (fun vi => ∃ i : Nat, i ≤ 12 ∧ vi = .int .i64 i ∧ trial baseList n = trial (baseList.drop i) n) (fun vi => 12 - (intOf vi).toNat)
  case atStart => exact ⟨0, by omega, rfl, rfl⟩
  case round =>
    obtain ⟨i, hi, rfl, hI⟩ := hrel
    by_cases hl : i < 12
    · have hix := bases_at i hl
      obtain ⟨p0, p1⟩ := base_bd i hl
      have hl2 : decide ((i : Int) < 12) = true := by simp; omega
      have hI2 : trial baseList n = if n % baseList.getD i 0 = 0 then some (n == baseList.getD i 0) else trial (baseList.drop (i + 1)) n := by
        rw [hI, base_drop i hl]; rfl
      have HI2 := hid hI2
      clear hI2 hI
      generalize baseList.getD i 0 = p at *
      have hp0 : (p == 0) = false := by simp; omega
      by_cases t1 : n % p = 0
      · have t1' : (n % p == 0) = true := by simpa using t1
        have HB2 : Hid (B = (n == p)) := hid (by rw [HP.out, HI2.out, if_pos t1])
        clear t1
        go_wp2
        go_ret
        exact ⟨by rw [HB2.out]; rfl, Up.refl _⟩
      · have t1' : (n % p == 0) = false := by simpa using t1
        have HI3 : Hid (trial baseList n = trial (baseList.drop (i + 1)) n) := hid (by rw [HI2.out, if_neg t1])
        clear t1
        go_wp2
        go_round
        case rel => exact ⟨i + 1, by omega, by go_num, HI3.out⟩
        case measure => simp [intOf]; omega
    · have hi12 : i = 12 := by omega
      subst hi12
      have hN : trial baseList n = none := by rw [hI]; rfl
      have hB : B = baseList.all fun a => strongB n a ((n - 1).toNat / 2 ^ Lib.ctz 64 (n - 1).toNat) (Lib.ctz 64 (n - 1).toNat) := by rw [HP.out, hN]
      have h41 : 38 ≤ n := by
        refine Int.not_lt.1 fun hlt => ?_
        have : n = 2 ∨ n = 3 ∨ n = 4 ∨ n = 5 ∨ n = 6 ∨ n = 7 ∨ n = 8 ∨ n = 9 ∨ n = 10 ∨ n = 11 ∨ n = 12 ∨ n = 13 ∨ n = 14 ∨ n = 15 ∨ n = 16 ∨ n = 17 ∨ n = 18 ∨ n = 19 ∨ n = 20 ∨ n = 21 ∨ n = 22 ∨ n = 23 ∨ n = 24 ∨ n = 25 ∨ n = 26 ∨ n = 27 ∨ n = 28 ∨ n = 29 ∨ n = 30 ∨ n = 31 ∨ n = 32 ∨ n = 33 ∨ n = 34 ∨ n = 35 ∨ n = 36 ∨ n = 37 := by omega
        rcases this with h | h | h | h | h | h | h | h | h | h | h | h | h | h | h | h | h | h | h | h | h | h | h | h | h | h | h | h | h | h | h | h | h | h | h | h <;> (rw [h] at hN; exact absurd hN (by decide))
      have hcz : Lib.ctz 64 (n - 1).toNat < 64 := (Lib.lowest_bit 64 (n - 1).toNat (by omega) (by omega)).2
      have htz := tz64_any (n - 1).toNat (by omega) (by omega) w HT.out
      rw [show (((n - 1).toNat : Nat) : Int) = n - 1 by omega] at htz
      have hdv : (n - 1) / 2 ^ Lib.ctz 64 (n - 1).toNat = (((n - 1).toNat / 2 ^ Lib.ctz 64 (n - 1).toNat : Nat) : Int) := by
        rw [Int.natCast_ediv, Int.toNat_of_nonneg (by omega)]; simp
      have hd1 : (n - 1).toNat / 2 ^ Lib.ctz 64 (n - 1).toNat ≤ 9223372036854775807 := Nat.le_trans (Nat.div_le_self _ _) (by omega)
      have HC := hid (fun a w' (h0 : 0 ≤ a) (h1 : a < n) => composite_any a n ((n - 1).toNat / 2 ^ Lib.ctz 64 (n - 1).toNat) (Lib.ctz 64 (n - 1).toNat) w' h0 h1 hd1 (by omega) h2 h3)
      generalize Lib.ctz 64 (n - 1).toNat = s at *
      generalize (n - 1).toNat / 2 ^ s = d at *
      have HB := hid hB
      have HTZ := hid htz
      clear hB hN hI HP htz
      go_wp2_with fail
      refine HTZ.out.mono ?_
      rintro e w' ⟨rfl, rfl⟩
      go_wp2_with (refine wpList_load_row rfl 124 _ rfl 1 rfl tt basesCells fr _ hg Tryz.underlying124 rfl (by kernel_rfl) ?_)
      go_loopw [29] (fun vi wr => ∃ i : Nat, i ≤ 12 ∧ vi = .int .i64 i ∧ B = (baseList.drop i).all (fun a => strongB n a d s) ∧ Up w wr) (fun vi _ => 12 - (intOf vi).toNat)
      case atStart => exact ⟨0, by omega, rfl, HB.out, Up.refl _⟩
      case round =>
        obtain ⟨i, hi, rfl, hI, hU⟩ := hrel
        by_cases hl : i < 12
        · have hix := bases_at i hl
          obtain ⟨p0, p1⟩ := base_bd i hl
          have hl2 : decide ((i : Int) < 12) = true := by simp; omega
          have hI2 : B = (strongB n (baseList.getD i 0) d s && (baseList.drop (i + 1)).all (fun a => strongB n a d s)) := by
            rw [hI, base_drop i hl]; rfl
          have HI2 := hid hI2
          clear hI2 hI
          have HC2 := fun w' => HC.out (baseList.getD i 0) w' (by omega) (by omega)
          generalize baseList.getD i 0 = p at *
          go_wp2_with fail
          refine (HC2 _).mono ?_
          rintro e w2 ⟨rfl, hU2⟩
          have hU3 := hU.trans hU2
          clear HC2 hU hU2
          generalize strongB n p d s = C at *
          cases C
          · have hB2 : B = false := by rw [HI2.out]; rfl
            subst hB2
            go_wp2
            go_ret
            exact ⟨rfl, hU3⟩
          · go_wp2
            go_roundw
            case rel => exact ⟨i + 1, by omega, by go_num, by rw [HI2.out]; rfl, hU3⟩
            case measure => simp [intOf]; omega
        · have hi12 : i = 12 := by omega
          subst hi12
          have hB2 : B = true := by rw [hI]; rfl
          subst hB2
          clear hI
          go_wp2
          go_ret
          exact ⟨rfl, hU⟩

theorem Is_any (n : Int) (w : World) (h3 : n ≤ 9223372036854775807) (hT : Tab w) : Calls Tryz.prog 90 #[.int .i64 n] w fun e w' => e = .returned (.bool (isP n)) ∧ Up w w' := by
  by_cases h : n < 2
  · exact Is_small n w h
  · exact Is_big n w (by omega) h3 hT
end Go.Proofs.YtdbhleinhpiohaaGreatDoor
namespace Go.Proofs.YtdbhleinhpiohaaGreatDoor
open Go.RowKit Go.Sp
set_option maxHeartbeats 400000

theorem rMul_ok (a b m : Int) (w : World) (h0 : 0 ≤ a) (h1 : a < m) (h2 : 0 ≤ b) (h3 : b < m) (h4 : m < 2305843009213693952) :
    Calls Tryz.prog 61 #[.int .i64 a, .int .i64 b, .int .i64 m] w fun e w' => e = .returned (.int .i64 (a * b % m)) ∧ w = w' := by
  have hm0 : (m == 0) = false := by simp; omega
  by_cases hs : a < 2147483648 ∧ b < 2147483648
  · obtain ⟨s1, s2⟩ := hs
    have t1 : decide (a < 2147483648) = true := by simpa using s1
    have t2 : decide (b < 2147483648) = true := by simpa using s2
    have p0 : 0 ≤ a * b := Int.mul_nonneg h0 h2
    have p1 : a * b ≤ 2147483647 * 2147483647 := Int.mul_le_mul (by omega) (by omega) h2 (by omega)
    have e1 : wrap64 (a * b) = a * b := IntWalk.wrap64_in _ ⟨by omega, by omega⟩
    go_enter Tryz.func61, Tryz.ntmps61
    go_wp2
    go_ret
    exact ⟨rfl, rfl⟩
  · have hx : (decide (a < 2147483648) = true ∧ decide (b < 2147483648) = false) ∨ decide (a < 2147483648) = false := by
      simp; omega
    clear hs
    rcases hx with ⟨t1, t2⟩ | t1
    all_goals
      go_enter Tryz.func61, Tryz.ntmps61
      go_wp2_with fail
      clear t1
      try clear t2
      go_loop [0, 1, 7] (fun va vb vo => ∃ a' b' o : Int, va = .int .i64 a' ∧ vb = .int .i64 b' ∧ vo = .int .i64 o ∧ 0 ≤ a' ∧ a' < m ∧ 0 ≤ b' ∧ b' < 2305843009213693952 ∧ 0 ≤ o ∧ o < m ∧ (o + a' * b') % m = a * b % m) (fun _ vb _ => (intOf vb).toNat)
      case atStart => exact ⟨a, b, 0, rfl, rfl, rfl, h0, h1, h2, by omega, by omega, by omega, by simp⟩
      case round =>
        obtain ⟨a', b', o, rfl, rfl, rfl, a0, a1, b0, b1, o0, o1, hI⟩ := hrel
        have HI := hid hI
        clear hI
        have p0 : 0 ≤ (o + a') % m := Int.emod_nonneg _ (by omega)
        have p1 : (o + a') % m < m := Int.emod_lt_of_pos _ (by omega)
        have q0 : 0 ≤ (a' + a') % m := Int.emod_nonneg _ (by omega)
        have q1 : (a' + a') % m < m := Int.emod_lt_of_pos _ (by omega)
        by_cases hb : 0 < b'
        · have t3 : decide (0 < b') = true := by simpa using hb
          by_cases ho : b' % 2 = 1
          · have t4 : (b' % 2 == 1) = true := by simpa using ho
            have HO := hid ho
            clear ho
            go_wp2
            go_round
            case rel => exact ⟨_, _, _, rfl, rfl, rfl, q0, q1, by omega, by omega, p0, p1, by rw [double_odd _ _ _ _ HO.out, HI.out]⟩
            case measure => simp [intOf]; omega
          · have t4 : (b' % 2 == 1) = false := by simpa using ho
            have HO := hid (show b' % 2 = 0 by omega)
            clear ho
            go_wp2
            go_round
            case rel => exact ⟨_, _, _, rfl, rfl, rfl, q0, q1, by omega, by omega, o0, o1, by rw [double_even _ _ _ _ HO.out, HI.out]⟩
            case measure => simp [intOf]; omega
        · have hb0 : b' = 0 := by omega
          subst hb0
          go_wp2
          go_ret
          refine ⟨?_, rfl⟩
          rw [← HI.out]
          simp [Int.emod_eq_of_lt o0 o1]

theorem rPow_ok (a e m : Int) (w : World) (h0 : 0 ≤ a) (h1 : a < m) (h2 : 0 ≤ e) (h3 : e ≤ 9223372036854775807) (h4 : m < 2305843009213693952) :
    Calls Tryz.prog 60 #[.int .i64 a, .int .i64 e, .int .i64 m] w fun r w' => r = .returned (.int .i64 (pw a e.toNat m)) ∧ w = w' := by
  have hm0 : (m == 0) = false := by simp; omega
  have m0 : 0 ≤ (1 : Int) % m := Int.emod_nonneg _ (by omega)
  have m1 : (1 : Int) % m < m := Int.emod_lt_of_pos _ (by omega)
  go_enter Tryz.func60, Tryz.ntmps60
  go_wp2_with fail
  go_loop [0, 1, 7] (fun va ve vx => ∃ (a' : Int) (k : Nat) (x : Int), va = .int .i64 a' ∧ ve = .int .i64 k ∧ vx = .int .i64 x ∧ 0 ≤ a' ∧ a' < m ∧ 0 ≤ x ∧ x < m ∧ k ≤ 9223372036854775807 ∧ x * a' ^ k % m = pw a e.toNat m) (fun _ ve _ => (intOf ve).toNat)
  case atStart =>
    refine ⟨a, e.toNat, 1 % m, rfl, by rw [Int.toNat_of_nonneg h2], rfl, h0, h1, m0, m1, by omega, ?_⟩
    rw [emul (emod_self 1 m) rfl, Int.one_mul]; rfl
  case round =>
    obtain ⟨a', k, x, rfl, rfl, rfl, a0, a1, x0, x1, k1, hI⟩ := hrel
    have HI := hid hI
    clear hI
    have p0 : 0 ≤ a' * a' % m := Int.emod_nonneg _ (by omega)
    have p1 : a' * a' % m < m := Int.emod_lt_of_pos _ (by omega)
    have q0 : 0 ≤ x * a' % m := Int.emod_nonneg _ (by omega)
    have q1 : x * a' % m < m := Int.emod_lt_of_pos _ (by omega)
    by_cases hk : 0 < k
    · have hk2 : decide (0 < k) = true := by simpa using hk
      by_cases ho : k % 2 = 1
      · have ho2 : ((k : Int) % 2 == 1) = true := by simp; omega
        have HO := hid ho
        clear ho
        go_wp2_with fail
        refine (rMul_ok x a' m _ x0 x1 a0 a1 h4).mono ?_
        rintro r w1 ⟨rfl, rfl⟩
        go_wp2_with fail
        refine (rMul_ok a' a' m _ a0 a1 a0 a1 h4).mono ?_
        rintro r w2 ⟨rfl, rfl⟩
        go_wp2_with fail
        go_round
        case rel => exact ⟨_, k / 2, _, rfl, by simp, rfl, p0, p1, q0, q1, by omega, by rw [round_odd _ _ _ _ HO.out, HI.out]⟩
        case measure => simp [intOf]; omega
      · have ho2 : ((k : Int) % 2 == 1) = false := by simp; omega
        have HO := hid (show k % 2 = 0 by omega)
        clear ho
        go_wp2_with fail
        refine (rMul_ok a' a' m _ a0 a1 a0 a1 h4).mono ?_
        rintro r w2 ⟨rfl, rfl⟩
        go_wp2_with fail
        go_round
        case rel => exact ⟨_, k / 2, _, rfl, by simp, rfl, p0, p1, x0, x1, by omega, by rw [round_even _ _ _ _ HO.out, HI.out]⟩
        case measure => simp [intOf]; omega
    · have hk0 : k = 0 := by omega
      subst hk0
      go_wp2
      go_ret
      refine ⟨?_, rfl⟩
      rw [← HI.out]
      simp [Int.emod_eq_of_lt x0 x1]

theorem rReduce_ok (a m : Int) (w : World) (h0 : -9223372036854775808 ≤ a) (h1 : a ≤ 9223372036854775807) (h2 : 1 ≤ m) (h3 : m < 2305843009213693952) :
    Calls Tryz.prog 25 #[.int .i64 a, .int .i64 m] w fun e w' => e = .returned (.int .i64 (a % m)) ∧ w = w' := by
  have hm0 : (m == 0) = false := by simp; omega
  have ht := tmod_cases a m h2
  by_cases hs : 0 ≤ a
  · have ht2 : a.tmod m = a % m := Int.tmod_eq_emod_of_nonneg hs
    have b0 := Int.emod_nonneg a (show m ≠ 0 by omega)
    have hlt : decide (a % m < 0) = false := by simp; omega
    clear ht ht2
    go_enter Tryz.func25, Tryz.ntmps25
    go_wp2
    go_ret
    exact ⟨rfl, rfl⟩
  · rcases ht with ⟨t0, t1, t2⟩ | ⟨t0, t1⟩
    all_goals
      have T1 := hid t1
      clear t1
      go_enter Tryz.func25, Tryz.ntmps25
      go_wp2
      go_ret
      exact ⟨by rw [← T1.out]; rfl, rfl⟩
end Go.Proofs.YtdbhleinhpiohaaGreatDoor
namespace Go.Proofs.YtdbhleinhpiohaaGreatDoor
open Go.RowKit Go.Sp
set_option maxHeartbeats 400000

/-- The second part of the test: squares. -/
theorem rstrong_any (n a : Int) (w : World) (h0 : 0 ≤ a) (h1 : a < n) (hn : 2 ≤ n) (h4 : n < 2305843009213693952) :
    Calls Tryz.prog 111 #[.int .i64 n, .int .i64 a] w fun r w' => r = .returned (.bool (strongB n a ((n - 1).toNat / 2 ^ Lib.ctz 64 (n - 1).toNat) (Lib.ctz 64 (n - 1).toNat))) ∧ w = w' := by
  obtain ⟨N, hN⟩ : ∃ N : Nat, n - 1 = (N : Int) := ⟨(n - 1).toNat, by omega⟩
  have hN1 : 1 ≤ N := by omega
  have hN2 : N < 2305843009213693952 := by omega
  rw [hN, Int.toNat_natCast]
  have HN := hid hN
  have hc0 : Lib.ctz 64 N = Lib.ctzFrom 64 N := by rw [Lib.ctz, if_neg (by omega)]
  obtain ⟨S, hS⟩ : ∃ S, Lib.ctz 64 N = S := ⟨_, rfl⟩
  obtain ⟨D, hD⟩ : ∃ D, N / 2 ^ S = D := ⟨_, rfl⟩
  obtain ⟨B, hB⟩ : ∃ B, strongB n a D S = B := ⟨_, rfl⟩
  rw [hS, hD, hB]
  have HS := hid (hc0.symm.trans hS)
  have HD := hid hD
  have HB : Hid (B = (pw a D n == 1 || pw a D n == n - 1 || sqs n (pw a D n) (S - 1))) := hid (by rw [← hB]; rfl)
  have hS60 : S < 64 := hS ▸ (Lib.lowest_bit 64 N (by omega) (by omega)).2
  have hDN : D ≤ N := hD ▸ Nat.div_le_self _ _
  clear hc0 hS hD hB
  go_enter Tryz.func111, Tryz.ntmps111
  go_upto_block 0 with fail
  clear hN
  go_cut [5, 6] from 9 (fun vd vs w' => vd = .int .i64 D ∧ vs = .int .i64 S ∧ w' = w)
  case first =>
    go_wp2_with fail
    go_loop [5, 6] (fun vd vs => ∃ d s : Nat, vd = .int .i64 d ∧ vs = .int .i64 s ∧ 1 ≤ d ∧ d ≤ N ∧ s < 62 ∧ d = N / 2 ^ s ∧ Lib.ctzFrom 64 N = Lib.ctzFrom (64 - s) d + s) (fun vd _ => (intOf vd).toNat)
    case atStart => exact ⟨N, 0, rfl, rfl, hN1, Nat.le_refl _, by omega, by simp, by simp⟩
    case round =>
      obtain ⟨d, s, rfl, rfl, d1, dN, s1, hd, hc⟩ := hrel
      have Hd := hid hd
      have Hc := hid hc
      clear hd hc
      have hf : 64 - s = (63 - s) + 1 := by omega
      by_cases t1 : d % 2 = 0
      · have t1' : ((d : Int) % 2 == 0) = true := by simp; omega
        have e2 : d / 2 = N / 2 ^ (s + 1) := by rw [Hd.out, Nat.div_div_eq_div_mul, Nat.pow_succ]
        have s2 : s + 1 < 62 := by
          refine Nat.lt_of_not_le fun hle => ?_
          have h62 : (2 : Nat) ^ 62 = 4611686018427387904 := by decide
          have : (2 : Nat) ^ 62 ≤ 2 ^ (s + 1) := Nat.pow_le_pow_right (by decide) hle
          rw [h62] at this
          have : N / 2 ^ (s + 1) = 0 := Nat.div_eq_of_lt (by omega)
          omega
        have Hc2 : Hid (Lib.ctzFrom 64 N = Lib.ctzFrom (64 - (s + 1)) (d / 2) + (s + 1)) := hid (by
          have hx : Lib.ctzFrom (63 - s + 1) d = 1 + Lib.ctzFrom (63 - s) (d / 2) := by rw [Lib.ctzFrom, if_neg (by omega)]
          rw [Hc.out, hf, hx, show 64 - (s + 1) = 63 - s by omega]; omega)
        have dpos : 1 ≤ d / 2 := by omega
        have He := hid e2
        clear e2 hf t1
        go_wp2_with fail
        go_round
        case rel => exact ⟨d / 2, s + 1, by simp, by go_num, by omega, by omega, s2, He.out, Hc2.out⟩
        case measure => simp [intOf]; omega
      · have t1' : ((d : Int) % 2 == 0) = false := by simp; omega
        have Hs : Hid (s = S) := hid (by
          have hx : Lib.ctzFrom (63 - s + 1) d = 0 := by rw [Lib.ctzFrom, if_pos (by omega)]
          have h1 := Hc.out
          rw [hf, hx] at h1
          have := HS.out
          omega)
        have Hdd : Hid (d = D) := hid (by rw [Hd.out, Hs.out, HD.out])
        clear hf t1
        go_wp2_with fail
        go_meet
        case rel => exact ⟨by rw [Hdd.out], by rw [Hs.out], rfl⟩
  case rest =>
    obtain ⟨rfl, rfl, hw'⟩ := hcut
    subst hw'
    have x0 := pw_nonneg a D (show 0 < n by omega)
    have x1 := pw_lt a D (show 0 < n by omega)
    have HP := hid (rPow_ok a D n · h0 h1 (by omega) (by omega) h4)
    rw [Int.toNat_natCast] at HP
    clear HN HD HS
    generalize pw a D n = x at *
    go_wp2_with fail
    refine (HP.out _).mono ?_
    rintro r w1 ⟨rfl, rfl⟩
    by_cases t1 : (x == 1) = true
    · have hB : B = true := by rw [HB.out, t1]; rfl
      subst hB
      go_wp2
      go_ret
      exact ⟨rfl, rfl⟩
    · have t1 : (x == 1) = false := by simpa using t1
      by_cases t2 : (x == n - 1) = true
      · have hB : B = true := by rw [HB.out, t2]; simp
        subst hB
        go_wp2
        go_ret
        exact ⟨rfl, rfl⟩
      · have t2 : (x == n - 1) = false := by simpa using t2
        have HB2 : Hid (B = sqs n x (S - 1)) := hid (by rw [HB.out, t1, t2]; rfl)
        clear HB
        go_wp2_with fail
        go_loop [7, 8] (fun vx vi => ∃ (y : Int) (i : Nat), vx = .int .i64 y ∧ vi = .int .i64 i ∧ 1 ≤ i ∧ i ≤ S + 1 ∧ 0 ≤ y ∧ y < n ∧ B = sqs n y (S - i)) (fun _ vi => S - (intOf vi).toNat)
        case atStart => exact ⟨x, 1, rfl, rfl, by omega, by omega, x0, x1, HB2.out⟩
        case round =>
          obtain ⟨y, i, rfl, rfl, hi1, hi, y0, y1, hI⟩ := hrel
          have HI := hid hI
          clear hI
          have p0 : 0 ≤ y * y % n := Int.emod_nonneg _ (by omega)
          have p1 : y * y % n < n := Int.emod_lt_of_pos _ (by omega)
          by_cases hl : i < S
          · have hl2 : decide ((i : Nat) < S) = true := by simpa using hl
            have hq : S - i = (S - (i + 1)) + 1 := by omega
            have HI2 : Hid (B = (y * y % n == n - 1 || sqs n (y * y % n) (S - (i + 1)))) := hid (by rw [HI.out, hq]; rfl)
            clear HI hq
            go_wp2_with fail
            refine (rMul_ok y y n _ y0 y1 y0 y1 h4).mono ?_
            rintro r w2 ⟨rfl, rfl⟩
            by_cases t3 : (y * y % n == n - 1) = true
            · have hB : B = true := by rw [HI2.out, t3]; rfl
              subst hB
              go_wp2
              go_ret
              exact ⟨rfl, rfl⟩
            · have t3 : (y * y % n == n - 1) = false := by simpa using t3
              have HI3 : Hid (B = sqs n (y * y % n) (S - (i + 1))) := hid (by rw [HI2.out, t3]; rfl)
              clear HI2
              go_wp2_with fail
              go_round
              case rel => exact ⟨_, i + 1, rfl, by go_num, by omega, by omega, p0, p1, HI3.out⟩
              case measure => simp [intOf]; omega
          · have hB : B = false := by rw [HI.out, show S - i = 0 by omega]; rfl
            have hl2 : decide ((i : Nat) < S) = false := by simpa using hl
            subst hB
            go_wp2
            go_ret
            exact ⟨rfl, rfl⟩

theorem rIs_small (n : Int) (w : World) (h : n < 2) : Calls Tryz.prog 98 #[.int .i64 n] w fun e w' => e = .returned (.bool (isP n)) ∧ Up w w' := by
  go_enter Tryz.func98, Tryz.ntmps98
  go_wp2
  go_ret
  exact ⟨by simp [isP, h], Up.refl _⟩

/-- The twelve numbers lie in a block. -/
def Twelve (w : World) (b : Nat) : Prop := ∀ i, i < 12 → w.cell? ⟨b, i, none⟩ = some (.int .i64 (baseList.getD i 0))

set_option maxHeartbeats 1000000 in
theorem rIs_big (n : Int) (w : World) (h2 : 2 ≤ n) (h3 : n < 2305843009213693952) : Calls Tryz.prog 98 #[.int .i64 n] w fun e w' => e = .returned (.bool (isP n)) ∧ Up w w' := by
  have t0 : decide (n < 2) = false := by simp; omega
  have tb : decide (2305843009213693952 ≤ n) = false := by simp; omega
  have HP : Hid (isP n = match trial baseList n with | some b => b | none => baseList.all fun a => strongB n a ((n - 1).toNat / 2 ^ Lib.ctz 64 (n - 1).toNat) (Lib.ctz 64 (n - 1).toNat)) :=
    hid (by rw [isP, if_neg (by omega)]; rfl)
  have HC := hid (fun a w' (h0 : 0 ≤ a) (h1 : a < n) => rstrong_any n a w' h0 h1 h2 h3)
  generalize isP n = B at *
  generalize Lib.ctz 64 (n - 1).toNat = s at *
  generalize (n - 1).toNat / 2 ^ s = d at *
  go_enter Tryz.func98, Tryz.ntmps98
  go_wp2_with fail

  go_loopw [4] (fun vi wr => ∃ i : Nat, i ≤ 12 ∧ vi = .int .i64 i ∧ trial baseList n = trial (baseList.drop i) n ∧ Up w wr ∧ Twelve wr w.heap.size) (fun vi _ => 12 - (intOf vi).toNat)
  case atStart =>
    refine ⟨0, by omega, rfl, rfl, (Up.refl w).alloc _, ?_⟩
    intro i hi
    have h : i = 0 ∨ i = 1 ∨ i = 2 ∨ i = 3 ∨ i = 4 ∨ i = 5 ∨ i = 6 ∨ i = 7 ∨ i = 8 ∨ i = 9 ∨ i = 10 ∨ i = 11 := by omega
    rcases h with rfl | rfl | rfl | rfl | rfl | rfl | rfl | rfl | rfl | rfl | rfl | rfl
    all_goals (go_simp; rfl)
  case round =>
    obtain ⟨i, hi, rfl, hI, hU, hT⟩ := hrel
    have HT := hid hT
    clear hT
    by_cases hl : i < 12
    · have hix := HT.out i hl
      obtain ⟨p0, p1⟩ := base_bd i hl
      have hl2 : decide ((i : Int) < 12) = true := by simp; omega
      have hI2 : trial baseList n = if n % baseList.getD i 0 = 0 then some (n == baseList.getD i 0) else trial (baseList.drop (i + 1)) n := by
        rw [hI, base_drop i hl]; rfl
      have HI2 := hid hI2
      clear hI2 hI
      generalize baseList.getD i 0 = p at *
      have hp0 : (p == 0) = false := by simp; omega
      by_cases t1 : n % p = 0
      · have t1' : (n % p == 0) = true := by simpa using t1
        have HB2 : Hid (B = (n == p)) := hid (by rw [HP.out, HI2.out, if_pos t1])
        clear t1
        go_wp2
        go_ret
        exact ⟨by rw [HB2.out]; rfl, hU⟩
      · have t1' : (n % p == 0) = false := by simpa using t1
        have HI3 : Hid (trial baseList n = trial (baseList.drop (i + 1)) n) := hid (by rw [HI2.out, if_neg t1])
        clear t1
        go_wp2
        go_roundw
        case rel => exact ⟨i + 1, by omega, by go_num, HI3.out, hU, HT.out⟩
        case measure => simp [intOf]; omega
    · have hN : trial baseList n = none := by rw [hI, show i = 12 by omega]; rfl
      have hl2 : decide ((i : Int) < 12) = false := by simp; omega
      have hB : B = baseList.all fun a => strongB n a d s := by rw [HP.out, hN]
      have h41 : 38 ≤ n := by
        refine Int.not_lt.1 fun hlt => ?_
        have : n = 2 ∨ n = 3 ∨ n = 4 ∨ n = 5 ∨ n = 6 ∨ n = 7 ∨ n = 8 ∨ n = 9 ∨ n = 10 ∨ n = 11 ∨ n = 12 ∨ n = 13 ∨ n = 14 ∨ n = 15 ∨ n = 16 ∨ n = 17 ∨ n = 18 ∨ n = 19 ∨ n = 20 ∨ n = 21 ∨ n = 22 ∨ n = 23 ∨ n = 24 ∨ n = 25 ∨ n = 26 ∨ n = 27 ∨ n = 28 ∨ n = 29 ∨ n = 30 ∨ n = 31 ∨ n = 32 ∨ n = 33 ∨ n = 34 ∨ n = 35 ∨ n = 36 ∨ n = 37 := by omega
        rcases this with h | h | h | h | h | h | h | h | h | h | h | h | h | h | h | h | h | h | h | h | h | h | h | h | h | h | h | h | h | h | h | h | h | h | h | h <;> (rw [h] at hN; exact absurd hN (by decide))
      have HB := hid hB
      clear hB hN hI HP
      go_wp2_with fail
      go_loopw [5] (fun vi wr => ∃ i : Nat, i ≤ 12 ∧ vi = .int .i64 i ∧ B = (baseList.drop i).all (fun a => strongB n a d s) ∧ Up w wr ∧ Twelve wr w.heap.size) (fun vi _ => 12 - (intOf vi).toNat)
      case atStart => exact ⟨0, by omega, rfl, HB.out, hU, HT.out⟩
      case round =>
        clear HT hU
        obtain ⟨i, hi, rfl, hI, hU, hT⟩ := hrel
        have HT := hid hT
        clear hT
        by_cases hl : i < 12
        · have hix := HT.out i hl
          obtain ⟨p0, p1⟩ := base_bd i hl
          have hl2 : decide ((i : Int) < 12) = true := by simp; omega
          have hI2 : B = (strongB n (baseList.getD i 0) d s && (baseList.drop (i + 1)).all (fun a => strongB n a d s)) := by
            rw [hI, base_drop i hl]; rfl
          have HI2 := hid hI2
          clear hI2 hI
          have HC2 := fun w' => HC.out (baseList.getD i 0) w' (by omega) (by omega)
          generalize baseList.getD i 0 = p at *
          go_wp2_with fail
          refine (HC2 _).mono ?_
          rintro e w2 ⟨rfl, rfl⟩
          clear HC2
          generalize strongB n p d s = C at *
          cases C
          · have hB2 : B = false := by rw [HI2.out]; rfl
            subst hB2
            go_wp2
            go_ret
            exact ⟨rfl, hU⟩
          · go_wp2
            go_roundw
            case rel => exact ⟨i + 1, by omega, by go_num, by rw [HI2.out]; rfl, hU, HT.out⟩
            case measure => simp [intOf]; omega
        · have hi12 : i = 12 := by omega
          subst hi12
          have hB2 : B = true := by rw [hI]; rfl
          subst hB2
          clear hI
          go_wp2
          go_ret
          exact ⟨rfl, hU⟩

theorem rIs_any (n : Int) (w : World) (h3 : n < 2305843009213693952) : Calls Tryz.prog 98 #[.int .i64 n] w fun e w' => e = .returned (.bool (isP n)) ∧ Up w w' := by
  by_cases h : n < 2
  · exact rIs_small n w h
  · exact rIs_big n w (by omega) h3
end Go.Proofs.YtdbhleinhpiohaaGreatDoor
namespace Go.Proofs.YtdbhleinhpiohaaGreatDoor
open Go.RowKit Go.Sp
set_option maxHeartbeats 400000

/-- A group as a value. -/
abbrev grp (P Q G : Int) : Value := .agg #[.int .i64 P, .int .i64 Q, .int .i64 G]

theorem Valid_any (P Q G : Int) (w : World) (hP : -9223372036854775808 ≤ P) (hQ : Q ≤ 9223372036854775807) (hT : Tab w) :
    Calls Tryz.prog 74 #[grp P Q G] w fun e w' => e = .returned (.bool (gvB P Q G)) ∧ Up w w' := by
  have HT := hid hT
  clear hT
  have HB : Hid (gvB P Q G = (decide (P < 2305843009213693952) && decide (3 ≤ Q) && decide (Q % 2 = 1) && isP P && isP Q && decide ((P - 1) % Q = 0) && decide (2 ≤ G) && decide (G < P) && decide (pw G Q.toNat P = 1))) := hid rfl
  generalize gvB P Q G = B at *
  by_cases c1 : P < 2305843009213693952
  case neg =>
    have hB : B = false := by rw [HB.out]; simp [c1]
    subst hB
    go_enter Tryz.func74, Tryz.ntmps74
    go_wp2
    go_ret
    exact ⟨rfl, (Up.refl w).alloc _⟩
  have d1 : decide (2305843009213693952 ≤ P) = false := by simp; omega
  by_cases c2 : 3 ≤ Q
  case neg =>
    have hB : B = false := by rw [HB.out]; simp [c2]
    subst hB
    go_enter Tryz.func74, Tryz.ntmps74
    go_wp2
    go_ret
    exact ⟨rfl, (Up.refl w).alloc _⟩
  have d2 : decide (Q < 3) = false := by simp; omega
  by_cases c3 : Q % 2 = 1
  case neg =>
    have hB : B = false := by rw [HB.out]; simp [c3]
    subst hB
    have d3 : (Q % 2 == 0) = true := by simp; omega
    clear c3
    go_enter Tryz.func74, Tryz.ntmps74
    go_wp2
    go_ret
    exact ⟨rfl, (Up.refl w).alloc _⟩
  have d3 : (Q % 2 == 0) = false := by simp; omega
  have C3 := hid c3
  clear c3
  go_enter Tryz.func74, Tryz.ntmps74
  go_wp2_with fail
  refine (Is_any P _ (by omega) (HT.out.up ((Up.refl w).alloc _))).mono ?_
  rintro e w1 ⟨rfl, hU1⟩
  obtain ⟨hr1, hf1⟩ := hU1.reads
  have hs1 : w.heap.size < w1.heap.size := by have := hU1.size; simp at this; omega
  have HT1 := hid (HT.out.up (((Up.refl w).alloc _).trans hU1))
  by_cases c4 : isP P = true
  case neg =>
    have hB : B = false := by rw [HB.out]; simp [c4]
    subst hB
    have d4 : isP P = false := by simpa using c4
    clear c4
    go_wp2
    go_ret
    exact ⟨rfl, ((Up.refl w).alloc _).trans hU1⟩
  have p2 := isP_two c4
  go_wp2_with fail
  refine (Is_any Q _ hQ HT1.out).mono ?_
  rintro e w2 ⟨rfl, hU2⟩
  obtain ⟨hr2, hf2⟩ := hU2.reads
  by_cases c5 : isP Q = true
  case neg =>
    have hB : B = false := by rw [HB.out]; simp [c5]
    subst hB
    have d5 : isP Q = false := by simpa using c5
    clear c5
    go_wp2
    go_ret
    exact ⟨rfl, (((Up.refl w).alloc _).trans hU1).trans hU2⟩
  have dq : (Q == 0) = false := by simp; omega
  by_cases c6 : (P - 1) % Q = 0
  case neg =>
    have hB : B = false := by rw [HB.out]; simp [c6]
    subst hB
    have d6 : ((P - 1) % Q != 0) = true := by simp [c6]
    have d6' : ((P - 1) % Q == 0) = false := by simp [c6]
    clear c6
    go_wp2
    go_ret
    exact ⟨rfl, (((Up.refl w).alloc _).trans hU1).trans hU2⟩
  have d6 : ((P - 1) % Q != 0) = false := by simp [c6]
  have d6' : ((P - 1) % Q == 0) = true := by simp [c6]
  have C6 := hid c6
  clear c6
  by_cases c7 : 2 ≤ G
  case neg =>
    have hB : B = false := by rw [HB.out]; simp [c7]
    subst hB
    have d7 : decide (G < 2) = true := by simp; omega
    go_wp2
    go_ret
    exact ⟨rfl, (((Up.refl w).alloc _).trans hU1).trans hU2⟩
  have d7 : decide (G < 2) = false := by simp; omega
  by_cases c8 : G < P
  case neg =>
    have hB : B = false := by rw [HB.out]; simp [c8]
    subst hB
    have d8 : decide (P ≤ G) = true := by simp; omega
    go_wp2
    go_ret
    exact ⟨rfl, (((Up.refl w).alloc _).trans hU1).trans hU2⟩
  have d8 : decide (P ≤ G) = false := by simp; omega
  go_wp2_with fail
  refine (Pow_ok G Q P _ (by omega) c8 (by omega) hQ c1).mono ?_
  rintro e w3 ⟨rfl, hU3⟩
  have hB : B = decide (pw G Q.toNat P = 1) := by rw [HB.out]; simp [c1, c2, C3.out, c4, c5, C6.out, c7, c8]
  have HB2 := hid hB
  clear hB
  by_cases c9 : pw G Q.toNat P = 1
  · have d9 : (pw G Q.toNat P == 1) = true := by simp [c9]
    have hB : B = true := by rw [HB2.out]; simp [c9]
    subst hB
    clear c9
    go_wp2
    go_ret
    exact ⟨rfl, ((((Up.refl w).alloc _).trans hU1).trans hU2).trans hU3⟩
  · have d9 : (pw G Q.toNat P == 1) = false := by simp [c9]
    have hB : B = false := by rw [HB2.out]; simp [c9]
    subst hB
    clear c9
    go_wp2
    go_ret
    exact ⟨rfl, ((((Up.refl w).alloc _).trans hU1).trans hU2).trans hU3⟩
end Go.Proofs.YtdbhleinhpiohaaGreatDoor
