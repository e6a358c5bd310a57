/- Package specieref01: the same arithmetic. Package specieref05: Is, below 2^61: the same test. Package group and specieref10: validity and membership. Packages group and specieref10: membership, products, inverses, powers. -/
import Derived.Test.YtdlcmpbpdbpanaaDoorMB7
import Derived.Test.YtdlcmpbpdbpanaaDoorMB8
namespace Go.Proofs.YtdlcmpbpdbpanaaDoor
open Go.RowKit Go.Sp
set_option maxHeartbeats 400000

theorem rMul_ok (a b m : Int) (w : World) (h0 : 0 ≤ a) (h1 : a < m) (h2 : 0 ≤ b) (h3 : b < m) (h4 : m < 2305843009213693952) :
    Calls Tryd.prog 133 #[.int .i64 a, .int .i64 b, .int .i64 m] w fun e w' => e = .returned (.int .i64 (a * b % m)) ∧ w = w' := by
  have hm0 : (m == 0) = false := by simp; omega
  by_cases hs : a < 2147483648 ∧ b < 2147483648
  · obtain ⟨s1, s2⟩ := hs
    have t1 : decide (a < 2147483648) = true := by simpa using s1
    have t2 : decide (b < 2147483648) = true := by simpa using s2
    have p0 : 0 ≤ a * b := Int.mul_nonneg h0 h2
    have p1 : a * b ≤ 2147483647 * 2147483647 := Int.mul_le_mul (by omega) (by omega) h2 (by omega)
    have e1 : wrap64 (a * b) = a * b := IntWalk.wrap64_in _ ⟨by omega, by omega⟩
    go_enter Tryd.func133, Tryd.ntmps133
    go_wp2
    go_ret
    exact ⟨rfl, rfl⟩
  · have hx : (decide (a < 2147483648) = true ∧ decide (b < 2147483648) = false) ∨ decide (a < 2147483648) = false := by
      simp; omega
    clear hs
    rcases hx with ⟨t1, t2⟩ | t1
    all_goals
      go_enter Tryd.func133, Tryd.ntmps133
      go_wp2_with fail
      clear t1
      try clear t2
      go_loop [0, 1, 7] (fun va vb vo => ∃ a' b' o : Int, va = .int .i64 a' ∧ vb = .int .i64 b' ∧ vo = .int .i64 o ∧ 0 ≤ a' ∧ a' < m ∧ 0 ≤ b' ∧ b' < 2305843009213693952 ∧ 0 ≤ o ∧ o < m ∧ (o + a' * b') % m = a * b % m) (fun _ vb _ => (intOf vb).toNat)
      case atStart => exact ⟨a, b, 0, rfl, rfl, rfl, h0, h1, h2, by omega, by omega, by omega, by simp⟩
      case round =>
        obtain ⟨a', b', o, rfl, rfl, rfl, a0, a1, b0, b1, o0, o1, hI⟩ := hrel
        have HI := hid hI
        clear hI
        have p0 : 0 ≤ (o + a') % m := Int.emod_nonneg _ (by omega)
        have p1 : (o + a') % m < m := Int.emod_lt_of_pos _ (by omega)
        have q0 : 0 ≤ (a' + a') % m := Int.emod_nonneg _ (by omega)
        have q1 : (a' + a') % m < m := Int.emod_lt_of_pos _ (by omega)
        by_cases hb : 0 < b'
        · have t3 : decide (0 < b') = true := by simpa using hb
          by_cases ho : b' % 2 = 1
          · have t4 : (b' % 2 == 1) = true := by simpa using ho
            have HO := hid ho
            clear ho
            go_wp2
            go_round
            case rel => exact ⟨_, _, _, rfl, rfl, rfl, q0, q1, by omega, by omega, p0, p1, by rw [double_odd _ _ _ _ HO.out, HI.out]⟩
            case measure => simp [intOf]; omega
          · have t4 : (b' % 2 == 1) = false := by simpa using ho
            have HO := hid (show b' % 2 = 0 by omega)
            clear ho
            go_wp2
            go_round
            case rel => exact ⟨_, _, _, rfl, rfl, rfl, q0, q1, by omega, by omega, o0, o1, by rw [double_even _ _ _ _ HO.out, HI.out]⟩
            case measure => simp [intOf]; omega
        · have hb0 : b' = 0 := by omega
          subst hb0
          go_wp2
          go_ret
          refine ⟨?_, rfl⟩
          rw [← HI.out]
          simp [Int.emod_eq_of_lt o0 o1]

theorem rPow_ok (a e m : Int) (w : World) (h0 : 0 ≤ a) (h1 : a < m) (h2 : 0 ≤ e) (h3 : e ≤ 9223372036854775807) (h4 : m < 2305843009213693952) :
    Calls Tryd.prog 81 #[.int .i64 a, .int .i64 e, .int .i64 m] w fun r w' => r = .returned (.int .i64 (pw a e.toNat m)) ∧ w = w' := by
  have hm0 : (m == 0) = false := by simp; omega
  have m0 : 0 ≤ (1 : Int) % m := Int.emod_nonneg _ (by omega)
  have m1 : (1 : Int) % m < m := Int.emod_lt_of_pos _ (by omega)
  go_enter Tryd.func81, Tryd.ntmps81
  go_wp2_with fail
  go_loop [0, 1, 7] (fun va ve vx => ∃ (a' : Int) (k : Nat) (x : Int), va = .int .i64 a' ∧ ve = .int .i64 k ∧ vx = .int .i64 x ∧ 0 ≤ a' ∧ a' < m ∧ 0 ≤ x ∧ x < m ∧ k ≤ 9223372036854775807 ∧ x * a' ^ k % m = pw a e.toNat m) (fun _ ve _ => (intOf ve).toNat)
  case atStart =>
    refine ⟨a, e.toNat, 1 % m, rfl, by rw [Int.toNat_of_nonneg h2], rfl, h0, h1, m0, m1, by omega, ?_⟩
    rw [emul (emod_self 1 m) rfl, Int.one_mul]; rfl
  case round =>
    obtain ⟨a', k, x, rfl, rfl, rfl, a0, a1, x0, x1, k1, hI⟩ := hrel
    have HI := hid hI
    clear hI
    have p0 : 0 ≤ a' * a' % m := Int.emod_nonneg _ (by omega)
    have p1 : a' * a' % m < m := Int.emod_lt_of_pos _ (by omega)
    have q0 : 0 ≤ x * a' % m := Int.emod_nonneg _ (by omega)
    have q1 : x * a' % m < m := Int.emod_lt_of_pos _ (by omega)
    by_cases hk : 0 < k
    · have hk2 : decide (0 < k) = true := by simpa using hk
      by_cases ho : k % 2 = 1
      · have ho2 : ((k : Int) % 2 == 1) = true := by simp; omega
        have HO := hid ho
        clear ho
        go_wp2_with fail
        refine (rMul_ok x a' m _ x0 x1 a0 a1 h4).mono ?_
        rintro r w1 ⟨rfl, rfl⟩
        go_wp2_with fail
        refine (rMul_ok a' a' m _ a0 a1 a0 a1 h4).mono ?_
        rintro r w2 ⟨rfl, rfl⟩
        go_wp2_with fail
        go_round
        case rel => exact ⟨_, k / 2, _, rfl, by simp, rfl, p0, p1, q0, q1, by omega, by rw [round_odd _ _ _ _ HO.out, HI.out]⟩
        case measure => simp [intOf]; omega
      · have ho2 : ((k : Int) % 2 == 1) = false := by simp; omega
        have HO := hid (show k % 2 = 0 by omega)
        clear ho
        go_wp2_with fail
        refine (rMul_ok a' a' m _ a0 a1 a0 a1 h4).mono ?_
        rintro r w2 ⟨rfl, rfl⟩
        go_wp2_with fail
        go_round
        case rel => exact ⟨_, k / 2, _, rfl, by simp, rfl, p0, p1, x0, x1, by omega, by rw [round_even _ _ _ _ HO.out, HI.out]⟩
        case measure => simp [intOf]; omega
    · have hk0 : k = 0 := by omega
      subst hk0
      go_wp2
      go_ret
      refine ⟨?_, rfl⟩
      rw [← HI.out]
      simp [Int.emod_eq_of_lt x0 x1]

theorem rReduce_ok (a m : Int) (w : World) (h0 : -9223372036854775808 ≤ a) (h1 : a ≤ 9223372036854775807) (h2 : 1 ≤ m) (h3 : m < 2305843009213693952) :
    Calls Tryd.prog 134 #[.int .i64 a, .int .i64 m] w fun e w' => e = .returned (.int .i64 (a % m)) ∧ w = w' := by
  have hm0 : (m == 0) = false := by simp; omega
  have ht := tmod_cases a m h2
  by_cases hs : 0 ≤ a
  · have ht2 : a.tmod m = a % m := Int.tmod_eq_emod_of_nonneg hs
    have b0 := Int.emod_nonneg a (show m ≠ 0 by omega)
    have hlt : decide (a % m < 0) = false := by simp; omega
    clear ht ht2
    go_enter Tryd.func134, Tryd.ntmps134
    go_wp2
    go_ret
    exact ⟨rfl, rfl⟩
  · rcases ht with ⟨t0, t1, t2⟩ | ⟨t0, t1⟩
    all_goals
      have T1 := hid t1
      clear t1
      go_enter Tryd.func134, Tryd.ntmps134
      go_wp2
      go_ret
      exact ⟨by rw [← T1.out]; rfl, rfl⟩
end Go.Proofs.YtdlcmpbpdbpanaaDoor
namespace Go.Proofs.YtdlcmpbpdbpanaaDoor
open Go.RowKit Go.Sp
set_option maxHeartbeats 400000

/-- The second part of the test: squares. -/
theorem rstrong_any (n a : Int) (w : World) (h0 : 0 ≤ a) (h1 : a < n) (hn : 2 ≤ n) (h4 : n < 2305843009213693952) :
    Calls Tryd.prog 143 #[.int .i64 n, .int .i64 a] w fun r w' => r = .returned (.bool (strongB n a ((n - 1).toNat / 2 ^ Lib.ctz 64 (n - 1).toNat) (Lib.ctz 64 (n - 1).toNat))) ∧ w = w' := by
  obtain ⟨N, hN⟩ : ∃ N : Nat, n - 1 = (N : Int) := ⟨(n - 1).toNat, by omega⟩
  have hN1 : 1 ≤ N := by omega
  have hN2 : N < 2305843009213693952 := by omega
  rw [hN, Int.toNat_natCast]
  have HN := hid hN
  have hc0 : Lib.ctz 64 N = Lib.ctzFrom 64 N := by rw [Lib.ctz, if_neg (by omega)]
  obtain ⟨S, hS⟩ : ∃ S, Lib.ctz 64 N = S := ⟨_, rfl⟩
  obtain ⟨D, hD⟩ : ∃ D, N / 2 ^ S = D := ⟨_, rfl⟩
  obtain ⟨B, hB⟩ : ∃ B, strongB n a D S = B := ⟨_, rfl⟩
  rw [hS, hD, hB]
  have HS := hid (hc0.symm.trans hS)
  have HD := hid hD
  have HB : Hid (B = (pw a D n == 1 || pw a D n == n - 1 || sqs n (pw a D n) (S - 1))) := hid (by rw [← hB]; rfl)
  have hS60 : S < 64 := hS ▸ (Lib.lowest_bit 64 N (by omega) (by omega)).2
  have hDN : D ≤ N := hD ▸ Nat.div_le_self _ _
  clear hc0 hS hD hB
  go_enter Tryd.func143, Tryd.ntmps143
  go_upto_block 0 with fail
  clear hN
  go_cut [5, 6] from 9 (fun vd vs w' => vd = .int .i64 D ∧ vs = .int .i64 S ∧ w' = w)
  case first =>
    go_wp2_with fail
    go_loop [5, 6] (fun vd vs => ∃ d s : Nat, vd = .int .i64 d ∧ vs = .int .i64 s ∧ 1 ≤ d ∧ d ≤ N ∧ s < 62 ∧ d = N / 2 ^ s ∧ Lib.ctzFrom 64 N = Lib.ctzFrom (64 - s) d + s) (fun vd _ => (intOf vd).toNat)
    case atStart => exact ⟨N, 0, rfl, rfl, hN1, Nat.le_refl _, by omega, by simp, by simp⟩
    case round =>
      obtain ⟨d, s, rfl, rfl, d1, dN, s1, hd, hc⟩ := hrel
      have Hd := hid hd
      have Hc := hid hc
      clear hd hc
      have hf : 64 - s = (63 - s) + 1 := by omega
      by_cases t1 : d % 2 = 0
      · have t1' : ((d : Int) % 2 == 0) = true := by simp; omega
        have e2 : d / 2 = N / 2 ^ (s + 1) := by rw [Hd.out, Nat.div_div_eq_div_mul, Nat.pow_succ]
        have s2 : s + 1 < 62 := by
          refine Nat.lt_of_not_le fun hle => ?_
          have h62 : (2 : Nat) ^ 62 = 4611686018427387904 := by decide
          have : (2 : Nat) ^ 62 ≤ 2 ^ (s + 1) := Nat.pow_le_pow_right (by decide) hle
          rw [h62] at this
          have : N / 2 ^ (s + 1) = 0 := Nat.div_eq_of_lt (by omega)
          omega
        have Hc2 : Hid (Lib.ctzFrom 64 N = Lib.ctzFrom (64 - (s + 1)) (d / 2) + (s + 1)) := hid (by
          have hx : Lib.ctzFrom (63 - s + 1) d = 1 + Lib.ctzFrom (63 - s) (d / 2) := by rw [Lib.ctzFrom, if_neg (by omega)]
          rw [Hc.out, hf, hx, show 64 - (s + 1) = 63 - s by omega]; omega)
        have dpos : 1 ≤ d / 2 := by omega
        have He := hid e2
        clear e2 hf t1
        go_wp2_with fail
        go_round
        case rel => exact ⟨d / 2, s + 1, by simp, by go_num, by omega, by omega, s2, He.out, Hc2.out⟩
        case measure => simp [intOf]; omega
      · have t1' : ((d : Int) % 2 == 0) = false := by simp; omega
        have Hs : Hid (s = S) := hid (by
          have hx : Lib.ctzFrom (63 - s + 1) d = 0 := by rw [Lib.ctzFrom, if_pos (by omega)]
          have h1 := Hc.out
          rw [hf, hx] at h1
          have := HS.out
          omega)
        have Hdd : Hid (d = D) := hid (by rw [Hd.out, Hs.out, HD.out])
        clear hf t1
        go_wp2_with fail
        go_meet
        case rel => exact ⟨by rw [Hdd.out], by rw [Hs.out], rfl⟩
  case rest =>
    obtain ⟨rfl, rfl, hw'⟩ := hcut
    subst hw'
    have x0 := pw_nonneg a D (show 0 < n by omega)
    have x1 := pw_lt a D (show 0 < n by omega)
    have HP := hid (rPow_ok a D n · h0 h1 (by omega) (by omega) h4)
    rw [Int.toNat_natCast] at HP
    clear HN HD HS
    generalize pw a D n = x at *
    go_wp2_with fail
    refine (HP.out _).mono ?_
    rintro r w1 ⟨rfl, rfl⟩
    by_cases t1 : (x == 1) = true
    · have hB : B = true := by rw [HB.out, t1]; rfl
      subst hB
      go_wp2
      go_ret
      exact ⟨rfl, rfl⟩
    · have t1 : (x == 1) = false := by simpa using t1
      by_cases t2 : (x == n - 1) = true
      · have hB : B = true := by rw [HB.out, t2]; simp
        subst hB
        go_wp2
        go_ret
        exact ⟨rfl, rfl⟩
      · have t2 : (x == n - 1) = false := by simpa using t2
        have HB2 : Hid (B = sqs n x (S - 1)) := hid (by rw [HB.out, t1, t2]; rfl)
        clear HB
        go_wp2_with fail
        go_loop [7, 8] (fun vx vi => ∃ (y : Int) (i : Nat), vx = .int .i64 y ∧ vi = .int .i64 i ∧ 1 ≤ i ∧ i ≤ S + 1 ∧ 0 ≤ y ∧ y < n ∧ B = sqs n y (S - i)) (fun _ vi => S - (intOf vi).toNat)
        case atStart => exact ⟨x, 1, rfl, rfl, by omega, by omega, x0, x1, HB2.out⟩
        case round =>
          obtain ⟨y, i, rfl, rfl, hi1, hi, y0, y1, hI⟩ := hrel
          have HI := hid hI
          clear hI
          have p0 : 0 ≤ y * y % n := Int.emod_nonneg _ (by omega)
          have p1 : y * y % n < n := Int.emod_lt_of_pos _ (by omega)
          by_cases hl : i < S
          · have hl2 : decide ((i : Nat) < S) = true := by simpa using hl
            have hq : S - i = (S - (i + 1)) + 1 := by omega
            have HI2 : Hid (B = (y * y % n == n - 1 || sqs n (y * y % n) (S - (i + 1)))) := hid (by rw [HI.out, hq]; rfl)
            clear HI hq
            go_wp2_with fail
            refine (rMul_ok y y n _ y0 y1 y0 y1 h4).mono ?_
            rintro r w2 ⟨rfl, rfl⟩
            by_cases t3 : (y * y % n == n - 1) = true
            · have hB : B = true := by rw [HI2.out, t3]; rfl
              subst hB
              go_wp2
              go_ret
              exact ⟨rfl, rfl⟩
            · have t3 : (y * y % n == n - 1) = false := by simpa using t3
              have HI3 : Hid (B = sqs n (y * y % n) (S - (i + 1))) := hid (by rw [HI2.out, t3]; rfl)
              clear HI2
              go_wp2_with fail
              go_round
              case rel => exact ⟨_, i + 1, rfl, by go_num, by omega, by omega, p0, p1, HI3.out⟩
              case measure => simp [intOf]; omega
          · have hB : B = false := by rw [HI.out, show S - i = 0 by omega]; rfl
            have hl2 : decide ((i : Nat) < S) = false := by simpa using hl
            subst hB
            go_wp2
            go_ret
            exact ⟨rfl, rfl⟩

theorem rIs_small (n : Int) (w : World) (h : n < 2) : Calls Tryd.prog 95 #[.int .i64 n] w fun e w' => e = .returned (.bool (isP n)) ∧ Up w w' := by
  go_enter Tryd.func95, Tryd.ntmps95
  go_wp2
  go_ret
  exact ⟨by simp [isP, h], Up.refl _⟩

/-- The twelve numbers lie in a block. -/
def Twelve (w : World) (b : Nat) : Prop := ∀ i, i < 12 → w.cell? ⟨b, i, none⟩ = some (.int .i64 (baseList.getD i 0))

set_option maxHeartbeats 1000000 in
theorem rIs_big (n : Int) (w : World) (h2 : 2 ≤ n) (h3 : n < 2305843009213693952) : Calls Tryd.prog 95 #[.int .i64 n] w fun e w' => e = .returned (.bool (isP n)) ∧ Up w w' := by
  have t0 : decide (n < 2) = false := by simp; omega
  have tb : decide (2305843009213693952 ≤ n) = false := by simp; omega
  have HP : Hid (isP n = match trial baseList n with | some b => b | none => baseList.all fun a => strongB n a ((n - 1).toNat / 2 ^ Lib.ctz 64 (n - 1).toNat) (Lib.ctz 64 (n - 1).toNat)) :=
    hid (by rw [isP, if_neg (by omega)]; rfl)
  have HC := hid (fun a w' (h0 : 0 ≤ a) (h1 : a < n) => rstrong_any n a w' h0 h1 h2 h3)
  generalize isP n = B at *
  generalize Lib.ctz 64 (n - 1).toNat = s at *
  generalize (n - 1).toNat / 2 ^ s = d at *
  go_enter Tryd.func95, Tryd.ntmps95
  go_wp2_with fail

  go_loopw [4] (fun vi wr => ∃ i : Nat, i ≤ 12 ∧ vi = .int .i64 i ∧ trial baseList n = trial (baseList.drop i) n ∧ Up w wr ∧ Twelve wr w.heap.size) (fun vi _ => 12 - (intOf vi).toNat)
  case atStart =>
    refine ⟨0, by omega, rfl, rfl, (Up.refl w).alloc _, ?_⟩
    intro i hi
    have h : i = 0 ∨ i = 1 ∨ i = 2 ∨ i = 3 ∨ i = 4 ∨ i = 5 ∨ i = 6 ∨ i = 7 ∨ i = 8 ∨ i = 9 ∨ i = 10 ∨ i = 11 := by omega
    rcases h with rfl | rfl | rfl | rfl | rfl | rfl | rfl | rfl | rfl | rfl | rfl | rfl
    all_goals (go_simp; rfl)
  case round =>
    obtain ⟨i, hi, rfl, hI, hU, hT⟩ := hrel
    have HT := hid hT
    clear hT
    by_cases hl : i < 12
    · have hix := HT.out i hl
      obtain ⟨p0, p1⟩ := base_bd i hl
      have hl2 : decide ((i : Int) < 12) = true := by simp; omega
      have hI2 : trial baseList n = if n % baseList.getD i 0 = 0 then some (n == baseList.getD i 0) else trial (baseList.drop (i + 1)) n := by
        rw [hI, base_drop i hl]; rfl
      have HI2 := hid hI2
      clear hI2 hI
      generalize baseList.getD i 0 = p at *
      have hp0 : (p == 0) = false := by simp; omega
      by_cases t1 : n % p = 0
      · have t1' : (n % p == 0) = true := by simpa using t1
        have HB2 : Hid (B = (n == p)) := hid (by rw [HP.out, HI2.out, if_pos t1])
        clear t1
        go_wp2
        go_ret
        exact ⟨by rw [HB2.out]; rfl, hU⟩
      · have t1' : (n % p == 0) = false := by simpa using t1
        have HI3 : Hid (trial baseList n = trial (baseList.drop (i + 1)) n) := hid (by rw [HI2.out, if_neg t1])
        clear t1
        go_wp2
        go_roundw
        case rel => exact ⟨i + 1, by omega, by go_num, HI3.out, hU, HT.out⟩
        case measure => simp [intOf]; omega
    · have hN : trial baseList n = none := by rw [hI, show i = 12 by omega]; rfl
      have hl2 : decide ((i : Int) < 12) = false := by simp; omega
      have hB : B = baseList.all fun a => strongB n a d s := by rw [HP.out, hN]
      have h41 : 38 ≤ n := by
        refine Int.not_lt.1 fun hlt => ?_
        have : n = 2 ∨ n = 3 ∨ n = 4 ∨ n = 5 ∨ n = 6 ∨ n = 7 ∨ n = 8 ∨ n = 9 ∨ n = 10 ∨ n = 11 ∨ n = 12 ∨ n = 13 ∨ n = 14 ∨ n = 15 ∨ n = 16 ∨ n = 17 ∨ n = 18 ∨ n = 19 ∨ n = 20 ∨ n = 21 ∨ n = 22 ∨ n = 23 ∨ n = 24 ∨ n = 25 ∨ n = 26 ∨ n = 27 ∨ n = 28 ∨ n = 29 ∨ n = 30 ∨ n = 31 ∨ n = 32 ∨ n = 33 ∨ n = 34 ∨ n = 35 ∨ n = 36 ∨ n = 37 := by omega
        rcases this with h | h | h | h | h | h | h | h | h | h | h | h | h | h | h | h | h | h | h | h | h | h | h | h | h | h | h | h | h | h | h | h | h | h | h | h <;> (rw [h] at hN; exact absurd hN (by decide))
      have HB := hid hB
      clear hB hN hI HP
      go_wp2_with fail
      go_loopw [5] (fun vi wr => ∃ i : Nat, i ≤ 12 ∧ vi = .int .i64 i ∧ B = (baseList.drop i).all (fun a => strongB n a d s) ∧ Up w wr ∧ Twelve wr w.heap.size) (fun vi _ => 12 - (intOf vi).toNat)
      case atStart => exact ⟨0, by omega, rfl, HB.out, hU, HT.out⟩
      case round =>
        clear HT hU
        obtain ⟨i, hi, rfl, hI, hU, hT⟩ := hrel
        have HT := hid hT
        clear hT
        by_cases hl : i < 12
        · have hix := HT.out i hl
          obtain ⟨p0, p1⟩ := base_bd i hl
          have hl2 : decide ((i : Int) < 12) = true := by simp; omega
          have hI2 : B = (strongB n (baseList.getD i 0) d s && (baseList.drop (i + 1)).all (fun a => strongB n a d s)) := by
            rw [hI, base_drop i hl]; rfl
          have HI2 := hid hI2
          clear hI2 hI
          have HC2 := fun w' => HC.out (baseList.getD i 0) w' (by omega) (by omega)
          generalize baseList.getD i 0 = p at *
          go_wp2_with fail
          refine (HC2 _).mono ?_
          rintro e w2 ⟨rfl, rfl⟩
          clear HC2
          generalize strongB n p d s = C at *
          cases C
          · have hB2 : B = false := by rw [HI2.out]; rfl
            subst hB2
            go_wp2
            go_ret
            exact ⟨rfl, hU⟩
          · go_wp2
            go_roundw
            case rel => exact ⟨i + 1, by omega, by go_num, by rw [HI2.out]; rfl, hU, HT.out⟩
            case measure => simp [intOf]; omega
        · have hi12 : i = 12 := by omega
          subst hi12
          have hB2 : B = true := by rw [hI]; rfl
          subst hB2
          clear hI
          go_wp2
          go_ret
          exact ⟨rfl, hU⟩

theorem rIs_any (n : Int) (w : World) (h3 : n < 2305843009213693952) : Calls Tryd.prog 95 #[.int .i64 n] w fun e w' => e = .returned (.bool (isP n)) ∧ Up w w' := by
  by_cases h : n < 2
  · exact rIs_small n w h
  · exact rIs_big n w (by omega) h3
end Go.Proofs.YtdlcmpbpdbpanaaDoor
namespace Go.Proofs.YtdlcmpbpdbpanaaDoor
open Go.RowKit Go.Sp
set_option maxHeartbeats 400000

/-- A group as a value. -/
abbrev grp (P Q G : Int) : Value := .agg #[.int .i64 P, .int .i64 Q, .int .i64 G]

theorem Valid_any (P Q G : Int) (w : World) (hP : -9223372036854775808 ≤ P) (hQ : Q ≤ 9223372036854775807) (hT : Tab w) :
    Calls Tryd.prog 93 #[grp P Q G] w fun e w' => e = .returned (.bool (gvB P Q G)) ∧ Up w w' := by
  have HT := hid hT
  clear hT
  have HB : Hid (gvB P Q G = (decide (P < 2305843009213693952) && decide (3 ≤ Q) && decide (Q % 2 = 1) && isP P && isP Q && decide ((P - 1) % Q = 0) && decide (2 ≤ G) && decide (G < P) && decide (pw G Q.toNat P = 1))) := hid rfl
  generalize gvB P Q G = B at *
  by_cases c1 : P < 2305843009213693952
  case neg =>
    have hB : B = false := by rw [HB.out]; simp [c1]
    subst hB
    go_enter Tryd.func93, Tryd.ntmps93
    go_wp2
    go_ret
    exact ⟨rfl, (Up.refl w).alloc _⟩
  have d1 : decide (2305843009213693952 ≤ P) = false := by simp; omega
  by_cases c2 : 3 ≤ Q
  case neg =>
    have hB : B = false := by rw [HB.out]; simp [c2]
    subst hB
    go_enter Tryd.func93, Tryd.ntmps93
    go_wp2
    go_ret
    exact ⟨rfl, (Up.refl w).alloc _⟩
  have d2 : decide (Q < 3) = false := by simp; omega
  by_cases c3 : Q % 2 = 1
  case neg =>
    have hB : B = false := by rw [HB.out]; simp [c3]
    subst hB
    have d3 : (Q % 2 == 0) = true := by simp; omega
    clear c3
    go_enter Tryd.func93, Tryd.ntmps93
    go_wp2
    go_ret
    exact ⟨rfl, (Up.refl w).alloc _⟩
  have d3 : (Q % 2 == 0) = false := by simp; omega
  have C3 := hid c3
  clear c3
  go_enter Tryd.func93, Tryd.ntmps93
  go_wp2_with fail
  refine (Is_any P _ (by omega) (HT.out.up ((Up.refl w).alloc _))).mono ?_
  rintro e w1 ⟨rfl, hU1⟩
  obtain ⟨hr1, hf1⟩ := hU1.reads
  have hs1 : w.heap.size < w1.heap.size := by have := hU1.size; simp at this; omega
  have HT1 := hid (HT.out.up (((Up.refl w).alloc _).trans hU1))
  by_cases c4 : isP P = true
  case neg =>
    have hB : B = false := by rw [HB.out]; simp [c4]
    subst hB
    have d4 : isP P = false := by simpa using c4
    clear c4
    go_wp2
    go_ret
    exact ⟨rfl, ((Up.refl w).alloc _).trans hU1⟩
  have p2 := isP_two c4
  go_wp2_with fail
  refine (Is_any Q _ hQ HT1.out).mono ?_
  rintro e w2 ⟨rfl, hU2⟩
  obtain ⟨hr2, hf2⟩ := hU2.reads
  by_cases c5 : isP Q = true
  case neg =>
    have hB : B = false := by rw [HB.out]; simp [c5]
    subst hB
    have d5 : isP Q = false := by simpa using c5
    clear c5
    go_wp2
    go_ret
    exact ⟨rfl, (((Up.refl w).alloc _).trans hU1).trans hU2⟩
  have dq : (Q == 0) = false := by simp; omega
  by_cases c6 : (P - 1) % Q = 0
  case neg =>
    have hB : B = false := by rw [HB.out]; simp [c6]
    subst hB
    have d6 : ((P - 1) % Q != 0) = true := by simp [c6]
    have d6' : ((P - 1) % Q == 0) = false := by simp [c6]
    clear c6
    go_wp2
    go_ret
    exact ⟨rfl, (((Up.refl w).alloc _).trans hU1).trans hU2⟩
  have d6 : ((P - 1) % Q != 0) = false := by simp [c6]
  have d6' : ((P - 1) % Q == 0) = true := by simp [c6]
  have C6 := hid c6
  clear c6
  by_cases c7 : 2 ≤ G
  case neg =>
    have hB : B = false := by rw [HB.out]; simp [c7]
    subst hB
    have d7 : decide (G < 2) = true := by simp; omega
    go_wp2
    go_ret
    exact ⟨rfl, (((Up.refl w).alloc _).trans hU1).trans hU2⟩
  have d7 : decide (G < 2) = false := by simp; omega
  by_cases c8 : G < P
  case neg =>
    have hB : B = false := by rw [HB.out]; simp [c8]
    subst hB
    have d8 : decide (P ≤ G) = true := by simp; omega
    go_wp2
    go_ret
    exact ⟨rfl, (((Up.refl w).alloc _).trans hU1).trans hU2⟩
  have d8 : decide (P ≤ G) = false := by simp; omega
  go_wp2_with fail
  refine (Pow_ok G Q P _ (by omega) c8 (by omega) hQ c1).mono ?_
  rintro e w3 ⟨rfl, hU3⟩
  have hB : B = decide (pw G Q.toNat P = 1) := by rw [HB.out]; simp [c1, c2, C3.out, c4, c5, C6.out, c7, c8]
  have HB2 := hid hB
  clear hB
  by_cases c9 : pw G Q.toNat P = 1
  · have d9 : (pw G Q.toNat P == 1) = true := by simp [c9]
    have hB : B = true := by rw [HB2.out]; simp [c9]
    subst hB
    clear c9
    go_wp2
    go_ret
    exact ⟨rfl, ((((Up.refl w).alloc _).trans hU1).trans hU2).trans hU3⟩
  · have d9 : (pw G Q.toNat P == 1) = false := by simp [c9]
    have hB : B = false := by rw [HB2.out]; simp [c9]
    subst hB
    clear c9
    go_wp2
    go_ret
    exact ⟨rfl, ((((Up.refl w).alloc _).trans hU1).trans hU2).trans hU3⟩
end Go.Proofs.YtdlcmpbpdbpanaaDoor
namespace Go.Proofs.YtdlcmpbpdbpanaaDoor
open Go.RowKit Go.Sp
set_option maxHeartbeats 400000

theorem rValid_any (P Q G : Int) (w : World) (hP : -9223372036854775808 ≤ P) (hQ : Q ≤ 9223372036854775807) :
    Calls Tryd.prog 37 #[grp P Q G] w fun e w' => e = .returned (.bool (gvB P Q G)) ∧ Up w w' := by
  have HB : Hid (gvB P Q G = (decide (P < 2305843009213693952) && decide (3 ≤ Q) && decide (Q % 2 = 1) && isP P && isP Q && decide ((P - 1) % Q = 0) && decide (2 ≤ G) && decide (G < P) && decide (pw G Q.toNat P = 1))) := hid rfl
  generalize gvB P Q G = B at *
  by_cases c0 : 3 ≤ P
  case neg =>
    have hB : B = false := by
      rw [HB.out]
      by_cases hp : isP P = true
      · have p2 : P = 2 := by have := isP_two hp; omega
        by_cases hq : 3 ≤ Q
        · have : ¬ ((P - 1) % Q = 0) := by rw [Int.emod_eq_of_lt (by omega) (by omega)]; omega
          simp [this]
        · simp [hq]
      · simp [hp]
    subst hB
    have d0 : decide (P < 3) = true := by simp; omega
    go_enter Tryd.func37, Tryd.ntmps37
    go_wp2
    go_ret
    exact ⟨rfl, (Up.refl w).alloc _⟩
  have d0 : decide (P < 3) = false := by simp; omega
  by_cases c1 : P < 2305843009213693952
  case neg =>
    have hB : B = false := by rw [HB.out]; simp [c1]
    subst hB
    go_enter Tryd.func37, Tryd.ntmps37
    go_wp2
    go_ret
    exact ⟨rfl, (Up.refl w).alloc _⟩
  have d1 : decide (2305843009213693952 ≤ P) = false := by simp; omega
  by_cases c2 : 3 ≤ Q
  case neg =>
    have hB : B = false := by rw [HB.out]; simp [c2]
    subst hB
    go_enter Tryd.func37, Tryd.ntmps37
    go_wp2
    go_ret
    exact ⟨rfl, (Up.refl w).alloc _⟩
  have d2 : decide (Q < 3) = false := by simp; omega
  by_cases c3 : Q % 2 = 1
  case neg =>
    have hB : B = false := by rw [HB.out]; simp [c3]
    subst hB
    have d3 : (Q % 2 == 0) = true := by simp; omega
    clear c3
    go_enter Tryd.func37, Tryd.ntmps37
    go_wp2
    go_ret
    exact ⟨rfl, (Up.refl w).alloc _⟩
  have d3 : (Q % 2 == 0) = false := by simp; omega
  have C3 := hid c3
  clear c3
  have dq : (Q == 0) = false := by simp; omega
  by_cases c6 : (P - 1) % Q = 0
  case neg =>
    have hB : B = false := by rw [HB.out]; simp [c6]
    subst hB
    have d6 : ((P - 1) % Q != 0) = true := by simp [c6]
    have d6' : ((P - 1) % Q == 0) = false := by simp [c6]
    clear c6
    go_enter Tryd.func37, Tryd.ntmps37
    go_wp2
    go_ret
    exact ⟨rfl, (Up.refl w).alloc _⟩
  have d6 : ((P - 1) % Q != 0) = false := by simp [c6]
  have d6' : ((P - 1) % Q == 0) = true := by simp [c6]
  have hQP : Q < 2305843009213693952 := by
    refine Int.not_le.1 fun hle => ?_
    rw [Int.emod_eq_of_lt (by omega) (by omega)] at c6
    omega
  have C6 := hid c6
  clear c6
  by_cases c7 : 2 ≤ G
  case neg =>
    have hB : B = false := by rw [HB.out]; simp [c7]
    subst hB
    have d7 : decide (G < 2) = true := by simp; omega
    go_enter Tryd.func37, Tryd.ntmps37
    go_wp2
    go_ret
    exact ⟨rfl, (Up.refl w).alloc _⟩
  have d7 : decide (G < 2) = false := by simp; omega
  by_cases c8 : G < P
  case neg =>
    have hB : B = false := by rw [HB.out]; simp [c8]
    subst hB
    have d8 : decide (P ≤ G) = true := by simp; omega
    go_enter Tryd.func37, Tryd.ntmps37
    go_wp2
    go_ret
    exact ⟨rfl, (Up.refl w).alloc _⟩
  have d8 : decide (P ≤ G) = false := by simp; omega
  go_enter Tryd.func37, Tryd.ntmps37
  go_wp2_with fail
  refine (rIs_any P _ c1).mono ?_
  rintro e w1 ⟨rfl, hU1⟩
  obtain ⟨hr1, hf1⟩ := hU1.reads
  have hs1 : w.heap.size < w1.heap.size := by have := hU1.size; simp at this; omega
  by_cases c4 : isP P = true
  case neg =>
    have hB : B = false := by rw [HB.out]; simp [c4]
    subst hB
    have d4 : isP P = false := by simpa using c4
    clear c4
    go_wp2
    go_ret
    exact ⟨rfl, ((Up.refl w).alloc _).trans hU1⟩
  go_wp2_with fail
  refine (rIs_any Q _ hQP).mono ?_
  rintro e w2 ⟨rfl, hU2⟩
  obtain ⟨hr2, hf2⟩ := hU2.reads
  by_cases c5 : isP Q = true
  case neg =>
    have hB : B = false := by rw [HB.out]; simp [c5]
    subst hB
    have d5 : isP Q = false := by simpa using c5
    clear c5
    go_wp2
    go_ret
    exact ⟨rfl, (((Up.refl w).alloc _).trans hU1).trans hU2⟩
  go_wp2_with fail
  refine (rPow_ok G Q P _ (by omega) c8 (by omega) hQ c1).mono ?_
  rintro e w3 ⟨rfl, rfl⟩
  have hB : B = decide (pw G Q.toNat P = 1) := by rw [HB.out]; simp [c1, c2, C3.out, c4, c5, C6.out, c7, c8]
  have HB2 := hid hB
  clear hB
  by_cases c9 : pw G Q.toNat P = 1
  · have d9 : (pw G Q.toNat P == 1) = true := by simp [c9]
    have hB : B = true := by rw [HB2.out]; simp [c9]
    subst hB
    clear c9
    go_wp2
    go_ret
    exact ⟨rfl, (((Up.refl w).alloc _).trans hU1).trans hU2⟩
  · have d9 : (pw G Q.toNat P == 1) = false := by simp [c9]
    have hB : B = false := by rw [HB2.out]; simp [c9]
    subst hB
    clear c9
    go_wp2
    go_ret
    exact ⟨rfl, (((Up.refl w).alloc _).trans hU1).trans hU2⟩

theorem element_any (P Q G x : Int) (w : World) (hP : P < 2305843009213693952) (hQ0 : 0 ≤ Q) (hQ : Q ≤ 9223372036854775807) :
    Calls Tryd.prog 94 #[grp P Q G, .int .i64 x] w fun e w' => e = .returned (.bool (elB P Q x)) ∧ Up w w' := by
  have HB : Hid (elB P Q x = (decide (1 ≤ x) && decide (x < P) && decide (pw x Q.toNat P = 1))) := hid rfl
  generalize elB P Q x = B at *
  by_cases c1 : 1 ≤ x
  case neg =>
    have hB : B = false := by rw [HB.out]; simp [c1]
    subst hB
    go_enter Tryd.func94, Tryd.ntmps94
    go_wp2
    go_ret
    exact ⟨rfl, (Up.refl w).alloc _⟩
  have d1 : decide (x < 1) = false := by simp; omega
  by_cases c2 : x < P
  case neg =>
    have hB : B = false := by rw [HB.out]; simp [c2]
    subst hB
    have d2 : decide (P ≤ x) = true := by simp; omega
    go_enter Tryd.func94, Tryd.ntmps94
    go_wp2
    go_ret
    exact ⟨rfl, (Up.refl w).alloc _⟩
  have d2 : decide (P ≤ x) = false := by simp; omega
  have hB : B = decide (pw x Q.toNat P = 1) := by rw [HB.out]; simp [c1, c2]
  have HB2 := hid hB
  clear hB HB
  go_enter Tryd.func94, Tryd.ntmps94
  go_wp2_with fail
  refine (Pow_ok x Q P _ (by omega) c2 hQ0 hQ hP).mono ?_
  rintro e w3 ⟨rfl, hU3⟩
  go_wp2
  go_ret
  refine ⟨?_, ((Up.refl w).alloc _).trans hU3⟩
  rw [HB2.out]
  exact congrArg (fun b => Ending.returned (.bool b)) (by rw [Bool.eq_iff_iff]; simp)

theorem rMember_any (P Q G x : Int) (w : World) (hP : P < 2305843009213693952) (hQ0 : 0 ≤ Q) (hQ : Q ≤ 9223372036854775807) :
    Calls Tryd.prog 30 #[grp P Q G, .int .i64 x] w fun e w' => e = .returned (.bool (elB P Q x)) ∧ Up w w' := by
  have HB : Hid (elB P Q x = (decide (1 ≤ x) && decide (x < P) && decide (pw x Q.toNat P = 1))) := hid rfl
  generalize elB P Q x = B at *
  by_cases c1 : 1 ≤ x
  case neg =>
    have hB : B = false := by rw [HB.out]; simp [c1]
    subst hB
    go_enter Tryd.func30, Tryd.ntmps30
    go_wp2
    go_ret
    exact ⟨rfl, (Up.refl w).alloc _⟩
  have d1 : decide (1 ≤ x) = true := by simpa using c1
  by_cases c2 : x < P
  case neg =>
    have hB : B = false := by rw [HB.out]; simp [c2]
    subst hB
    have d2 : decide (x < P) = false := by simpa using c2
    go_enter Tryd.func30, Tryd.ntmps30
    go_wp2
    go_ret
    exact ⟨rfl, (Up.refl w).alloc _⟩
  have d2 : decide (x < P) = true := by simpa using c2
  have hB : B = decide (pw x Q.toNat P = 1) := by rw [HB.out]; simp [c1, c2]
  have HB2 := hid hB
  clear hB HB
  go_enter Tryd.func30, Tryd.ntmps30
  go_wp2_with fail
  refine (rPow_ok x Q P _ (by omega) c2 hQ0 hQ hP).mono ?_
  rintro e w3 ⟨rfl, rfl⟩
  go_wp2
  go_ret
  refine ⟨?_, (Up.refl w).alloc _⟩
  rw [HB2.out]
  exact congrArg (fun b => Ending.returned (.bool b)) (by rw [Bool.eq_iff_iff]; simp)

/-- Contains: valid, and an element. -/
def conB (P Q G x : Int) : Bool := gvB P Q G && elB P Q x

theorem Contains_any (P Q G x : Int) (w : World) (hP : -9223372036854775808 ≤ P) (hQ : Q ≤ 9223372036854775807) (hT : Tab w) :
    Calls Tryd.prog 36 #[grp P Q G, .int .i64 x] w fun e w' => e = .returned (.bool (conB P Q G x)) ∧ Up w w' := by
  have HT := hid hT
  clear hT
  go_enter Tryd.func36, Tryd.ntmps36
  go_wp2_with fail
  refine (Valid_any P Q G _ hP hQ (HT.out.up ((Up.refl w).alloc _))).mono ?_
  rintro e w1 ⟨rfl, hU1⟩
  obtain ⟨hr1, hf1⟩ := hU1.reads
  by_cases c : gvB P Q G = true
  · have g := gv_iff.1 c
    have HB : Hid (conB P Q G x = elB P Q x) := hid (by simp [conB, c])
    have g1 := g.P61
    have g2 := g.Q3
    clear g
    go_wp2_with fail
    refine (element_any P Q G x _ g1 (by omega) hQ).mono ?_
    rintro e w2 ⟨rfl, hU2⟩
    go_wp2
    go_ret
    exact ⟨by rw [HB.out]; rfl, (((Up.refl w).alloc _).trans hU1).trans hU2⟩
  · have c' : gvB P Q G = false := by simpa using c
    have HB : Hid (conB P Q G x = false) := hid (by simp [conB, c'])
    clear c
    go_wp2
    go_ret
    exact ⟨by rw [HB.out]; rfl, ((Up.refl w).alloc _).trans hU1⟩

theorem same_turn {P : Program} {f : FuncId} {args : Array Value} {w : World} {v : Value} (h : Calls P f args w fun e w' => e = .returned v ∧ w = w') : Calls P f args w fun e w' => e = .returned v ∧ w' = w :=
  h.mono fun _ _ ⟨a, b⟩ => ⟨a, b.symm⟩

/-- A power, the exponent any integer. -/
def gpw (P Q a e : Int) : Int := pw a (e % Q).toNat P

end Go.Proofs.YtdlcmpbpdbpanaaDoor
