/- Package specieref01: the same arithmetic. -/
import Derived.Test.YtmbbnjbohnobcaaDoorWord
namespace Go.Proofs.YtmbbnjbohnobcaaDoor
open Go.RowKit Go.Sp
set_option maxHeartbeats 400000

theorem rMul_ok (a b m : Int) (w : World) (h0 : 0 ≤ a) (h1 : a < m) (h2 : 0 ≤ b) (h3 : b < m) (h4 : m < 2305843009213693952) :
    Calls Tryd.prog 82 #[.int .i64 a, .int .i64 b, .int .i64 m] w fun e w' => e = .returned (.int .i64 (a * b % m)) ∧ w = w' := by
  have hm0 : (m == 0) = false := by simp; omega
  by_cases hs : a < 2147483648 ∧ b < 2147483648
  · obtain ⟨s1, s2⟩ := hs
    have t1 : decide (a < 2147483648) = true := by simpa using s1
    have t2 : decide (b < 2147483648) = true := by simpa using s2
    have p0 : 0 ≤ a * b := Int.mul_nonneg h0 h2
    have p1 : a * b ≤ 2147483647 * 2147483647 := Int.mul_le_mul (by omega) (by omega) h2 (by omega)
    have e1 : wrap64 (a * b) = a * b := IntWalk.wrap64_in _ ⟨by omega, by omega⟩
    go_enter Tryd.func82, Tryd.ntmps82
    go_wp2
    go_ret
    exact ⟨rfl, rfl⟩
  · have hx : (decide (a < 2147483648) = true ∧ decide (b < 2147483648) = false) ∨ decide (a < 2147483648) = false := by
      simp; omega
    clear hs
    rcases hx with ⟨t1, t2⟩ | t1
    all_goals
      go_enter Tryd.func82, Tryd.ntmps82
      go_wp2_with fail
      clear t1
      try clear t2
      go_loop [0, 1, 7] (fun va vb vo => ∃ a' b' o : Int, va = .int .i64 a' ∧ vb = .int .i64 b' ∧ vo = .int .i64 o ∧ 0 ≤ a' ∧ a' < m ∧ 0 ≤ b' ∧ b' < 2305843009213693952 ∧ 0 ≤ o ∧ o < m ∧ (o + a' * b') % m = a * b % m) (fun _ vb _ => (intOf vb).toNat)
      case atStart => exact ⟨a, b, 0, rfl, rfl, rfl, h0, h1, h2, by omega, by omega, by omega, by simp⟩
      case round =>
        obtain ⟨a', b', o, rfl, rfl, rfl, a0, a1, b0, b1, o0, o1, hI⟩ := hrel
        have HI := hid hI
        clear hI
        have p0 : 0 ≤ (o + a') % m := Int.emod_nonneg _ (by omega)
        have p1 : (o + a') % m < m := Int.emod_lt_of_pos _ (by omega)
        have q0 : 0 ≤ (a' + a') % m := Int.emod_nonneg _ (by omega)
        have q1 : (a' + a') % m < m := Int.emod_lt_of_pos _ (by omega)
        by_cases hb : 0 < b'
        · have t3 : decide (0 < b') = true := by simpa using hb
          by_cases ho : b' % 2 = 1
          · have t4 : (b' % 2 == 1) = true := by simpa using ho
            have HO := hid ho
            clear ho
            go_wp2
            go_round
            case rel => exact ⟨_, _, _, rfl, rfl, rfl, q0, q1, by omega, by omega, p0, p1, by rw [double_odd _ _ _ _ HO.out, HI.out]⟩
            case measure => simp [intOf]; omega
          · have t4 : (b' % 2 == 1) = false := by simpa using ho
            have HO := hid (show b' % 2 = 0 by omega)
            clear ho
            go_wp2
            go_round
            case rel => exact ⟨_, _, _, rfl, rfl, rfl, q0, q1, by omega, by omega, o0, o1, by rw [double_even _ _ _ _ HO.out, HI.out]⟩
            case measure => simp [intOf]; omega
        · have hb0 : b' = 0 := by omega
          subst hb0
          go_wp2
          go_ret
          refine ⟨?_, rfl⟩
          rw [← HI.out]
          simp [Int.emod_eq_of_lt o0 o1]

theorem rPow_ok (a e m : Int) (w : World) (h0 : 0 ≤ a) (h1 : a < m) (h2 : 0 ≤ e) (h3 : e ≤ 9223372036854775807) (h4 : m < 2305843009213693952) :
    Calls Tryd.prog 105 #[.int .i64 a, .int .i64 e, .int .i64 m] w fun r w' => r = .returned (.int .i64 (pw a e.toNat m)) ∧ w = w' := by
  have hm0 : (m == 0) = false := by simp; omega
  have m0 : 0 ≤ (1 : Int) % m := Int.emod_nonneg _ (by omega)
  have m1 : (1 : Int) % m < m := Int.emod_lt_of_pos _ (by omega)
  go_enter Tryd.func105, Tryd.ntmps105
  go_wp2_with fail
  go_loop [0, 1, 7] (fun va ve vx => ∃ (a' : Int) (k : Nat) (x : Int), va = .int .i64 a' ∧ ve = .int .i64 k ∧ vx = .int .i64 x ∧ 0 ≤ a' ∧ a' < m ∧ 0 ≤ x ∧ x < m ∧ k ≤ 9223372036854775807 ∧ x * a' ^ k % m = pw a e.toNat m) (fun _ ve _ => (intOf ve).toNat)
  case atStart =>
    refine ⟨a, e.toNat, 1 % m, rfl, by rw [Int.toNat_of_nonneg h2], rfl, h0, h1, m0, m1, by omega, ?_⟩
    rw [emul (emod_self 1 m) rfl, Int.one_mul]; rfl
  case round =>
    obtain ⟨a', k, x, rfl, rfl, rfl, a0, a1, x0, x1, k1, hI⟩ := hrel
    have HI := hid hI
    clear hI
    have p0 : 0 ≤ a' * a' % m := Int.emod_nonneg _ (by omega)
    have p1 : a' * a' % m < m := Int.emod_lt_of_pos _ (by omega)
    have q0 : 0 ≤ x * a' % m := Int.emod_nonneg _ (by omega)
    have q1 : x * a' % m < m := Int.emod_lt_of_pos _ (by omega)
    by_cases hk : 0 < k
    · have hk2 : decide (0 < k) = true := by simpa using hk
      by_cases ho : k % 2 = 1
      · have ho2 : ((k : Int) % 2 == 1) = true := by simp; omega
        have HO := hid ho
        clear ho
        go_wp2_with fail
        refine (rMul_ok x a' m _ x0 x1 a0 a1 h4).mono ?_
        rintro r w1 ⟨rfl, rfl⟩
        go_wp2_with fail
        refine (rMul_ok a' a' m _ a0 a1 a0 a1 h4).mono ?_
        rintro r w2 ⟨rfl, rfl⟩
        go_wp2_with fail
        go_round
        case rel => exact ⟨_, k / 2, _, rfl, by simp, rfl, p0, p1, q0, q1, by omega, by rw [round_odd _ _ _ _ HO.out, HI.out]⟩
        case measure => simp [intOf]; omega
      · have ho2 : ((k : Int) % 2 == 1) = false := by simp; omega
        have HO := hid (show k % 2 = 0 by omega)
        clear ho
        go_wp2_with fail
        refine (rMul_ok a' a' m _ a0 a1 a0 a1 h4).mono ?_
        rintro r w2 ⟨rfl, rfl⟩
        go_wp2_with fail
        go_round
        case rel => exact ⟨_, k / 2, _, rfl, by simp, rfl, p0, p1, x0, x1, by omega, by rw [round_even _ _ _ _ HO.out, HI.out]⟩
        case measure => simp [intOf]; omega
    · have hk0 : k = 0 := by omega
      subst hk0
      go_wp2
      go_ret
      refine ⟨?_, rfl⟩
      rw [← HI.out]
      simp [Int.emod_eq_of_lt x0 x1]

theorem rReduce_ok (a m : Int) (w : World) (h0 : -9223372036854775808 ≤ a) (h1 : a ≤ 9223372036854775807) (h2 : 1 ≤ m) (h3 : m < 2305843009213693952) :
    Calls Tryd.prog 141 #[.int .i64 a, .int .i64 m] w fun e w' => e = .returned (.int .i64 (a % m)) ∧ w = w' := by
  have hm0 : (m == 0) = false := by simp; omega
  have ht := tmod_cases a m h2
  by_cases hs : 0 ≤ a
  · have ht2 : a.tmod m = a % m := Int.tmod_eq_emod_of_nonneg hs
    have b0 := Int.emod_nonneg a (show m ≠ 0 by omega)
    have hlt : decide (a % m < 0) = false := by simp; omega
    clear ht ht2
    go_enter Tryd.func141, Tryd.ntmps141
    go_wp2
    go_ret
    exact ⟨rfl, rfl⟩
  · rcases ht with ⟨t0, t1, t2⟩ | ⟨t0, t1⟩
    all_goals
      have T1 := hid t1
      clear t1
      go_enter Tryd.func141, Tryd.ntmps141
      go_wp2
      go_ret
      exact ⟨by rw [← T1.out]; rfl, rfl⟩
end Go.Proofs.YtmbbnjbohnobcaaDoor
