/- Plain facts on elements of a group. The laws of exponents. -/
import Derived.Test.YtdlcmpbpdbpanaaGreatDoorMUnlinkExplains3
import Derived.Test.YtdlcmpbpdbpanaaGreatDoorMUnlinkExplains6
namespace Go.Sp

theorem pow_zero_base (n : Nat) (h : 1 ≤ n) : (0 : Int) ^ n = 0 := by
  obtain ⟨k, rfl⟩ : ∃ k, n = k + 1 := ⟨n - 1, by omega⟩
  rw [Int.pow_succ]; simp

theorem pw_one_exp {a P : Int} (h0 : 0 ≤ a) (h1 : a < P) : pw a 1 P = a := by
  rw [pw, show a ^ 1 = a by rw [Int.pow_succ]; simp, Int.emod_eq_of_lt h0 h1]

/-- A residue whose power is 1 is an element. -/
theorem el_of {P Q x : Int} (hP : 2 ≤ P) (hQ : 1 ≤ Q) (h : pw (x % P) Q.toNat P = 1) : elB P Q (x % P) = true := by
  have r0 := Int.emod_nonneg x (show P ≠ 0 by omega)
  have r1 := Int.emod_lt_of_pos x (show 0 < P by omega)
  refine el_iff.2 ⟨?_, r1, h⟩
  refine Int.not_lt.1 fun hlt => ?_
  have hz : x % P = 0 := by omega
  rw [hz, pw, pow_zero_base _ (by omega)] at h
  simp at h

theorem el_mul {P Q a b : Int} (hP : 2 ≤ P) (hQ : 1 ≤ Q) (ha : elB P Q a = true) (hb : elB P Q b = true) : elB P Q (a * b % P) = true := by
  refine el_of hP hQ ?_
  rw [pw_prod, (el_iff.1 ha).2.2, (el_iff.1 hb).2.2]
  exact Int.emod_eq_of_lt (by omega) (by omega)

theorem el_pw {P Q a : Int} (hP : 2 ≤ P) (hQ : 1 ≤ Q) (ha : elB P Q a = true) (n : Nat) : elB P Q (pw a n P) = true := by
  refine el_of hP hQ ?_
  show pw (pw a n P) Q.toNat P = 1
  rw [← pw_mul, Nat.mul_comm, pw_mul, (el_iff.1 ha).2.2, pw_one_base]
  exact Int.emod_eq_of_lt (by omega) (by omega)

theorem el_one {P Q : Int} (hP : 2 ≤ P) : elB P Q 1 = true := by
  refine el_iff.2 ⟨by omega, by omega, ?_⟩
  rw [pw_one_base]
  exact Int.emod_eq_of_lt (by omega) (by omega)

theorem mul_assoc' (a b c P : Int) : (a * b % P) * c % P = a * (b * c % P) % P := by
  rw [emul (emod_self (a * b) P) (rfl : c % P = c % P), emul (rfl : a % P = a % P) (emod_self (b * c) P), Int.mul_assoc]

/-- Powers of an element go by the order. -/
theorem pw_mod {P Q a : Int} (hP : 2 ≤ P) (ha : elB P Q a = true) (n : Nat) : pw a (n % Q.toNat) P = pw a n P := by
  have h := (el_iff.1 ha).2.2
  conv => rhs; rw [← Nat.div_add_mod n Q.toNat, pw_add, pw_mul, h, pw_one_base]
  rw [Int.emod_eq_of_lt (show (0 : Int) ≤ 1 by omega) (by omega), Int.one_mul]
  exact (emod_self _ _).symm

end Go.Sp
namespace Go.Proofs.YtdlcmpbpdbpanaaGreatDoor
open Go.Sp

theorem toNat_mod {x Q : Int} (hQ : 1 ≤ Q) : ∃ k : Nat, (x % Q).toNat = k ∧ (k : Int) = x % Q := by
  have := Int.emod_nonneg x (show Q ≠ 0 by omega)
  exact ⟨_, rfl, by omega⟩

theorem nat_of_int {a b q : Nat} {Q : Int} (hQ : Q = (q : Int)) (h : (a : Int) = (b : Int) % Q) : a = b % q := by
  subst hQ
  have : ((b % q : Nat) : Int) = (b : Int) % (q : Int) := Int.natCast_emod b q
  omega

theorem gpw_add {P Q a : Int} (hP : 2 ≤ P) (hQ : 1 ≤ Q) (ha : elB P Q a = true) (m n : Int) : gpw P Q a m * gpw P Q a n % P = gpw P Q a (m + n) := by
  unfold gpw
  obtain ⟨i, h1, e1⟩ := toNat_mod (x := m) hQ
  obtain ⟨j, h2, e2⟩ := toNat_mod (x := n) hQ
  obtain ⟨k, h3, e3⟩ := toNat_mod (x := m + n) hQ
  rw [h1, h2, h3, ← pw_add, ← pw_mod hP ha (i + j)]
  congr 1
  refine (nat_of_int (Q := Q) (by omega) ?_).symm
  rw [e3, Int.natCast_add, e1, e2, ← Int.add_emod]

theorem gpw_mul {P Q a : Int} (hP : 2 ≤ P) (hQ : 1 ≤ Q) (ha : elB P Q a = true) (m n : Int) : gpw P Q (gpw P Q a m) n = gpw P Q a (m * n) := by
  unfold gpw
  obtain ⟨i, h1, e1⟩ := toNat_mod (x := m) hQ
  obtain ⟨j, h2, e2⟩ := toNat_mod (x := n) hQ
  obtain ⟨k, h3, e3⟩ := toNat_mod (x := m * n) hQ
  rw [h1, h2, h3, ← pw_mul, ← pw_mod hP ha (i * j)]
  congr 1
  refine (nat_of_int (Q := Q) (by omega) ?_).symm
  rw [e3, Int.natCast_mul, e1, e2, ← Int.mul_emod]

theorem gpw_neg {P Q a : Int} (hQ : 1 ≤ Q) : gpw P Q a (-1) = pw a (Q.toNat - 1) P := by
  unfold gpw
  congr 1
  have : (-1 : Int) % Q = Q - 1 := by
    rw [← Int.add_emod_right (-1) Q, Int.emod_eq_of_lt (by omega) (by omega)]; omega
  omega

theorem gpw_mod {P Q a : Int} (hQ : 1 ≤ Q) (m : Int) : gpw P Q a (m.tmod Q) = gpw P Q a m := by
  unfold gpw
  congr 2
  rcases tmod_cases m Q hQ with ⟨_, h, _⟩ | ⟨_, h⟩
  · rw [show m.tmod Q = m % Q - Q by omega, Int.sub_emod_right, emod_self]
  · rw [h, emod_self]

theorem gpw_el {P Q a : Int} (hP : 2 ≤ P) (hQ : 1 ≤ Q) (ha : elB P Q a = true) (m : Int) : elB P Q (gpw P Q a m) = true := el_pw hP hQ ha _

theorem gpw_base_mod {P Q a m n : Int} (h : m % Q = n % Q) : gpw P Q a m = gpw P Q a n := by
  unfold gpw; rw [h]
end Go.Proofs.YtdlcmpbpdbpanaaGreatDoor
