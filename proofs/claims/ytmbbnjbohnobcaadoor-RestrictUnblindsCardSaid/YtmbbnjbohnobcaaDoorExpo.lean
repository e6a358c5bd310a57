/- The laws of exponents. -/
import Derived.Test.YtmbbnjbohnobcaaDoorElem
import Derived.Test.YtmbbnjbohnobcaaDoorGroupB
namespace Go.Proofs.YtmbbnjbohnobcaaDoor
open Go.Sp

theorem toNat_mod {x Q : Int} (hQ : 1 ≤ Q) : ∃ k : Nat, (x % Q).toNat = k ∧ (k : Int) = x % Q := by
  have := Int.emod_nonneg x (show Q ≠ 0 by omega)
  exact ⟨_, rfl, by omega⟩

theorem nat_of_int {a b q : Nat} {Q : Int} (hQ : Q = (q : Int)) (h : (a : Int) = (b : Int) % Q) : a = b % q := by
  subst hQ
  have : ((b % q : Nat) : Int) = (b : Int) % (q : Int) := Int.natCast_emod b q
  omega

theorem gpw_add {P Q a : Int} (hP : 2 ≤ P) (hQ : 1 ≤ Q) (ha : elB P Q a = true) (m n : Int) : gpw P Q a m * gpw P Q a n % P = gpw P Q a (m + n) := by
  unfold gpw
  obtain ⟨i, h1, e1⟩ := toNat_mod (x := m) hQ
  obtain ⟨j, h2, e2⟩ := toNat_mod (x := n) hQ
  obtain ⟨k, h3, e3⟩ := toNat_mod (x := m + n) hQ
  rw [h1, h2, h3, ← pw_add, ← pw_mod hP ha (i + j)]
  congr 1
  refine (nat_of_int (Q := Q) (by omega) ?_).symm
  rw [e3, Int.natCast_add, e1, e2, ← Int.add_emod]

theorem gpw_mul {P Q a : Int} (hP : 2 ≤ P) (hQ : 1 ≤ Q) (ha : elB P Q a = true) (m n : Int) : gpw P Q (gpw P Q a m) n = gpw P Q a (m * n) := by
  unfold gpw
  obtain ⟨i, h1, e1⟩ := toNat_mod (x := m) hQ
  obtain ⟨j, h2, e2⟩ := toNat_mod (x := n) hQ
  obtain ⟨k, h3, e3⟩ := toNat_mod (x := m * n) hQ
  rw [h1, h2, h3, ← pw_mul, ← pw_mod hP ha (i * j)]
  congr 1
  refine (nat_of_int (Q := Q) (by omega) ?_).symm
  rw [e3, Int.natCast_mul, e1, e2, ← Int.mul_emod]

theorem gpw_neg {P Q a : Int} (hQ : 1 ≤ Q) : gpw P Q a (-1) = pw a (Q.toNat - 1) P := by
  unfold gpw
  congr 1
  have : (-1 : Int) % Q = Q - 1 := by
    rw [← Int.add_emod_right (-1) Q, Int.emod_eq_of_lt (by omega) (by omega)]; omega
  omega

theorem gpw_mod {P Q a : Int} (hQ : 1 ≤ Q) (m : Int) : gpw P Q a (m.tmod Q) = gpw P Q a m := by
  unfold gpw
  congr 2
  rcases tmod_cases m Q hQ with ⟨_, h, _⟩ | ⟨_, h⟩
  · rw [show m.tmod Q = m % Q - Q by omega, Int.sub_emod_right, emod_self]
  · rw [h, emod_self]

theorem gpw_el {P Q a : Int} (hP : 2 ≤ P) (hQ : 1 ≤ Q) (ha : elB P Q a = true) (m : Int) : elB P Q (gpw P Q a m) = true := el_pw hP hQ ha _

theorem gpw_base_mod {P Q a m n : Int} (h : m % Q = n % Q) : gpw P Q a m = gpw P Q a n := by
  unfold gpw; rw [h]
end Go.Proofs.YtmbbnjbohnobcaaDoor
