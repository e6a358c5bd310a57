/- Baby steps and giant steps: the plain side. The statements of layer 10 on products and powers: walks. -/
import Derived.Test.YtdlcmpbpdbpanaaGreatDoorMUnlinkExplains19
import Derived.Test.YtdlcmpbpdbpanaaGreatDoorMUnlinkExplains25
import Derived.Test.YtdlcmpbpdbpanaaGreatDoorMUnlinkExplains9
import Derived.Maps.Own
import Derived.Maps.OwnOps
import Derived.Maps.OwnSet
import Derived.Maps.Views
namespace Go.Proofs.YtdlcmpbpdbpanaaGreatDoor
open Go.Sp Go.Maps

/-- The map after n baby steps. -/
def baby (H : Type) (P b x : Int) : Nat → DataW H
  | 0 => .map []
  | n + 1 => (baby H P b x n).put (.int .i64 (x * pw b n P % P)) (.lit (.int .i64 n))

theorem baby_isMap (H : Type) (P b x : Int) : ∀ n, IsMap (baby H P b x n)
  | 0 => isMap_empty
  | n + 1 => (baby_isMap H P b x n).put _ _

theorem baby_has {H : Type} {P b x : Int} : ∀ (n : Nat) (z : Int), Maps.has (baby H P b x n) (.int .i64 z) = true → ∃ j, j < n ∧ z = x * pw b j P % P ∧ ∀ z0, (baby H P b x n).atKey (.int .i64 z) z0 = .lit (.int .i64 j)
  | 0, z, h => by simp [baby, Maps.has] at h
  | n + 1, z, h => by
    by_cases he : z = x * pw b n P % P
    · refine ⟨n, by omega, he, fun z0 => ?_⟩
      rw [he]
      exact atKey_put_same (k := .int .i64 (x * pw b n P % P)) (baby_isMap H P b x n) (show WideAt.IsKeyLit (.int .i64 (x * pw b n P % P)) from True.intro) _ _
    · have hne : Lit.int .i64 z ≠ Lit.int .i64 (x * pw b n P % P) := fun e => he (by injection e)
      rw [baby, has_put_other hne] at h
      obtain ⟨j, hj, hz, ha⟩ := baby_has n z h
      exact ⟨j, by omega, hz, fun z0 => by rw [baby, atKey_put_other hne]; exact ha z0⟩

theorem baby_there {H : Type} {P b x : Int} : ∀ (n j : Nat), j < n → Maps.has (baby H P b x n) (.int .i64 (x * pw b j P % P)) = true
  | n + 1, j, hj => by
    by_cases he : x * pw b j P % P = x * pw b n P % P
    · rw [he]
      exact has_put_same (k := .int .i64 (x * pw b n P % P)) (baby_isMap H P b x n) (show WideAt.IsKeyLit (.int .i64 (x * pw b n P % P)) from True.intro) _
    · have hne : Lit.int .i64 (x * pw b j P % P) ≠ Lit.int .i64 (x * pw b n P % P) := fun e => he (by injection e)
      rw [baby, has_put_other hne]
      refine baby_there n j ?_
      refine Nat.lt_of_le_of_ne (by omega) fun e => he (by rw [e])

/-- Where a giant step meets a baby step, the logarithm is their difference. -/
theorem meets {P Q b x : Int} (hP : 2 ≤ P) (hQ : 1 ≤ Q) (hb : elB P Q b = true) (hx : elB P Q x = true) {k j : Nat} (h : pw b (1024 * k) P = x * pw b j P % P) :
    pw b (((k : Int) * 1024 - j) % Q).toNat P = x := by
  have hbQ := (el_iff.1 hb).2.2
  obtain ⟨x0, x1, _⟩ := el_iff.1 hx
  -- b^(1024 k) * b^(Q-j mod ..) = x
  obtain ⟨t, ht⟩ : ∃ t : Nat, Q * (j : Int) - j = t := ⟨(Q * (j : Int) - j).toNat, by
    have : 1 * (j : Int) ≤ Q * j := Int.mul_le_mul_of_nonneg_right hQ (by omega)
    omega⟩
  have e1 : pw b (1024 * k + t) P = x := by
    rw [pw_add, h, emul (emod_self (x * pw b j P) P) (rfl : pw b t P % P = pw b t P % P), Int.mul_assoc, ← emul (rfl : x % P = x % P) (emod_self (pw b j P * pw b t P) P), ← pw_add]
    have : j + t = Q.toNat * j := by
      obtain ⟨q, rfl⟩ : ∃ q : Nat, Q = q := ⟨Q.toNat, by omega⟩
      rw [Int.toNat_natCast]
      have : ((j + t : Nat) : Int) = ((q * j : Nat) : Int) := by rw [Int.natCast_add, Int.natCast_mul]; omega
      exact_mod_cast this
    rw [this, pw_mul, hbQ, pw_one_base, Int.emod_eq_of_lt (show (0 : Int) ≤ 1 by omega) (by omega), Int.mul_one]
    exact Int.emod_eq_of_lt (by omega) x1
  rw [← e1, ← pw_mod hP hb (1024 * k + t)]
  congr 1
  obtain ⟨u, h1, e2⟩ := toNat_mod (x := (k : Int) * 1024 - j) hQ
  rw [h1]
  refine nat_of_int (Q := Q) (by omega) ?_
  rw [e2, show ((1024 * k + t : Nat) : Int) = ((k : Int) * 1024 - j) + Q * j by rw [Int.natCast_add, ← ht, Int.natCast_mul]; omega, Int.add_mul_emod_self_left]
end Go.Proofs.YtdlcmpbpdbpanaaGreatDoor
namespace Go.Proofs.YtdlcmpbpdbpanaaGreatDoor
open Go.RowKit Go.Sp
set_option maxHeartbeats 1000000

end Go.Proofs.YtdlcmpbpdbpanaaGreatDoor
