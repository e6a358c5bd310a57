/- Tables of powers: the plain side. -/
import Derived.Test.YtmbbnjbohnobcaaDoorProdB
namespace Go.Proofs.YtmbbnjbohnobcaaDoor
open Go.Sp

/-- How many hexadecimal digits a number has, at most f. -/
def hexlen : Nat → Nat → Nat
  | 0, _ => 0
  | f + 1, n => if n = 0 then 0 else hexlen f (n / 16) + 1

theorem hexlen_zero (f : Nat) : hexlen f 0 = 0 := by cases f <;> simp [hexlen]
theorem hexlen_le : ∀ (f n : Nat), hexlen f n ≤ f
  | 0, _ => Nat.le_refl _
  | f + 1, n => by
    rw [hexlen]
    split
    · omega
    · have := hexlen_le f (n / 16); omega
theorem hexlen_step {f n : Nat} (h : n ≠ 0) (hl : n < 16 ^ f) : ∃ g, f = g + 1 ∧ n / 16 < 16 ^ g ∧ hexlen f n = hexlen g (n / 16) + 1 := by
  cases f with
  | zero => simp at hl; omega
  | succ g => exact ⟨g, rfl, by rw [Nat.pow_succ] at hl; omega, by rw [hexlen, if_neg h]⟩
theorem hexlen_mono : ∀ (f m n : Nat), m ≤ n → hexlen f m ≤ hexlen f n
  | 0, _, _, _ => Nat.le_refl _
  | f + 1, m, n, h => by
    rw [hexlen, hexlen]
    by_cases hm : m = 0
    · rw [if_pos hm]; omega
    · rw [if_neg hm, if_neg (by omega)]
      have := hexlen_mono f (m / 16) (n / 16) (by omega)
      omega

/-- The digits of the greatest exponent. -/
def digs (Q : Int) : Nat := hexlen 16 (Q - 1).toNat

theorem digs_le (Q : Int) : digs Q ≤ 16 := hexlen_le 16 _

/-- The table of an element: for each digit its powers by 0 to 15; the next digit's element is its sixteenth power. -/
def tabL (P : Int) : Nat → Int → List Int
  | 0, _ => []
  | n + 1, s => powList16 P s 16 ++ tabL P n (pw s 16 P)
where powList16 (P s : Int) (n : Nat) : List Int := (List.range n).map fun i => pw s i P

theorem pl16_len (P s : Int) (n : Nat) : (tabL.powList16 P s n).length = n := by simp [tabL.powList16]
theorem pl16_succ (P s : Int) (n : Nat) : tabL.powList16 P s (n + 1) = tabL.powList16 P s n ++ [pw s n P] := by simp [tabL.powList16, List.range_succ]
theorem pl16_zero (P s : Int) : tabL.powList16 P s 0 = [] := rfl

theorem tabL_len (P : Int) : ∀ (n : Nat) (s : Int), (tabL P n s).length = 16 * n
  | 0, _ => rfl
  | n + 1, s => by rw [tabL, List.length_append, pl16_len, tabL_len P n]; omega

theorem tabL_get (P : Int) : ∀ (n : Nat) (s : Int) (j d : Nat), j < n → d < 16 → (tabL P n s).getD (16 * j + d) 0 = pw (pw s (16 ^ j) P) d P
  | n + 1, s, 0, d, _, hd => by
    rw [tabL, List.getD_eq_getElem?_getD, List.getElem?_append_left (by rw [pl16_len]; omega)]
    have h1 : pw (pw s (16 ^ 0) P) d P = pw s d P := by rw [← pw_mul]; simp
    rw [h1]
    simp [tabL.powList16, hd]
  | n + 1, s, j + 1, d, hj, hd => by
    rw [tabL, List.getD_eq_getElem?_getD, List.getElem?_append_right (by rw [pl16_len]; omega), pl16_len, ← List.getD_eq_getElem?_getD,
      show 16 * (j + 1) + d - 16 = 16 * j + d by omega, tabL_get P n (pw s 16 P) j d (by omega) hd]
    congr 1
    rw [← pw_mul, Nat.pow_succ, Nat.mul_comm]

theorem tabL_el {P Q : Int} (hP : 2 ≤ P) (hQ : 1 ≤ Q) : ∀ (n : Nat) (s : Int), elB P Q s = true → ∀ x ∈ tabL P n s, elB P Q x = true
  | 0, _, _, _, h => by cases h
  | n + 1, s, hs, x, h => by
    rw [tabL] at h
    rcases List.mem_append.1 h with h | h
    · obtain ⟨i, _, rfl⟩ := List.mem_map.1 h
      exact el_pw hP hQ hs i
    · exact tabL_el hP hQ n _ (el_pw hP hQ hs 16) x h

/-- The power by a table: what is left. -/
def digPow (P s : Int) (j e : Nat) (o : Int) : Int := o * pw (pw s (16 ^ j) P) e P % P

theorem digPow_step (P s : Int) (j e : Nat) (o : Int) : digPow P s (j + 1) (e / 16) (o * pw (pw s (16 ^ j) P) (e % 16) P % P) = digPow P s j e o := by
  unfold digPow
  rw [mul_assoc']
  congr 2
  rw [Nat.pow_succ, pw_mul, ← pw_mul (pw s (16 ^ j) P), ← pw_add, Nat.mod_add_div]

theorem digPow_end {P Q s o : Int} {j : Nat} (ho : elB P Q o = true) (hP : 2 ≤ P) : digPow P s j 0 o = o := by
  unfold digPow
  rw [pw_zero, Int.emod_eq_of_lt (show (0 : Int) ≤ 1 by omega) (by omega), Int.mul_one]
  exact el_lt ho

theorem digPow_start {P Q s : Int} {e : Nat} (hP : 2 ≤ P) (hs : elB P Q s = true) (he : (e : Int) < Q) : digPow P s 0 e 1 = gpw P Q s e := by
  unfold digPow gpw
  rw [Int.one_mul, Nat.pow_zero, pw_one_exp (by have := (el_iff.1 hs).1; omega) (el_iff.1 hs).2.1, Int.emod_eq_of_lt (by omega) he, Int.toNat_natCast]
  exact Int.emod_eq_of_lt (pw_nonneg _ _ (by omega)) (pw_lt _ _ (by omega))
end Go.Proofs.YtmbbnjbohnobcaaDoor
