/- Package draw: plain laws of numbers, and of lists of them. -/
import Derived.Test.YtdlcmpbpdbpanaaDoorMB18
namespace Go.Proofs.YtdlcmpbpdbpanaaDoor
open Go.RowKit Go.Sp

/-- A number that was drawn is in its range. -/
theorem numT_in {h : Nat → Int} {q : Int} (q0 : 1 ≤ q) : ∀ (n : Nat) (c x : Int), (numT h q n c x).2.2 = false → 0 ≤ (numT h q n c x).1 ∧ (numT h q n c x).1 < q
  | 0, c, x, _ => ⟨Int.emod_nonneg _ (by omega), Int.emod_lt_of_pos _ (by omega)⟩
  | n + 1, c, x, hf => by
    by_cases hc : c = 1099511627776
    · rw [numT, if_pos hc] at hf
      cases hf
    · rw [numT, if_neg hc] at hf ⊢
      by_cases hy : firK (shaB (posL h c)) 8 % 2 ^ maskN q < q
      · rw [if_pos hy]
        exact ⟨Int.emod_nonneg _ (by have : (0 : Int) < 2 ^ maskN q := Int.pow_pos (by decide); omega), hy⟩
      · rw [if_neg hy] at hf ⊢
        exact numT_in q0 n _ _ hf

/-- A number takes a block at least. -/
theorem numT_more {h : Nat → Int} {q : Int} (n : Nat) (c x : Int) (h0 : 0 ≤ c) (h1 : c ≤ 1099511627776) (hf : (numT h q (n + 1) c x).2.2 = false) : c < (numT h q (n + 1) c x).2.1 := by
  by_cases hc : c = 1099511627776
  · rw [numT, if_pos hc] at hf
    cases hf
  · rw [numT, if_neg hc]
    by_cases hy : firK (shaB (posL h c)) 8 % 2 ^ maskN q < q
    · rw [if_pos hy]
      simp only
      omega
    · rw [if_neg hy]
      have := (numT_range (h := h) (q := q) n (c + 1) (firK (shaB (posL h c)) 8 % 2 ^ maskN q) (by omega) (by omega)).1
      omega

/-- Where the counter is low there is a block. -/
theorem numT_low {h : Nat → Int} {q : Int} : ∀ (n : Nat) (c x : Int), c + n ≤ 1099511627776 → (numT h q n c x).2.2 = false ∧ (numT h q n c x).2.1 ≤ c + n
  | 0, c, x, _ => ⟨rfl, by rw [numT]; simp⟩
  | n + 1, c, x, hl => by
    rw [numT, if_neg (by omega)]
    split
    · exact ⟨rfl, by simp only; omega⟩
    · obtain ⟨h1, h2⟩ := numT_low (h := h) (q := q) n (c + 1) (firK (shaB (posL h c)) 8 % 2 ^ maskN q) (by omega)
      exact ⟨h1, by omega⟩

theorem nzT_low {h : Nat → Int} {q : Int} (q0 : 2 ≤ q) : ∀ (n : Nat) (c : Int), 0 ≤ c → c + 256 * n ≤ 1099511627776 → (nzT h q n c).2.2 = false ∧ (1 ≤ (nzT h q n c).1 ∧ (nzT h q n c).1 < q) ∧ (1 ≤ n → c < (nzT h q n c).2.1)
  | 0, c, _, _ => ⟨rfl, ⟨by rw [nzT]; simp, by rw [nzT]; simp only; omega⟩, fun h => by omega⟩
  | n + 1, c, h0, hl => by
    obtain ⟨f0, l0⟩ := numT_low (h := h) (q := q) 256 c 0 (by omega)
    have m0 : c < (numT h q 256 c 0).2.1 := numT_more (h := h) (q := q) 255 c 0 h0 (by omega) f0
    have r0 := numT_in (by omega) 256 c 0 f0
    by_cases hz : (numT h q 256 c 0).1 = 0
    · rw [nzT_next f0 hz]
      obtain ⟨i1, i2, i3⟩ := nzT_low q0 n (numT h q 256 c 0).2.1 (by omega) (by omega)
      refine ⟨i1, i2, fun _ => ?_⟩
      by_cases hn : 1 ≤ n
      · have := i3 hn
        omega
      · obtain rfl : n = 0 := by omega
        rw [nzT]
        exact m0
    · rw [nzT_num f0 hz]
      exact ⟨rfl, ⟨by simp only; omega, r0.2⟩, fun _ => m0⟩

/-- The bits of a power of 2. -/
theorem maskN_pow (n : Nat) (hn : n ≤ 61) : maskN (2 ^ n) = n := by
  unfold maskN
  have hp : 0 < (2 : Nat) ^ n := Nat.pow_pos (by decide)
  have e : ((2 : Int) ^ n - 1).toNat = 2 ^ n - 1 := by
    have : ((2 ^ n : Nat) : Int) = (2 : Int) ^ n := by simp
    omega
  rw [e]
  by_cases h0 : 2 ^ n - 1 = 0
  · have hn0 : n = 0 := by
      refine Nat.eq_zero_of_not_pos fun h => ?_
      have : 2 ^ 1 ≤ 2 ^ n := Nat.pow_le_pow_right (by decide) h
      omega
    subst hn0
    decide
  · have h64 : (2 : Nat) ^ n ≤ 2 ^ 61 := Nat.pow_le_pow_right (by decide) hn
    have hb := Lib.bitLenAux_bounds 64 (2 ^ n - 1) (by omega) h0
    change 1 ≤ Lib.bitLen (2 ^ n - 1) ∧ 2 ^ (Lib.bitLen (2 ^ n - 1) - 1) ≤ 2 ^ n - 1 ∧ 2 ^ n - 1 < 2 ^ Lib.bitLen (2 ^ n - 1) at hb
    generalize Lib.bitLen (2 ^ n - 1) = b at *
    obtain ⟨b1, b2, b3⟩ := hb
    have c1 : n ≤ b := (Nat.pow_le_pow_iff_right (by decide)).1 (show 2 ^ n ≤ 2 ^ b by omega)
    have c2 : b - 1 < n := (Nat.pow_lt_pow_iff_right (by decide)).1 (show 2 ^ (b - 1) < 2 ^ n by omega)
    omega

theorem numT_pow {h : Nat → Int} {n : Nat} (hn : n ≤ 61) {c : Int} (hc : c ≠ 1099511627776) : numT h (2 ^ n) 256 c 0 = (firK (shaB (posL h c)) 8 % 2 ^ n, c + 1, false) := by
  rw [numT, if_neg hc, maskN_pow n hn, if_pos (Int.emod_lt_of_pos _ (Int.pow_pos (by decide)))]

/-- The counter, and the flag, behind k numbers of a list; the number that comes next. -/
def lstC (h : Nat → Int) (q c : Int) : Nat → Int
  | 0 => c
  | k + 1 => (numT h q 256 (lstC h q c k) 0).2.1
def lstX (h : Nat → Int) (q c : Int) (k : Nat) : Int := (numT h q 256 (lstC h q c k) 0).1
def lstF (h : Nat → Int) (q c : Int) : Nat → Bool
  | 0 => false
  | k + 1 => (numT h q 256 (lstC h q c k) 0).2.2
def lstL (h : Nat → Int) (q c : Int) (n : Nat) : List Int := (List.range n).map (lstX h q c)

theorem lstC_range {h : Nat → Int} {q c : Int} (h0 : 0 ≤ c) (h1 : c ≤ 1099511627776) : ∀ k, 0 ≤ lstC h q c k ∧ lstC h q c k ≤ 1099511627776
  | 0 => ⟨h0, h1⟩
  | k + 1 => by
    obtain ⟨i0, i1⟩ := lstC_range h0 h1 k
    have := numT_range (h := h) (q := q) 256 (lstC h q c k) 0 i0 i1
    rw [lstC]
    omega
theorem numT_stuck {h : Nat → Int} {q : Int} : ∀ (n : Nat) (c x : Int), (numT h q n c x).2.2 = true → (numT h q n c x).2.1 = 1099511627776
  | 0, c, x, hf => by cases hf
  | n + 1, c, x, hf => by
    by_cases hc : c = 1099511627776
    · rw [numT, if_pos hc]; exact hc
    · rw [numT, if_neg hc] at hf ⊢
      split at hf
      · cases hf
      · rename_i hy
        rw [if_neg hy]
        exact numT_stuck n _ _ hf
theorem lstF_stuck {h : Nat → Int} {q c : Int} : ∀ k, lstF h q c k = true → lstC h q c k = 1099511627776
  | 0, hf => by cases hf
  | k + 1, hf => numT_stuck 256 _ _ hf
theorem lstF_on {h : Nat → Int} {q c : Int} {k : Nat} (hf : lstF h q c k = true) : lstF h q c (k + 1) = true := by
  rw [lstF, numT_most (by omega) (lstF_stuck k hf)]
theorem lstF_back {h : Nat → Int} {q c : Int} {n : Nat} (hf : lstF h q c n = false) : ∀ k, k ≤ n → lstF h q c k = false := by
  intro k hk
  induction n with
  | zero => obtain rfl : k = 0 := by omega
            rfl
  | succ n ih =>
    by_cases hkn : k = n + 1
    · rw [hkn]; exact hf
    · refine ih ?_ (by omega)
      cases hfn : lstF h q c n with
      | false => rfl
      | true => rw [lstF_on hfn] at hf; cases hf
theorem lstL_succ (h : Nat → Int) (q c : Int) (n : Nat) : lstL h q c (n + 1) = lstL h q c n ++ [lstX h q c n] := by
  unfold lstL
  rw [List.range_succ, List.map_append]
  rfl
theorem lstL_length (h : Nat → Int) (q c : Int) (n : Nat) : (lstL h q c n).length = n := by simp [lstL]
theorem lstL_get {h : Nat → Int} {q c : Int} {n k : Nat} (hk : k < n) : (lstL h q c n).getD k 0 = lstX h q c k := by
  unfold lstL
  simp [hk]
end Go.Proofs.YtdlcmpbpdbpanaaDoor
