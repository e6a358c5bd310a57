/- The samples are valid groups: by the kernel's numbers. -/
import Derived.Test.YtldodbffdegmiaaDoorSmall
import Derived.Test.YtldodbffdegmiaaDoorSamples
namespace Go.Sp

def pmN (m : Nat) : Nat → Nat → Nat → Nat → Nat
  | 0, x, _, _ => x
  | f + 1, x, a, e => if e = 0 then x else pmN m f (if e % 2 = 1 then x * a % m else x) (a * a % m) (e / 2)

theorem pmN_spec {m : Nat} (hm : 0 < m) : ∀ (f x a e : Nat), e < 2 ^ f → x < m → pmN m f x a e = x * a ^ e % m
  | 0, x, a, e, he, hx => by
    have : e = 0 := by simpa using he
    subst this
    simp [pmN, Nat.mod_eq_of_lt hx]
  | f + 1, x, a, e, he, hx => by
    unfold pmN
    by_cases h0 : e = 0
    · subst h0; simp [Nat.mod_eq_of_lt hx]
    · rw [if_neg h0]
      have hlt : e / 2 < 2 ^ f := by rw [Nat.pow_succ] at he; omega
      have hsq : a ^ (2 * (e / 2)) = (a * a) ^ (e / 2) := by rw [Nat.pow_mul, Nat.pow_two]
      by_cases h1 : e % 2 = 1
      · rw [if_pos h1, pmN_spec hm f _ _ _ hlt (Nat.mod_lt _ hm)]
        have he2 : a ^ e = a * (a * a) ^ (e / 2) := by
          rw [← hsq, ← Nat.pow_succ', show (2 * (e / 2)).succ = e by omega]
        rw [he2, ← Nat.mul_assoc, Nat.mul_mod, Nat.mod_mod, ← Nat.pow_mod, ← Nat.mul_mod]
      · rw [if_neg h1, pmN_spec hm f _ _ _ hlt hx]
        have he2 : a ^ e = (a * a) ^ (e / 2) := by rw [← hsq, show 2 * (e / 2) = e by omega]
        rw [he2, Nat.mul_mod, ← Nat.pow_mod, ← Nat.mul_mod]

theorem pmN_one {n a d : Nat} (hn : 2 ≤ n) (hd : d < 2 ^ 64) : pmN n 64 1 a d = a ^ d % n := by
  rw [pmN_spec (by omega) 64 1 a d hd (by omega), Nat.one_mul]

def strongF (n a d s : Nat) : Bool := pmN n 64 1 a d == 1 || pmN n 64 1 a d == n - 1 || sqsN n (pmN n 64 1 a d) (s - 1)
def isPN (n : Nat) : Bool := Nat.ble 2 n && Nat.blt n (2 ^ 64) && (match trial baseList (n : Int) with | some b => b | none => primes12.all fun a => strongF n a ((n - 1) / 2 ^ Lib.ctz 64 (n - 1)) (Lib.ctz 64 (n - 1)))

theorem isP_fast {n : Nat} (h : isPN n = true) : isP (n : Int) = true := by
  simp only [isPN, Bool.and_eq_true, Nat.ble_eq, Nat.blt_eq] at h
  obtain ⟨⟨h2, h64⟩, h⟩ := h
  rw [isP, if_neg (by omega)]
  cases ht : trial baseList (n : Int) with
  | some b => rw [ht] at h; exact h
  | none =>
    rw [ht] at h
    have hN : ((n : Int) - 1).toNat = n - 1 := by omega
    rw [hN]
    have hb : baseList = primes12.map fun a => ((a : Nat) : Int) := by decide
    rw [hb, List.all_map]
    refine List.all_eq_true.2 fun a ha => ?_
    have := List.all_eq_true.1 h a ha
    show strongB (n : Int) (a : Int) _ _ = true
    rw [strong_nat (by omega)]
    rw [strongF, pmN_one h2 (Nat.lt_of_le_of_lt (Nat.div_le_self _ _) (by omega))] at this
    exact this

def gvN (P Q G : Nat) : Bool := Nat.blt P 2305843009213693952 && Nat.ble 3 Q && Q % 2 == 1 && isPN P && isPN Q && (P - 1) % Q == 0 && Nat.ble 2 G && Nat.blt G P && pmN P 64 1 G Q == 1

theorem gv_fast {P Q G : Nat} (h : gvN P Q G = true) : gvB P Q G = true := by
  simp only [gvN, Bool.and_eq_true, Nat.ble_eq, Nat.blt_eq, beq_iff_eq] at h
  obtain ⟨⟨⟨⟨⟨⟨⟨⟨h1, h2⟩, h3⟩, h4⟩, h5⟩, h6⟩, h7⟩, h8⟩, h9⟩ := h
  have hq : Q < 2 ^ 64 := by
    simp only [isPN, Bool.and_eq_true, Nat.ble_eq, Nat.blt_eq] at h5
    exact h5.1.2
  rw [pmN_one (by omega) hq] at h9
  have hpw : pw (G : Int) (Q : Int).toNat (P : Int) = 1 := by
    rw [pw, Int.toNat_natCast, ← Int.natCast_pow, ← Int.natCast_emod, h9]; rfl
  have hdv : ((P : Int) - 1) % (Q : Int) = 0 := by
    rw [show (P : Int) - 1 = ((P - 1 : Nat) : Int) by omega, ← Int.natCast_emod, h6]; rfl
  simp only [gvB, Bool.and_eq_true, decide_eq_true_eq]
  exact ⟨⟨⟨⟨⟨⟨⟨⟨by omega, by omega⟩, by omega⟩, isP_fast h4⟩, isP_fast h5⟩, hdv⟩, by omega⟩, by omega⟩, hpw⟩
end Go.Sp
namespace Go.Proofs.YtldodbffdegmiaaDoor
open Go.Sp
set_option maxRecDepth 20000 in
theorem nine_good : GoodL nine := by
  have key : ∀ i, i < 9 → gvB (nine.getD i (0, 0, 0)).1 (nine.getD i (0, 0, 0)).2.1 (nine.getD i (0, 0, 0)).2.2 = true := by
    intro i hi
    have : i = 0 ∨ i = 1 ∨ i = 2 ∨ i = 3 ∨ i = 4 ∨ i = 5 ∨ i = 6 ∨ i = 7 ∨ i = 8 := by omega
    rcases this with rfl | rfl | rfl | rfl | rfl | rfl | rfl | rfl | rfl
    · exact gv_fast (P := 7) (Q := 3) (G := 2) (by decide +kernel)
    · exact gv_fast (P := 11) (Q := 5) (G := 4) (by decide +kernel)
    · exact gv_fast (P := 23) (Q := 11) (G := 4) (by decide +kernel)
    · exact gv_fast (P := 47) (Q := 23) (G := 4) (by decide +kernel)
    · exact gv_fast (P := 107) (Q := 53) (G := 4) (by decide +kernel)
    · exact gv_fast (P := 227) (Q := 113) (G := 4) (by decide +kernel)
    · exact gv_fast (P := 2039) (Q := 1019) (G := 4) (by decide +kernel)
    · exact gv_fast (P := 2097143) (Q := 1048571) (G := 4) (by decide +kernel)
    · exact gv_fast (P := 2147483579) (Q := 1073741789) (G := 4) (by decide +kernel)
  intro i hi
  have h := key i (by simpa [nine] using hi)
  have g := gv_iff.1 h
  have := g.P4
  have := g.QP
  have := g.P61
  exact ⟨by omega, by omega, h⟩
end Go.Proofs.YtldodbffdegmiaaDoor
