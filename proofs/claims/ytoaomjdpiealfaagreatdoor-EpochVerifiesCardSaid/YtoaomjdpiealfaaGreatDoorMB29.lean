/- The table behind: a number below 2^20 that passes the test is a prime. A number below 2^20 that passes the test is a prime. The reference's elements of a small group. All elements of a small group: the powers of the generator, in order. slices.IsSorted of integers in order. -/
import Derived.Test.YtoaomjdpiealfaaGreatDoorMB1
import Derived.Test.YtoaomjdpiealfaaGreatDoorMB3
import Derived.Test.YtoaomjdpiealfaaGreatDoorMB4
import Derived.Test.YtoaomjdpiealfaaGreatDoorMB28
import Derived.Test.YtoaomjdpiealfaaGreatDoorMB19
import Derived.Test.YtoaomjdpiealfaaGreatDoorMB13
import Derived.BigQuiet
import Derived.IntWalk
namespace Go.Sp
/-- The strong test over naturals. -/
def sqsN (n : Nat) : Nat → Nat → Bool
  | _, 0 => false
  | x, k + 1 => x * x % n == n - 1 || sqsN n (x * x % n) k
def strongN (n a d s : Nat) : Bool := a ^ d % n == 1 || a ^ d % n == n - 1 || sqsN n (a ^ d % n) (s - 1)
def both (n : Nat) : Bool := strongN n 2 ((n - 1) / 2 ^ Lib.ctz 64 (n - 1)) (Lib.ctz 64 (n - 1)) && strongN n 3 ((n - 1) / 2 ^ Lib.ctz 64 (n - 1)) (Lib.ctz 64 (n - 1))
def primes12 : List Nat := [2, 3, 5, 7, 11, 13, 17, 19, 23, 29, 31, 37]
def ords : List (Nat × Nat) := [(41, 20), (43, 14), (47, 23), (53, 52), (59, 58), (61, 60), (67, 66), (71, 35), (73, 9), (79, 39), (83, 82), (89, 11), (97, 48), (101, 100), (103, 51), (107, 106), (109, 36), (113, 28), (127, 7), (131, 130), (137, 68), (139, 138), (149, 148), (151, 15), (157, 52), (163, 162), (167, 83), (173, 172), (179, 178), (181, 180), (191, 95), (193, 96), (197, 196), (199, 99), (211, 210), (223, 37), (227, 226), (229, 76), (233, 29), (239, 119), (241, 24), (251, 50), (257, 16), (263, 131), (269, 268), (271, 135), (277, 92), (281, 70), (283, 94), (293, 292), (307, 102), (311, 155), (313, 156), (317, 316), (331, 30), (337, 21), (347, 346), (349, 348), (353, 88), (359, 179), (367, 183), (373, 372), (379, 378), (383, 191), (389, 388), (397, 44), (401, 200), (409, 204), (419, 418), (421, 420), (431, 43), (433, 72), (439, 73), (443, 442), (449, 224), (457, 76), (461, 460), (463, 231), (467, 466), (479, 239), (487, 243), (491, 490), (499, 166), (503, 251), (509, 508), (521, 260), (523, 522), (541, 540), (547, 546), (557, 556), (563, 562), (569, 284), (571, 114), (577, 144), (587, 586), (593, 148), (599, 299), (601, 25), (607, 303), (613, 612), (617, 154), (619, 618), (631, 45), (641, 64), (643, 214), (647, 323), (653, 652), (659, 658), (661, 660), (673, 48), (677, 676), (683, 22), (691, 230), (701, 700), (709, 708), (719, 359), (727, 121), (733, 244), (739, 246), (743, 371), (751, 375), (757, 756), (761, 380), (769, 384), (773, 772), (787, 786), (797, 796), (809, 404), (811, 270), (821, 820), (823, 411), (827, 826), (829, 828), (839, 419), (853, 852), (857, 428), (859, 858), (863, 431), (877, 876), (881, 55), (883, 882), (887, 443), (907, 906), (911, 91), (919, 153), (929, 464), (937, 117), (941, 940), (947, 946), (953, 68), (967, 483), (971, 194), (977, 488), (983, 491), (991, 495), (997, 332), (1009, 504), (1013, 92), (1019, 1018), (1021, 340)]
def okQ (p : Nat × Nat) : Bool := p.1 != 0 && p.2 != 0 && 2 ^ p.2 % p.1 == 1 && (p.1 - 1) % p.2 == 0 && (List.range p.2).all (fun j => j == 0 || 2 ^ j % p.1 != 1) &&
  (List.range (1048576 / (p.1 * p.2) + 1)).all (fun i => Nat.blt (p.1 * (1 + p.2 * i)) (p.1 * p.1) || !both (p.1 * (1 + p.2 * i)))
set_option maxRecDepth 100000 in
theorem ords_ok : (ords).all okQ = true := by decide +kernel
theorem covered : (List.range 983).all (fun i => primes12.any (fun r => (41 + i) % r == 0) || ords.any (fun p => p.1 == 41 + i)) = true := by decide +kernel
end Go.Sp
namespace Go.Sp

theorem sqs_nat {n : Nat} (hn : 1 ≤ n) : ∀ (k x : Nat), sqs (n : Int) (x : Int) k = sqsN n x k
  | 0, _ => rfl
  | k + 1, x => by
    have h : (x : Int) * (x : Int) % (n : Int) = ((x * x % n : Nat) : Int) := by rw [Int.natCast_emod, Int.natCast_mul]
    simp only [sqs, sqsN]
    rw [h, sqs_nat hn k (x * x % n)]
    congr 1
    rw [Bool.eq_iff_iff]; simp; omega

theorem strong_nat {n : Nat} (hn : 1 ≤ n) (a d s : Nat) : strongB (n : Int) (a : Int) d s = strongN n a d s := by
  have h : pw (a : Int) d (n : Int) = ((a ^ d % n : Nat) : Int) := by rw [pw, Int.natCast_emod, Int.natCast_pow]
  simp only [strongB, strongN]
  rw [h, sqs_nat hn]
  generalize a ^ d % n = X
  have e1 : ((X : Int) == 1) = (X == 1) := by rw [Bool.eq_iff_iff]; simp; omega
  have e2 : ((X : Int) == (n : Int) - 1) = (X == n - 1) := by rw [Bool.eq_iff_iff]; simp; omega
  rw [e1, e2]

theorem sqsN_spec {n : Nat} : ∀ (k x : Nat), sqsN n x k = true → ∃ i, 1 ≤ i ∧ i ≤ k ∧ x ^ 2 ^ i % n = n - 1
  | 0, _, h => by cases h
  | k + 1, x, h => by
    simp only [sqsN, Bool.or_eq_true, beq_iff_eq] at h
    rcases h with h | h
    · exact ⟨1, by omega, by omega, by rw [show (2 : Nat) ^ 1 = 2 from rfl, Nat.pow_two]; exact h⟩
    · obtain ⟨i, h1, h2, h3⟩ := sqsN_spec k _ h
      refine ⟨i + 1, by omega, by omega, ?_⟩
      rw [show (2 : Nat) ^ (i + 1) = 2 * 2 ^ i by rw [Nat.pow_succ]; omega, Nat.pow_mul, Nat.pow_two, Nat.pow_mod, h3]

theorem one_of_neg {n x t : Nat} (hn : 2 ≤ n) (h : x % n = n - 1) (ht : 1 ≤ t) : x ^ 2 ^ t % n = 1 := by
  obtain ⟨u, rfl⟩ : ∃ u, t = u + 1 := ⟨t - 1, by omega⟩
  have h2 : x ^ 2 % n = 1 := by
    rw [Nat.pow_mod, h, Nat.pow_two]
    obtain ⟨m, rfl⟩ : ∃ m, n = m + 2 := ⟨n - 2, by omega⟩
    rw [show m + 2 - 1 = m + 1 by omega, show (m + 1) * (m + 1) = 1 + (m + 2) * m by grind, Nat.add_mul_mod_self_left]
    exact Nat.mod_eq_of_lt (by omega)
  rw [show (2 : Nat) ^ (u + 1) = 2 * 2 ^ u by rw [Nat.pow_succ]; omega, Nat.pow_mul, Nat.pow_mod, h2, Nat.one_pow]
  exact Nat.mod_eq_of_lt (by omega)

theorem fermat_of_strong {n d s : Nat} (hn : 2 ≤ n) (hs : 1 ≤ s) (h : strongN n 2 d s = true) : 2 ^ (2 ^ s * d) % n = 1 := by
  rw [Nat.mul_comm, Nat.pow_mul]
  simp only [strongN, Bool.or_eq_true, beq_iff_eq] at h
  rcases h with (h | h) | h
  · rw [Nat.pow_mod, h, Nat.one_pow]; exact Nat.mod_eq_of_lt (by omega)
  · exact one_of_neg hn h hs
  · obtain ⟨i, h1, h2, h3⟩ := sqsN_spec _ _ h
    rw [show s = i + (s - i) by omega, Nat.pow_add, Nat.pow_mul]
    refine one_of_neg hn ?_ (by omega)
    rw [Nat.pow_mod]; exact h3

theorem ord_dvd {q o m : Nat} (ho : 1 ≤ o) (h1 : 2 ^ o % q = 1) (hmin : ∀ j, j < o → j = 0 ∨ 2 ^ j % q ≠ 1) (hm : 2 ^ m % q = 1) : o ∣ m := by
  refine Nat.dvd_of_mod_eq_zero ?_
  have hlt := Nat.mod_lt m ho
  rcases hmin _ hlt with h | h
  · exact h
  · refine absurd ?_ h
    rw [← Nat.div_add_mod m o, Nat.pow_add, Nat.pow_mul, Nat.mul_mod, Nat.pow_mod, h1, Nat.one_pow] at hm
    by_cases hq : q = 1
    · subst hq; simp [Nat.mod_one] at hm
    · by_cases hq0 : q = 0
      · subst hq0; simpa using hm
      · rw [Nat.mod_eq_of_lt (show 1 < q by omega), Nat.one_mul, Nat.mod_mod] at hm; exact hm

theorem trial_dvd {n r : Int} (hr : r ∈ baseList) (hd : n % r = 0) : ∃ p ∈ baseList, trial baseList n = some (n == p) := by
  have key : ∀ l : List Int, (∃ r ∈ l, n % r = 0) → ∃ p ∈ l, trial l n = some (n == p) := by
    intro l
    induction l with
    | nil => rintro ⟨_, h, _⟩; cases h
    | cons p l ih =>
      rintro ⟨r, h, hr⟩
      by_cases hp : n % p = 0
      · exact ⟨p, by simp, by simp [trial, hp]⟩
      · have : ∃ r ∈ l, n % r = 0 := by
          rcases List.mem_cons.1 h with rfl | h
          · exact absurd hr hp
          · exact ⟨r, h, hr⟩
        obtain ⟨p', hp', ht⟩ := ih this
        exact ⟨p', List.mem_cons_of_mem _ hp', by simp [trial, hp, ht]⟩
  exact key _ ⟨r, hr, hd⟩

/-- What passes and is divided by one of the first primes is that prime. -/
theorem isP_base {n r : Int} (h : isP n = true) (hr : r ∈ baseList) (hd : n % r = 0) : n ∈ baseList := by
  have h2 := isP_two h
  obtain ⟨p, hp, ht⟩ := trial_dvd hr hd
  rw [isP, if_neg (by omega), ht] at h
  have : n = p := by simpa using h
  rw [this]; exact hp

theorem trial_none {n : Int} (h : ∀ r ∈ baseList, n % r ≠ 0) : trial baseList n = none := by
  have key : ∀ l : List Int, (∀ r ∈ l, n % r ≠ 0) → trial l n = none := by
    intro l
    induction l with
    | nil => intro _; rfl
    | cons p l ih => intro h; rw [trial, if_neg (h p (by simp))]; exact ih fun r hr => h r (by simp [hr])
  exact key _ h

theorem isP_strong {n a : Int} (h : isP n = true) (h0 : ∀ r ∈ baseList, n % r ≠ 0) (ha : a ∈ baseList) :
    strongB n a ((n - 1).toNat / 2 ^ Lib.ctz 64 (n - 1).toNat) (Lib.ctz 64 (n - 1).toNat) = true := by
  have h2 := isP_two h
  rw [isP, if_neg (by omega), trial_none h0] at h
  exact List.all_eq_true.1 h a ha

theorem base_cast {r : Nat} (h : r ∈ primes12) : (r : Int) ∈ baseList := by
  simp [primes12] at h
  rcases h with rfl | rfl | rfl | rfl | rfl | rfl | rfl | rfl | rfl | rfl | rfl | rfl <;> simp [baseList]

theorem base_le {n : Nat} (h : (n : Int) ∈ baseList) : n ∈ primes12 := by
  simp [baseList] at h
  simp [primes12]; omega

/-- A number below 2^20 that passes is a prime. -/
theorem small_prime {n : Nat} (h : isP (n : Int) = true) (hn : n < 1048576) {q : Nat} (hq : 2 ≤ q) (hqq : q * q ≤ n) : ¬ q ∣ n := by
  intro hd
  have hq2 : q < 1024 := by
    refine Nat.lt_of_not_le fun hle => ?_
    have := Nat.mul_le_mul hle hle
    omega
  by_cases hb : ∃ r ∈ primes12, r ∣ q
  · obtain ⟨r, hr, hrq⟩ := hb
    have hm := Nat.mod_eq_zero_of_dvd (Nat.dvd_trans hrq hd)
    have := base_le (isP_base h (base_cast hr) (by omega))
    have hqn : q < n := by
      refine Nat.lt_of_lt_of_le ?_ hqq
      exact Nat.lt_mul_self_iff.2 (by omega)
    have hmod := Nat.mod_eq_zero_of_dvd hd
    have hn38 : ∀ n ∈ primes12, n < 38 := by decide
    have key : ∀ n ∈ primes12, ∀ q, q < 38 → 2 ≤ q → q < n → n % q ≠ 0 := by decide
    have := hn38 n this
    exact key n ‹_› q (by omega) hq hqn hmod
  · have hb' : ∀ r ∈ primes12, q % r ≠ 0 := fun r hr h0 => hb ⟨r, hr, Nat.dvd_of_mod_eq_zero h0⟩
    have hq41 : 41 ≤ q := by
      refine Nat.le_of_not_lt fun hlt => ?_
      have key : ∀ q, q < 41 → 2 ≤ q → ∃ r ∈ primes12, q % r = 0 := by decide
      obtain ⟨r, hr, h0⟩ := key q hlt hq
      exact hb' r hr h0
    have hn1 : 1681 ≤ n := Nat.le_trans (Nat.mul_le_mul hq41 hq41) hqq
    have hnb : ∀ r ∈ baseList, (n : Int) % r ≠ 0 := by
      intro r hr h0
      have := base_le (isP_base h hr h0)
      have hn38 : ∀ n ∈ primes12, n < 38 := by decide
      have := hn38 n this
      omega
    obtain ⟨p, hp, hpq⟩ : ∃ p ∈ ords, p.1 = q := by
      have hc := List.all_eq_true.1 covered (q - 41) (List.mem_range.2 (by omega))
      rw [show 41 + (q - 41) = q by omega, Bool.or_eq_true] at hc
      rcases hc with hc | hc
      · obtain ⟨r, hr, h0⟩ := List.any_eq_true.1 hc
        exact absurd (by simpa using h0) (hb' r hr)
      · obtain ⟨p, hp, h0⟩ := List.any_eq_true.1 hc
        exact ⟨p, hp, by simpa using h0⟩
    have hk := List.all_eq_true.1 ords_ok p hp
    obtain ⟨q', o⟩ := p
    obtain rfl : q' = q := hpq
    simp only [okQ, Bool.and_eq_true, bne_iff_ne, ne_eq, beq_iff_eq, List.all_eq_true, List.mem_range, Bool.or_eq_true, Bool.not_eq_true', Nat.blt_eq] at hk
    obtain ⟨⟨⟨⟨⟨_, ho⟩, h1⟩, hqo⟩, hmin⟩, hcl⟩ := hk
    -- n = 2^s d + 1
    have hN : ((n : Int) - 1).toNat = n - 1 := by omega
    have S2 := isP_strong h hnb (a := 2) (by simp [baseList])
    have S3 := isP_strong h hnb (a := 3) (by simp [baseList])
    rw [hN] at S2 S3
    have T2 : strongN n 2 ((n - 1) / 2 ^ Lib.ctz 64 (n - 1)) (Lib.ctz 64 (n - 1)) = true := by rw [← strong_nat (by omega)]; exact S2
    have T3 : strongN n 3 ((n - 1) / 2 ^ Lib.ctz 64 (n - 1)) (Lib.ctz 64 (n - 1)) = true := by rw [← strong_nat (by omega)]; exact S3
    have hB : both n = true := by rw [both, T2, T3]; rfl
    have hcz : Lib.ctz 64 (n - 1) = Lib.ctzFrom 64 (n - 1) := by rw [Lib.ctz, if_neg (by omega)]
    obtain ⟨m, hm, _⟩ := Lib.ctzFrom_spec 64 (n - 1) (by omega) (by omega)
    rw [← hcz] at hm
    generalize Lib.ctz 64 (n - 1) = s at *
    have hs : 1 ≤ s := by
      refine Nat.pos_of_ne_zero fun h0 => ?_
      subst h0
      rw [Nat.pow_zero, Nat.one_mul] at hm
      exact hnb 2 (by simp [baseList]) (by omega)
    have hsd : 2 ^ s * ((n - 1) / 2 ^ s) = n - 1 := Nat.mul_div_cancel' ⟨_, hm⟩
    have hF := fermat_of_strong (by omega) hs T2
    rw [hsd] at hF
    have hFq : 2 ^ (n - 1) % q' = 1 := by
      rw [← Nat.mod_mod_of_dvd _ hd, hF]; exact Nat.mod_eq_of_lt (by omega)
    obtain ⟨u, hu⟩ := ord_dvd (by omega) h1 hmin hFq
    obtain ⟨k, rfl⟩ := hd
    obtain ⟨v, hv⟩ := Nat.dvd_of_mod_eq_zero hqo
    have hk1 : 1 ≤ k := by
      refine Nat.pos_of_ne_zero fun h0 => ?_
      subst h0
      simp at hn1
    have hko : o ∣ k - 1 := by
      have hx : o ∣ (q' - 1) * k := ⟨v * k, by rw [hv, Nat.mul_assoc]⟩
      refine (Nat.dvd_add_right hx).1 ⟨u, ?_⟩
      rw [← hu]
      obtain ⟨a, rfl⟩ : ∃ a, q' = a + 1 := ⟨q' - 1, by omega⟩
      rw [show a + 1 - 1 = a by omega, Nat.add_mul, Nat.one_mul]
      omega
    obtain ⟨i, hi⟩ := hko
    obtain rfl : k = 1 + o * i := by omega
    have hile : i < 1048576 / (q' * o) + 1 := by
      refine Nat.lt_succ_of_le ((Nat.le_div_iff_mul_le (Nat.mul_pos (by omega) (by omega))).2 ?_)
      refine Nat.le_trans ?_ (Nat.le_of_lt hn)
      rw [Nat.mul_comm i, Nat.mul_assoc]
      exact Nat.mul_le_mul_left _ (by omega)
    rcases hcl i hile with h2 | h2
    · omega
    · rw [hB] at h2; cases h2
end Go.Sp
namespace Go.Proofs.YtoaomjdpiealfaaGreatDoor
open Go.RowKit Go.Sp
set_option maxHeartbeats 1000000
set_option maxRecDepth 20000

/-- The elements among 1 .. i. -/
def found (P Q : Int) (i : Nat) : List Int := ((List.range i).map fun (j : Nat) => (j : Int) + 1).filter (elB P Q)

theorem found_succ (P Q : Int) (i : Nat) : found P Q (i + 1) = found P Q i ++ (if elB P Q (i + 1) = true then [(i : Int) + 1] else []) := by
  unfold found
  rw [List.range_succ, List.map_append, List.filter_append]
  congr 1
  simp [List.filter_cons]

theorem found_length (P Q : Int) (i : Nat) : (found P Q i).length ≤ i := by
  unfold found
  exact Nat.le_trans (List.length_filter_le _ _) (by simp)

theorem found_prefix (P Q : Int) {i j : Nat} (h : i ≤ j) : (found P Q i) <+: (found P Q j) := by
  obtain ⟨d, rfl⟩ : ∃ d, j = i + d := ⟨j - i, by omega⟩
  induction d with
  | zero => exact List.prefix_refl _
  | succ d ih =>
    refine List.IsPrefix.trans (ih (by omega)) ?_
    rw [show i + (d + 1) = i + d + 1 by omega, found_succ]
    exact List.prefix_append _ _

def RefElemOut (P Q : Int) (w : World) (e : Ending) (w' : World) : Prop :=
  ∃ v, e = .returned v ∧ OwnI w' w.heap.size v (found P Q (P - 1).toNat) ∧ Up w w'

end Go.Proofs.YtoaomjdpiealfaaGreatDoor
namespace Go.Proofs.YtoaomjdpiealfaaGreatDoor
open Go.Sp

theorem prim_of {n : Int} (h : isP n = true) (hn : n < 1048576) : Prim n.toNat := by
  have h2 := isP_two h
  refine ⟨by omega, fun q hq hqq => small_prime ?_ (by omega) hq hqq⟩
  rw [show ((n.toNat : Nat) : Int) = n by omega]; exact h

theorem mem_found {P Q x : Int} {n : Nat} : x ∈ found P Q n ↔ 1 ≤ x ∧ x ≤ n ∧ elB P Q x = true := by
  unfold found
  rw [List.mem_filter, List.mem_map]
  constructor
  · rintro ⟨⟨j, hj, rfl⟩, h⟩
    have := List.mem_range.1 hj
    exact ⟨by omega, by omega, h⟩
  · rintro ⟨h1, h2, h⟩
    exact ⟨⟨(x - 1).toNat, List.mem_range.2 (by omega), by omega⟩, h⟩

theorem found_lt (P Q : Int) (n : Nat) : (found P Q n).Pairwise (· < ·) := by
  unfold found
  refine List.Pairwise.filter _ (List.pairwise_map.2 ?_)
  exact List.Pairwise.imp (fun h => by omega) (List.pairwise_lt_range (n := n))

theorem perm_of_nodup : ∀ {xs ys : List Int}, xs.Nodup → ys.Nodup → (∀ x, x ∈ xs ↔ x ∈ ys) → xs.Perm ys
  | [], ys, _, _, h => by
    have : ys = [] := List.eq_nil_iff_forall_not_mem.2 fun x hx => by have := (h x).2 hx; cases this
    rw [this]
  | x :: xs, ys, hx, hy, h => by
    obtain ⟨hn, hx⟩ := List.nodup_cons.1 hx
    have hxy : x ∈ ys := (h x).1 (by simp)
    refine List.Perm.trans (List.Perm.cons x (perm_of_nodup hx (hy.erase x) fun y => ?_)) (List.perm_cons_erase hxy).symm
    rw [hy.mem_erase_iff]
    constructor
    · intro hm
      exact ⟨fun e => hn (e ▸ hm), (h y).1 (by simp [hm])⟩
    · rintro ⟨hne, hm⟩
      rcases List.mem_cons.1 ((h y).2 hm) with e | hm
      · exact absurd e hne
      · exact hm

theorem el_range {P Q x : Int} (h : elB P Q x = true) : 1 ≤ x ∧ x < P := ⟨(el_iff.1 h).1, (el_iff.1 h).2.1⟩

/-- The elements of a small group, in order. -/
theorem found_eq {P Q G : Int} (hg : gvB P Q G = true) (hP : P < 1048576) {a : Int} (ha : elB P Q a = true) (h1 : a ≠ 1) : isort (powList P a Q.toNat) = found P Q (P - 1).toNat := by
  have g := gv_iff.1 hg
  have g2 := g.P4
  have g3 := g.Q3
  have g4 := g.QP
  have hp := prim_of g.pP hP
  have hq := prim_of g.pQ (by omega)
  refine isort_eq (List.Pairwise.imp (fun h => by omega) (found_lt P Q _)) ?_
  show (pows P Q a).Perm _
  refine perm_of_nodup (pows_nodup (by omega) hq ha h1) (List.Pairwise.imp (fun h => by omega) (found_lt P Q _)) fun x => ?_
  rw [mem_found]
  constructor
  · intro hm
    have h := of_mem_pows (by omega) (by omega) ha hm
    have := el_range h
    exact ⟨by omega, by omega, h⟩
  · rintro ⟨_, _, h⟩
    exact mem_pows hp hq ha h1 h

theorem gen_el {P Q G : Int} (hg : gvB P Q G = true) : elB P Q G = true ∧ G ≠ 1 := by
  have g := gv_iff.1 hg
  have g5 := g.G2
  exact ⟨el_iff.2 ⟨by omega, g.GP, g.GQ⟩, by omega⟩

theorem found_count {P Q G : Int} (hg : gvB P Q G = true) (hP : P < 1048576) : (found P Q (P - 1).toNat).length = Q.toNat := by
  obtain ⟨h1, h2⟩ := gen_el hg
  rw [← found_eq hg hP h1 h2, isort_length, powList]
  simp
end Go.Proofs.YtoaomjdpiealfaaGreatDoor
namespace Go.Proofs.YtoaomjdpiealfaaGreatDoor
open Go.RowKit Go.Sp
set_option maxHeartbeats 1000000
set_option maxRecDepth 20000

theorem sorted_at {xs : List Int} (h : xs.Pairwise (· ≤ ·)) {k : Nat} (hk : k + 1 < xs.length) : xs.getD k 0 ≤ xs.getD (k + 1) 0 := by
  have := List.pairwise_iff_getElem.1 h k (k + 1) (by omega) hk (by omega)
  simpa [hk, show k < xs.length by omega] using this

end Go.Proofs.YtoaomjdpiealfaaGreatDoor
