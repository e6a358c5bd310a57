/- Slices of integers of the call's own: what an append leaves. Primes; at most Q roots; all elements are powers. The table behind: a number below 2^20 that passes the test is a prime. A number below 2^20 that passes the test is a prime. -/
import Derived.Test.YtdlcmpbpdbpanaaDoorMB10
import Derived.Test.YtdlcmpbpdbpanaaDoorMB14
import Derived.Test.YtdlcmpbpdbpanaaDoorMB11
import Derived.Test.YtdlcmpbpdbpanaaDoorMB6
namespace Go.Proofs.YtdlcmpbpdbpanaaDoor
open Go.RowKit Go.Sp

theorem OwnI.shape {w : World} {base : Nat} {v : Value} {xs : List Int} (h : OwnI w base v xs) : ∃ p cap, v = .slice p xs.length cap := by
  rcases h.2 with ⟨hv, hn⟩ | ⟨g, cap, cur, rfl, _⟩
  · exact ⟨none, 0, by rw [hv, hn]⟩
  · exact ⟨_, cap, rfl⟩

theorem OwnI.block {w : World} {base : Nat} {v : Value} {xs : List Int} (h : OwnI w base v xs) (k : Nat) (hk : v.ownBlock = some k) : base ≤ k := by
  rcases h.2 with ⟨hv, _⟩ | ⟨g, cap, cur, rfl, hb, _⟩
  · rw [hv] at hk; cases hk
  · simp [Value.ownBlock] at hk; omega

theorem GrpAt.below {w w' : World} {B b : Nat} {P Q G : Int} (h : GrpAt w b P Q G) (hb : b < B) (hU : Below B w w') : GrpAt w' b P Q G := by
  obtain ⟨q0, q1, q2⟩ := h
  exact ⟨by rw [hU.cell hb]; exact q0, by rw [hU.cell hb]; exact q1, by rw [hU.cell hb]; exact q2⟩

/-- What an append of one number to a list of one's own leaves. -/
theorem appended {w w1 w2 : World} {base n : Nat} {v v' : Value} {xs : List Int} {x : Int} {o : Obj} (hl : xs.length = n) (h : OwnI w1 base v xs) (hown : w2.ownsRow base 3 1 v' (n + 1) (xs.map (Value.int .i64) ++ [Value.int .i64 x])) (hgr : (w1.alloc o).grownBy w2 v.ownBlock) (hU : Up w w1) (hw : w.heap.size ≤ base) (hb : base ≤ w1.heap.size) :
    OwnI w2 base v' (xs ++ [x]) ∧ Up w w2 ∧ Below base w1 w2 := by
  refine ⟨?_, up_grown (hU.alloc _) hgr fun k hk => Nat.le_trans hw (h.block k hk), Below.grown (Below.alloc (Below.refl base w1) hb o) hgr (by simp; omega) fun k hk => h.block k hk⟩
  unfold OwnI
  rw [List.length_append, hl, List.map_append]
  exact hown

theorem OwnI.row {w : World} {base n : Nat} {v : Value} {xs : List Int} (h : OwnI w base v xs) (hl : xs.length = n) : w.ownsRow base 3 1 v n (xs.map (Value.int .i64)) := by
  subst hl
  exact h

theorem OwnI.slice {w : World} {base : Nat} {v : Value} {xs : List Int} (h : OwnI w base v xs) : ∃ p n cap, v = .slice p n cap := by
  obtain ⟨p, cap, hv⟩ := h.shape
  exact ⟨p, _, cap, hv⟩
end Go.Proofs.YtdlcmpbpdbpanaaDoor
namespace Go.Sp

/-- A prime. -/
def Prim (n : Nat) : Prop := 2 ≤ n ∧ ∀ q, 2 ≤ q → q * q ≤ n → ¬ q ∣ n

theorem Prim.div {n g : Nat} (h : Prim n) (hg : g ∣ n) : g = 1 ∨ g = n := by
  obtain ⟨c, hc⟩ := hg
  have h2 := h.1
  by_cases g1 : g = 1
  · exact Or.inl g1
  by_cases c1 : c = 1
  · right; rw [hc, c1, Nat.mul_one]
  have g0 : g ≠ 0 := fun h0 => by rw [h0, Nat.zero_mul] at hc; omega
  have c0 : c ≠ 0 := fun h0 => by rw [h0, Nat.mul_zero] at hc; omega
  exfalso
  rcases Nat.le_total g c with hle | hle
  · exact h.2 g (by omega) (by rw [hc]; exact Nat.mul_le_mul_left g hle) ⟨c, hc⟩
  · exact h.2 c (by omega) (by rw [hc]; exact Nat.mul_le_mul_right c hle) ⟨g, by rw [hc, Nat.mul_comm]⟩

theorem Prim.eu {n a b : Nat} (h : Prim n) (hd : n ∣ a * b) : n ∣ a ∨ n ∣ b := by
  rcases h.div (Nat.gcd_dvd_left n a) with h1 | h1
  · exact Or.inr ((show Nat.Coprime n a from h1).dvd_of_dvd_mul_left hd)
  · left; rw [← h1]; exact Nat.gcd_dvd_right n a

theorem Prim.eui {n : Nat} {a b : Int} (h : Prim n) (hd : (n : Int) ∣ a * b) : (n : Int) ∣ a ∨ (n : Int) ∣ b := by
  have h1 : n ∣ a.natAbs * b.natAbs := by
    rw [← Int.natAbs_mul]
    exact Int.ofNat_dvd_left.1 hd
  rcases h.eu h1 with h2 | h2
  · exact Or.inl (Int.ofNat_dvd_left.2 h2)
  · exact Or.inr (Int.ofNat_dvd_left.2 h2)

/-- A polynomial of degree n, the leading coefficient 1. -/
def Monic : Nat → (Int → Int) → Prop
  | 0, f => ∀ x, f x = 1
  | n + 1, f => ∃ c g, Monic n g ∧ ∀ x, f x = c + x * g x

theorem Monic.low : ∀ (n : Nat) (f h : Int → Int) (r : Int), Monic (n + 1) f → Monic n h → Monic (n + 1) (fun x => f x + r * h x)
  | 0, f, h, r, ⟨c, g, hg, hf⟩, hh => ⟨c + r, g, hg, fun x => by simp only [hf x, hh x]; omega⟩
  | n + 1, f, h, r, ⟨c, g, hg, hf⟩, ⟨d, k, hk, hh⟩ => ⟨c + r * d, _, Monic.low n g k r hg hk, fun x => by simp only [hf x, hh x]; grind⟩

theorem Monic.split : ∀ (n : Nat) (f : Int → Int) (r : Int), Monic (n + 1) f → ∃ g, Monic n g ∧ ∀ x, f x - f r = (x - r) * g x
  | 0, f, r, ⟨c, g, hg, hf⟩ => ⟨g, hg, fun x => by rw [hf x, hf r, hg x, hg r]; omega⟩
  | n + 1, f, r, ⟨c, g, hg, hf⟩ => by
    obtain ⟨h, hh, he⟩ := Monic.split n g r hg
    refine ⟨_, Monic.low n g h r hg hh, fun x => ?_⟩
    have := he x
    rw [hf x, hf r]
    grind

theorem Monic.roots {P : Nat} (hP : Prim P) : ∀ (n : Nat) (f : Int → Int), Monic n f → ∀ xs : List Int, xs.Nodup → (∀ x ∈ xs, 0 ≤ x ∧ x < P ∧ (P : Int) ∣ f x) → xs.length ≤ n
  | 0, f, hf, [], _, _ => by simp
  | 0, f, hf, x :: xs, _, hx => by
    obtain ⟨_, _, h⟩ := hx x (by simp)
    rw [hf x] at h
    have := Int.le_of_dvd (by omega) h
    have := hP.1
    omega
  | n + 1, f, hf, [], _, _ => by simp
  | n + 1, f, hf, r :: xs, hn, hx => by
    obtain ⟨g, hg, he⟩ := Monic.split n f r hf
    obtain ⟨hr, hn⟩ := List.nodup_cons.1 hn
    have := Monic.roots hP n g hg xs hn fun x hxm => by
      obtain ⟨r0, r1, rd⟩ := hx r (by simp)
      obtain ⟨x0, x1, xd⟩ := hx x (by simp [hxm])
      refine ⟨x0, x1, ?_⟩
      have hd : (P : Int) ∣ (x - r) * g x := by rw [← he x]; exact Int.dvd_sub xd rd
      rcases hP.eui hd with h | h
      · exfalso
        obtain ⟨k, hk⟩ := h
        have : x ≠ r := fun e => hr (e ▸ hxm)
        have hk0 : k = 0 := by
          refine Int.le_antisymm (Int.not_lt.1 fun hlt => ?_) (Int.not_lt.1 fun hlt => ?_)
          · have : (P : Int) * 1 ≤ P * k := Int.mul_le_mul_of_nonneg_left (by omega) (by omega)
            omega
          · have : (P : Int) * k ≤ P * (-1) := Int.mul_le_mul_of_nonneg_left (by omega) (by omega)
            omega
        rw [hk0] at hk; omega
      · exact h
    simp; omega

theorem monic_pow : ∀ n : Nat, Monic n (fun x => x ^ n)
  | 0 => fun x => by simp
  | n + 1 => ⟨0, fun x => x ^ n, monic_pow n, fun x => by simp only [Int.pow_succ]; rw [Int.mul_comm]; omega⟩

theorem monic_root {n : Nat} (hn : 1 ≤ n) : Monic n (fun x => x ^ n - 1) := by
  obtain ⟨m, rfl⟩ : ∃ m, n = m + 1 := ⟨n - 1, by omega⟩
  obtain ⟨c, g, hg, hf⟩ := monic_pow (m + 1)
  exact ⟨c - 1, g, hg, fun x => by have := hf x; simp only at this ⊢; omega⟩

/-- At most Q residues have the Q-th power 1. -/
theorem few_roots {P Q : Int} (hP : Prim P.toNat) (hQ : 1 ≤ Q) (xs : List Int) (hn : xs.Nodup) (hx : ∀ x ∈ xs, elB P Q x = true) : xs.length ≤ Q.toNat := by
  have h2 := hP.1
  refine Monic.roots hP Q.toNat _ (monic_root (by omega)) xs hn fun x hm => ?_
  obtain ⟨x0, x1, x2⟩ := el_iff.1 (hx x hm)
  refine ⟨by omega, by omega, ?_⟩
  rw [show ((P.toNat : Nat) : Int) = P by omega]
  rw [pw] at x2
  exact Int.dvd_of_emod_eq_zero (by rw [Int.sub_emod, x2]; simp)

/-- A power that is 1 divides: of a prime order. -/
theorem pw_one_of {P Q a : Int} (hP : 2 ≤ P) (hQ : Prim Q.toNat) (ha : elB P Q a = true) {k : Nat} (h0 : 0 < k) (h1 : k < Q.toNat) (hk : pw a k P = 1) : a = 1 := by
  obtain ⟨a0, a1, a2⟩ := el_iff.1 ha
  have hE : ∃ o : Nat, 0 < o ∧ pw a o P = 1 := ⟨k, h0, hk⟩
  have low : ∀ m : Nat, 0 < m → pw a m P = 1 → ∃ o, 0 < o ∧ o ≤ m ∧ pw a o P = 1 ∧ ∀ j, 0 < j → j < o → pw a j P ≠ 1 := by
    intro m
    induction m using Nat.strongRecOn with
    | _ m ih =>
      intro hm h
      by_cases hj : ∃ j, 0 < j ∧ j < m ∧ pw a j P = 1
      · obtain ⟨j, j0, j1, j2⟩ := hj
        obtain ⟨o, h1, h2, h3⟩ := ih j j1 j0 j2
        exact ⟨o, h1, by omega, h3⟩
      · exact ⟨m, hm, by omega, h, fun j j0 j1 j2 => hj ⟨j, j0, j1, j2⟩⟩
  obtain ⟨o, o0, o1, o2, o3⟩ := low k h0 hk
  have dv : ∀ m : Nat, pw a m P = 1 → o ∣ m := by
    intro m hm
    refine Nat.dvd_of_mod_eq_zero ?_
    refine Nat.eq_zero_of_not_pos fun hp => o3 _ hp (Nat.mod_lt _ o0) ?_
    rw [← Nat.div_add_mod m o, pw_add, pw_mul, o2, pw_one_base, Int.emod_eq_of_lt (show (0 : Int) ≤ 1 by omega) (by omega), Int.one_mul] at hm
    rw [← hm]
    exact (emod_self _ _).symm
  rcases hQ.div (dv _ a2) with h | h
  · rw [h] at o2
    rwa [pw_one_exp (by omega) a1] at o2
  · omega

theorem pw_inj {P Q a : Int} (hP : 2 ≤ P) (hQ : Prim Q.toNat) (ha : elB P Q a = true) (h1 : a ≠ 1) {i j : Nat} (hi : i < Q.toNat) (hj : j < Q.toNat) (h : pw a i P = pw a j P) : i = j := by
  have key : ∀ i j : Nat, i < j → j < Q.toNat → pw a i P = pw a j P → False := by
    intro i j hij hj h
    refine h1 (pw_one_of hP hQ ha (k := j - i) (by omega) (by omega) ?_)
    have h2 : pw a (Q.toNat - i) P * pw a i P % P = pw a (Q.toNat - i) P * pw a j P % P := by rw [h]
    rw [← pw_add, ← pw_add, show Q.toNat - i + i = Q.toNat by omega, show Q.toNat - i + j = Q.toNat + (j - i) by omega, pw_add, (el_iff.1 ha).2.2, Int.one_mul] at h2
    rw [h2]
    exact (emod_self _ _).symm
  rcases Nat.lt_trichotomy i j with h2 | h2 | h2
  · exact (key i j h2 hj h).elim
  · exact h2
  · exact (key j i h2 hi h.symm).elim

/-- The powers of an element. -/
def pows (P Q a : Int) : List Int := (List.range Q.toNat).map fun i => pw a i P

theorem pows_nodup {P Q a : Int} (hP : 2 ≤ P) (hQ : Prim Q.toNat) (ha : elB P Q a = true) (h1 : a ≠ 1) : (pows P Q a).Nodup := by
  unfold pows
  rw [List.nodup_iff_pairwise_ne, List.pairwise_map]
  refine List.Pairwise.imp_of_mem ?_ List.nodup_range
  intro i j hi hj hne h
  exact hne (pw_inj hP hQ ha h1 (List.mem_range.1 hi) (List.mem_range.1 hj) h)

/-- All elements are powers of one other than 1. -/
theorem mem_pows {P Q a x : Int} (hP : Prim P.toNat) (hQ : Prim Q.toNat) (ha : elB P Q a = true) (h1 : a ≠ 1) (hx : elB P Q x = true) : x ∈ pows P Q a := by
  have p2 := hP.1
  have q2 := hQ.1
  refine Classical.byContradiction fun hn => ?_
  have := few_roots (P := P) (Q := Q) hP (by omega) (x :: pows P Q a) (List.nodup_cons.2 ⟨hn, pows_nodup (by omega) hQ ha h1⟩) (by
    intro y hy
    rcases List.mem_cons.1 hy with rfl | hy
    · exact hx
    · obtain ⟨i, _, rfl⟩ := List.mem_map.1 hy
      exact el_pw (by omega) (by omega) ha i)
  simp [pows] at this
  omega

theorem of_mem_pows {P Q a x : Int} (hP : 2 ≤ P) (hQ : 1 ≤ Q) (ha : elB P Q a = true) (hx : x ∈ pows P Q a) : elB P Q x = true := by
  obtain ⟨i, _, rfl⟩ := List.mem_map.1 hx
  exact el_pw hP hQ ha i
end Go.Sp
namespace Go.Sp
/-- The strong test over naturals. -/
def sqsN (n : Nat) : Nat → Nat → Bool
  | _, 0 => false
  | x, k + 1 => x * x % n == n - 1 || sqsN n (x * x % n) k
def strongN (n a d s : Nat) : Bool := a ^ d % n == 1 || a ^ d % n == n - 1 || sqsN n (a ^ d % n) (s - 1)
def both (n : Nat) : Bool := strongN n 2 ((n - 1) / 2 ^ Lib.ctz 64 (n - 1)) (Lib.ctz 64 (n - 1)) && strongN n 3 ((n - 1) / 2 ^ Lib.ctz 64 (n - 1)) (Lib.ctz 64 (n - 1))
def primes12 : List Nat := [2, 3, 5, 7, 11, 13, 17, 19, 23, 29, 31, 37]
def ords : List (Nat × Nat) := [(41, 20), (43, 14), (47, 23), (53, 52), (59, 58), (61, 60), (67, 66), (71, 35), (73, 9), (79, 39), (83, 82), (89, 11), (97, 48), (101, 100), (103, 51), (107, 106), (109, 36), (113, 28), (127, 7), (131, 130), (137, 68), (139, 138), (149, 148), (151, 15), (157, 52), (163, 162), (167, 83), (173, 172), (179, 178), (181, 180), (191, 95), (193, 96), (197, 196), (199, 99), (211, 210), (223, 37), (227, 226), (229, 76), (233, 29), (239, 119), (241, 24), (251, 50), (257, 16), (263, 131), (269, 268), (271, 135), (277, 92), (281, 70), (283, 94), (293, 292), (307, 102), (311, 155), (313, 156), (317, 316), (331, 30), (337, 21), (347, 346), (349, 348), (353, 88), (359, 179), (367, 183), (373, 372), (379, 378), (383, 191), (389, 388), (397, 44), (401, 200), (409, 204), (419, 418), (421, 420), (431, 43), (433, 72), (439, 73), (443, 442), (449, 224), (457, 76), (461, 460), (463, 231), (467, 466), (479, 239), (487, 243), (491, 490), (499, 166), (503, 251), (509, 508), (521, 260), (523, 522), (541, 540), (547, 546), (557, 556), (563, 562), (569, 284), (571, 114), (577, 144), (587, 586), (593, 148), (599, 299), (601, 25), (607, 303), (613, 612), (617, 154), (619, 618), (631, 45), (641, 64), (643, 214), (647, 323), (653, 652), (659, 658), (661, 660), (673, 48), (677, 676), (683, 22), (691, 230), (701, 700), (709, 708), (719, 359), (727, 121), (733, 244), (739, 246), (743, 371), (751, 375), (757, 756), (761, 380), (769, 384), (773, 772), (787, 786), (797, 796), (809, 404), (811, 270), (821, 820), (823, 411), (827, 826), (829, 828), (839, 419), (853, 852), (857, 428), (859, 858), (863, 431), (877, 876), (881, 55), (883, 882), (887, 443), (907, 906), (911, 91), (919, 153), (929, 464), (937, 117), (941, 940), (947, 946), (953, 68), (967, 483), (971, 194), (977, 488), (983, 491), (991, 495), (997, 332), (1009, 504), (1013, 92), (1019, 1018), (1021, 340)]
def okQ (p : Nat × Nat) : Bool := p.1 != 0 && p.2 != 0 && 2 ^ p.2 % p.1 == 1 && (p.1 - 1) % p.2 == 0 && (List.range p.2).all (fun j => j == 0 || 2 ^ j % p.1 != 1) &&
  (List.range (1048576 / (p.1 * p.2) + 1)).all (fun i => Nat.blt (p.1 * (1 + p.2 * i)) (p.1 * p.1) || !both (p.1 * (1 + p.2 * i)))
set_option maxRecDepth 100000 in
theorem ords_ok : (ords).all okQ = true := by decide +kernel
theorem covered : (List.range 983).all (fun i => primes12.any (fun r => (41 + i) % r == 0) || ords.any (fun p => p.1 == 41 + i)) = true := by decide +kernel
end Go.Sp
namespace Go.Sp

theorem sqs_nat {n : Nat} (hn : 1 ≤ n) : ∀ (k x : Nat), sqs (n : Int) (x : Int) k = sqsN n x k
  | 0, _ => rfl
  | k + 1, x => by
    have h : (x : Int) * (x : Int) % (n : Int) = ((x * x % n : Nat) : Int) := by rw [Int.natCast_emod, Int.natCast_mul]
    simp only [sqs, sqsN]
    rw [h, sqs_nat hn k (x * x % n)]
    congr 1
    rw [Bool.eq_iff_iff]; simp; omega

theorem strong_nat {n : Nat} (hn : 1 ≤ n) (a d s : Nat) : strongB (n : Int) (a : Int) d s = strongN n a d s := by
  have h : pw (a : Int) d (n : Int) = ((a ^ d % n : Nat) : Int) := by rw [pw, Int.natCast_emod, Int.natCast_pow]
  simp only [strongB, strongN]
  rw [h, sqs_nat hn]
  generalize a ^ d % n = X
  have e1 : ((X : Int) == 1) = (X == 1) := by rw [Bool.eq_iff_iff]; simp; omega
  have e2 : ((X : Int) == (n : Int) - 1) = (X == n - 1) := by rw [Bool.eq_iff_iff]; simp; omega
  rw [e1, e2]

theorem sqsN_spec {n : Nat} : ∀ (k x : Nat), sqsN n x k = true → ∃ i, 1 ≤ i ∧ i ≤ k ∧ x ^ 2 ^ i % n = n - 1
  | 0, _, h => by cases h
  | k + 1, x, h => by
    simp only [sqsN, Bool.or_eq_true, beq_iff_eq] at h
    rcases h with h | h
    · exact ⟨1, by omega, by omega, by rw [show (2 : Nat) ^ 1 = 2 from rfl, Nat.pow_two]; exact h⟩
    · obtain ⟨i, h1, h2, h3⟩ := sqsN_spec k _ h
      refine ⟨i + 1, by omega, by omega, ?_⟩
      rw [show (2 : Nat) ^ (i + 1) = 2 * 2 ^ i by rw [Nat.pow_succ]; omega, Nat.pow_mul, Nat.pow_two, Nat.pow_mod, h3]

theorem one_of_neg {n x t : Nat} (hn : 2 ≤ n) (h : x % n = n - 1) (ht : 1 ≤ t) : x ^ 2 ^ t % n = 1 := by
  obtain ⟨u, rfl⟩ : ∃ u, t = u + 1 := ⟨t - 1, by omega⟩
  have h2 : x ^ 2 % n = 1 := by
    rw [Nat.pow_mod, h, Nat.pow_two]
    obtain ⟨m, rfl⟩ : ∃ m, n = m + 2 := ⟨n - 2, by omega⟩
    rw [show m + 2 - 1 = m + 1 by omega, show (m + 1) * (m + 1) = 1 + (m + 2) * m by grind, Nat.add_mul_mod_self_left]
    exact Nat.mod_eq_of_lt (by omega)
  rw [show (2 : Nat) ^ (u + 1) = 2 * 2 ^ u by rw [Nat.pow_succ]; omega, Nat.pow_mul, Nat.pow_mod, h2, Nat.one_pow]
  exact Nat.mod_eq_of_lt (by omega)

theorem fermat_of_strong {n d s : Nat} (hn : 2 ≤ n) (hs : 1 ≤ s) (h : strongN n 2 d s = true) : 2 ^ (2 ^ s * d) % n = 1 := by
  rw [Nat.mul_comm, Nat.pow_mul]
  simp only [strongN, Bool.or_eq_true, beq_iff_eq] at h
  rcases h with (h | h) | h
  · rw [Nat.pow_mod, h, Nat.one_pow]; exact Nat.mod_eq_of_lt (by omega)
  · exact one_of_neg hn h hs
  · obtain ⟨i, h1, h2, h3⟩ := sqsN_spec _ _ h
    rw [show s = i + (s - i) by omega, Nat.pow_add, Nat.pow_mul]
    refine one_of_neg hn ?_ (by omega)
    rw [Nat.pow_mod]; exact h3

theorem ord_dvd {q o m : Nat} (ho : 1 ≤ o) (h1 : 2 ^ o % q = 1) (hmin : ∀ j, j < o → j = 0 ∨ 2 ^ j % q ≠ 1) (hm : 2 ^ m % q = 1) : o ∣ m := by
  refine Nat.dvd_of_mod_eq_zero ?_
  have hlt := Nat.mod_lt m ho
  rcases hmin _ hlt with h | h
  · exact h
  · refine absurd ?_ h
    rw [← Nat.div_add_mod m o, Nat.pow_add, Nat.pow_mul, Nat.mul_mod, Nat.pow_mod, h1, Nat.one_pow] at hm
    by_cases hq : q = 1
    · subst hq; simp [Nat.mod_one] at hm
    · by_cases hq0 : q = 0
      · subst hq0; simpa using hm
      · rw [Nat.mod_eq_of_lt (show 1 < q by omega), Nat.one_mul, Nat.mod_mod] at hm; exact hm

theorem trial_dvd {n r : Int} (hr : r ∈ baseList) (hd : n % r = 0) : ∃ p ∈ baseList, trial baseList n = some (n == p) := by
  have key : ∀ l : List Int, (∃ r ∈ l, n % r = 0) → ∃ p ∈ l, trial l n = some (n == p) := by
    intro l
    induction l with
    | nil => rintro ⟨_, h, _⟩; cases h
    | cons p l ih =>
      rintro ⟨r, h, hr⟩
      by_cases hp : n % p = 0
      · exact ⟨p, by simp, by simp [trial, hp]⟩
      · have : ∃ r ∈ l, n % r = 0 := by
          rcases List.mem_cons.1 h with rfl | h
          · exact absurd hr hp
          · exact ⟨r, h, hr⟩
        obtain ⟨p', hp', ht⟩ := ih this
        exact ⟨p', List.mem_cons_of_mem _ hp', by simp [trial, hp, ht]⟩
  exact key _ ⟨r, hr, hd⟩

/-- What passes and is divided by one of the first primes is that prime. -/
theorem isP_base {n r : Int} (h : isP n = true) (hr : r ∈ baseList) (hd : n % r = 0) : n ∈ baseList := by
  have h2 := isP_two h
  obtain ⟨p, hp, ht⟩ := trial_dvd hr hd
  rw [isP, if_neg (by omega), ht] at h
  have : n = p := by simpa using h
  rw [this]; exact hp

theorem trial_none {n : Int} (h : ∀ r ∈ baseList, n % r ≠ 0) : trial baseList n = none := by
  have key : ∀ l : List Int, (∀ r ∈ l, n % r ≠ 0) → trial l n = none := by
    intro l
    induction l with
    | nil => intro _; rfl
    | cons p l ih => intro h; rw [trial, if_neg (h p (by simp))]; exact ih fun r hr => h r (by simp [hr])
  exact key _ h

theorem isP_strong {n a : Int} (h : isP n = true) (h0 : ∀ r ∈ baseList, n % r ≠ 0) (ha : a ∈ baseList) :
    strongB n a ((n - 1).toNat / 2 ^ Lib.ctz 64 (n - 1).toNat) (Lib.ctz 64 (n - 1).toNat) = true := by
  have h2 := isP_two h
  rw [isP, if_neg (by omega), trial_none h0] at h
  exact List.all_eq_true.1 h a ha

theorem base_cast {r : Nat} (h : r ∈ primes12) : (r : Int) ∈ baseList := by
  simp [primes12] at h
  rcases h with rfl | rfl | rfl | rfl | rfl | rfl | rfl | rfl | rfl | rfl | rfl | rfl <;> simp [baseList]

theorem base_le {n : Nat} (h : (n : Int) ∈ baseList) : n ∈ primes12 := by
  simp [baseList] at h
  simp [primes12]; omega

/-- A number below 2^20 that passes is a prime. -/
theorem small_prime {n : Nat} (h : isP (n : Int) = true) (hn : n < 1048576) {q : Nat} (hq : 2 ≤ q) (hqq : q * q ≤ n) : ¬ q ∣ n := by
  intro hd
  have hq2 : q < 1024 := by
    refine Nat.lt_of_not_le fun hle => ?_
    have := Nat.mul_le_mul hle hle
    omega
  by_cases hb : ∃ r ∈ primes12, r ∣ q
  · obtain ⟨r, hr, hrq⟩ := hb
    have hm := Nat.mod_eq_zero_of_dvd (Nat.dvd_trans hrq hd)
    have := base_le (isP_base h (base_cast hr) (by omega))
    have hqn : q < n := by
      refine Nat.lt_of_lt_of_le ?_ hqq
      exact Nat.lt_mul_self_iff.2 (by omega)
    have hmod := Nat.mod_eq_zero_of_dvd hd
    have hn38 : ∀ n ∈ primes12, n < 38 := by decide
    have key : ∀ n ∈ primes12, ∀ q, q < 38 → 2 ≤ q → q < n → n % q ≠ 0 := by decide
    have := hn38 n this
    exact key n ‹_› q (by omega) hq hqn hmod
  · have hb' : ∀ r ∈ primes12, q % r ≠ 0 := fun r hr h0 => hb ⟨r, hr, Nat.dvd_of_mod_eq_zero h0⟩
    have hq41 : 41 ≤ q := by
      refine Nat.le_of_not_lt fun hlt => ?_
      have key : ∀ q, q < 41 → 2 ≤ q → ∃ r ∈ primes12, q % r = 0 := by decide
      obtain ⟨r, hr, h0⟩ := key q hlt hq
      exact hb' r hr h0
    have hn1 : 1681 ≤ n := Nat.le_trans (Nat.mul_le_mul hq41 hq41) hqq
    have hnb : ∀ r ∈ baseList, (n : Int) % r ≠ 0 := by
      intro r hr h0
      have := base_le (isP_base h hr h0)
      have hn38 : ∀ n ∈ primes12, n < 38 := by decide
      have := hn38 n this
      omega
    obtain ⟨p, hp, hpq⟩ : ∃ p ∈ ords, p.1 = q := by
      have hc := List.all_eq_true.1 covered (q - 41) (List.mem_range.2 (by omega))
      rw [show 41 + (q - 41) = q by omega, Bool.or_eq_true] at hc
      rcases hc with hc | hc
      · obtain ⟨r, hr, h0⟩ := List.any_eq_true.1 hc
        exact absurd (by simpa using h0) (hb' r hr)
      · obtain ⟨p, hp, h0⟩ := List.any_eq_true.1 hc
        exact ⟨p, hp, by simpa using h0⟩
    have hk := List.all_eq_true.1 ords_ok p hp
    obtain ⟨q', o⟩ := p
    obtain rfl : q' = q := hpq
    simp only [okQ, Bool.and_eq_true, bne_iff_ne, ne_eq, beq_iff_eq, List.all_eq_true, List.mem_range, Bool.or_eq_true, Bool.not_eq_true', Nat.blt_eq] at hk
    obtain ⟨⟨⟨⟨⟨_, ho⟩, h1⟩, hqo⟩, hmin⟩, hcl⟩ := hk
    -- n = 2^s d + 1
    have hN : ((n : Int) - 1).toNat = n - 1 := by omega
    have S2 := isP_strong h hnb (a := 2) (by simp [baseList])
    have S3 := isP_strong h hnb (a := 3) (by simp [baseList])
    rw [hN] at S2 S3
    have T2 : strongN n 2 ((n - 1) / 2 ^ Lib.ctz 64 (n - 1)) (Lib.ctz 64 (n - 1)) = true := by rw [← strong_nat (by omega)]; exact S2
    have T3 : strongN n 3 ((n - 1) / 2 ^ Lib.ctz 64 (n - 1)) (Lib.ctz 64 (n - 1)) = true := by rw [← strong_nat (by omega)]; exact S3
    have hB : both n = true := by rw [both, T2, T3]; rfl
    have hcz : Lib.ctz 64 (n - 1) = Lib.ctzFrom 64 (n - 1) := by rw [Lib.ctz, if_neg (by omega)]
    obtain ⟨m, hm, _⟩ := Lib.ctzFrom_spec 64 (n - 1) (by omega) (by omega)
    rw [← hcz] at hm
    generalize Lib.ctz 64 (n - 1) = s at *
    have hs : 1 ≤ s := by
      refine Nat.pos_of_ne_zero fun h0 => ?_
      subst h0
      rw [Nat.pow_zero, Nat.one_mul] at hm
      exact hnb 2 (by simp [baseList]) (by omega)
    have hsd : 2 ^ s * ((n - 1) / 2 ^ s) = n - 1 := Nat.mul_div_cancel' ⟨_, hm⟩
    have hF := fermat_of_strong (by omega) hs T2
    rw [hsd] at hF
    have hFq : 2 ^ (n - 1) % q' = 1 := by
      rw [← Nat.mod_mod_of_dvd _ hd, hF]; exact Nat.mod_eq_of_lt (by omega)
    obtain ⟨u, hu⟩ := ord_dvd (by omega) h1 hmin hFq
    obtain ⟨k, rfl⟩ := hd
    obtain ⟨v, hv⟩ := Nat.dvd_of_mod_eq_zero hqo
    have hk1 : 1 ≤ k := by
      refine Nat.pos_of_ne_zero fun h0 => ?_
      subst h0
      simp at hn1
    have hko : o ∣ k - 1 := by
      have hx : o ∣ (q' - 1) * k := ⟨v * k, by rw [hv, Nat.mul_assoc]⟩
      refine (Nat.dvd_add_right hx).1 ⟨u, ?_⟩
      rw [← hu]
      obtain ⟨a, rfl⟩ : ∃ a, q' = a + 1 := ⟨q' - 1, by omega⟩
      rw [show a + 1 - 1 = a by omega, Nat.add_mul, Nat.one_mul]
      omega
    obtain ⟨i, hi⟩ := hko
    obtain rfl : k = 1 + o * i := by omega
    have hile : i < 1048576 / (q' * o) + 1 := by
      refine Nat.lt_succ_of_le ((Nat.le_div_iff_mul_le (Nat.mul_pos (by omega) (by omega))).2 ?_)
      refine Nat.le_trans ?_ (Nat.le_of_lt hn)
      rw [Nat.mul_comm i, Nat.mul_assoc]
      exact Nat.mul_le_mul_left _ (by omega)
    rcases hcl i hile with h2 | h2
    · omega
    · rw [hB] at h2; cases h2
end Go.Sp
