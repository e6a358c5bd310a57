/- What a region that draws its order keeps: loaded cells, and that nothing old has turned. Plain facts on elements of a group. The laws of exponents. Products of powers: the plain side. Package product: exponents, elements, products of powers. -/
import Derived.Test.YtdbhleinhpiohaaGreatDoorMB3
import Derived.Test.YtdbhleinhpiohaaGreatDoorMB1
import Derived.Deep.RegionHeld3
namespace Go.Proofs.YtdbhleinhpiohaaGreatDoor
open Go.RowKit Go.Sp

theorem cellUp {w w' : World} {b o : Nat} {v : Value} (hU : Up w w') (h : w.cell? ⟨b, o, none⟩ = some v) : w'.cell? ⟨b, o, none⟩ = some v := by
  rw [hU.cell (cell_lt h)]; exact h

theorem keepC1 {w0 w w' : World} {b1 o1 : Nat} {v1 : Value} (hU : Up w w') (h : w.cell? ⟨b1, o1, none⟩ = some v1 ∧ Hid (Up w0 w)) : w'.cell? ⟨b1, o1, none⟩ = some v1 ∧ Hid (Up w0 w') :=
  ⟨cellUp hU h.1, hid (h.2.out.trans hU)⟩
theorem keepC2 {w0 w w' : World} {b1 o1 b2 o2 : Nat} {v1 v2 : Value} (hU : Up w w') (h : w.cell? ⟨b1, o1, none⟩ = some v1 ∧ w.cell? ⟨b2, o2, none⟩ = some v2 ∧ Hid (Up w0 w)) :
    w'.cell? ⟨b1, o1, none⟩ = some v1 ∧ w'.cell? ⟨b2, o2, none⟩ = some v2 ∧ Hid (Up w0 w') := ⟨cellUp hU h.1, keepC1 hU h.2⟩
theorem keepC3 {w0 w w' : World} {b1 o1 b2 o2 b3 o3 : Nat} {v1 v2 v3 : Value} (hU : Up w w') (h : w.cell? ⟨b1, o1, none⟩ = some v1 ∧ w.cell? ⟨b2, o2, none⟩ = some v2 ∧ w.cell? ⟨b3, o3, none⟩ = some v3 ∧ Hid (Up w0 w)) :
    w'.cell? ⟨b1, o1, none⟩ = some v1 ∧ w'.cell? ⟨b2, o2, none⟩ = some v2 ∧ w'.cell? ⟨b3, o3, none⟩ = some v3 ∧ Hid (Up w0 w') := ⟨cellUp hU h.1, keepC2 hU h.2⟩
theorem keepC4 {w0 w w' : World} {b1 o1 b2 o2 b3 o3 b4 o4 : Nat} {v1 v2 v3 v4 : Value} (hU : Up w w') (h : w.cell? ⟨b1, o1, none⟩ = some v1 ∧ w.cell? ⟨b2, o2, none⟩ = some v2 ∧ w.cell? ⟨b3, o3, none⟩ = some v3 ∧ w.cell? ⟨b4, o4, none⟩ = some v4 ∧ Hid (Up w0 w)) :
    w'.cell? ⟨b1, o1, none⟩ = some v1 ∧ w'.cell? ⟨b2, o2, none⟩ = some v2 ∧ w'.cell? ⟨b3, o3, none⟩ = some v3 ∧ w'.cell? ⟨b4, o4, none⟩ = some v4 ∧ Hid (Up w0 w') := ⟨cellUp hU h.1, keepC3 hU h.2⟩
theorem keepC5 {w0 w w' : World} {b1 o1 b2 o2 b3 o3 b4 o4 b5 o5 : Nat} {v1 v2 v3 v4 v5 : Value} (hU : Up w w') (h : w.cell? ⟨b1, o1, none⟩ = some v1 ∧ w.cell? ⟨b2, o2, none⟩ = some v2 ∧ w.cell? ⟨b3, o3, none⟩ = some v3 ∧ w.cell? ⟨b4, o4, none⟩ = some v4 ∧ w.cell? ⟨b5, o5, none⟩ = some v5 ∧ Hid (Up w0 w)) :
    w'.cell? ⟨b1, o1, none⟩ = some v1 ∧ w'.cell? ⟨b2, o2, none⟩ = some v2 ∧ w'.cell? ⟨b3, o3, none⟩ = some v3 ∧ w'.cell? ⟨b4, o4, none⟩ = some v4 ∧ w'.cell? ⟨b5, o5, none⟩ = some v5 ∧ Hid (Up w0 w') := ⟨cellUp hU h.1, keepC4 hU h.2⟩

theorem up1 {w1 w : World} {p : Prop} (hs : p ∧ Hid (Up w1 w)) : Up w1 w := hs.2.out
theorem up2 {w1 w : World} {p q : Prop} (hs : p ∧ q ∧ Hid (Up w1 w)) : Up w1 w := hs.2.2.out
theorem up4 {w1 w : World} {p q r s : Prop} (hs : p ∧ q ∧ r ∧ s ∧ Hid (Up w1 w)) : Up w1 w := hs.2.2.2.2.out
theorem up5 {w1 w : World} {p q r s t : Prop} (hs : p ∧ q ∧ r ∧ s ∧ t ∧ Hid (Up w1 w)) : Up w1 w := hs.2.2.2.2.2.out

/-- An element of a slice, in a later world. -/
theorem ints_cell {w w' : World} {a : Option Addr} {xs : List Int} (hc : xs ≠ [] → ∃ b off, a = some ⟨b, off, none⟩ ∧ ∀ i, i < xs.length → w.cell? ⟨b, off + i, none⟩ = some (.int .i64 (xs.getD i 0))) (hU : Up w w') {i : Nat} (hi : i < xs.length) :
    ∃ b off, a = some ⟨b, off, none⟩ ∧ w'.cell? ⟨b, off + i, none⟩ = some (.int .i64 (xs.getD i 0)) := by
  obtain ⟨b, off, rfl, h⟩ := hc (by rintro rfl; simp at hi)
  exact ⟨b, off, rfl, cellUp hU (h i hi)⟩

theorem drop_step {xs : List Int} {i : Nat} (hi : i < xs.length) : xs.drop i = xs.getD i 0 :: xs.drop (i + 1) := by
  rw [List.drop_eq_getElem_cons hi]; simp [hi]
theorem getD_mem {xs : List Int} {i : Nat} (hi : i < xs.length) : xs.getD i 0 ∈ xs := by simp [hi]
end Go.Proofs.YtdbhleinhpiohaaGreatDoor
namespace Go.Sp

theorem pow_zero_base (n : Nat) (h : 1 ≤ n) : (0 : Int) ^ n = 0 := by
  obtain ⟨k, rfl⟩ : ∃ k, n = k + 1 := ⟨n - 1, by omega⟩
  rw [Int.pow_succ]; simp

theorem pw_one_exp {a P : Int} (h0 : 0 ≤ a) (h1 : a < P) : pw a 1 P = a := by
  rw [pw, show a ^ 1 = a by rw [Int.pow_succ]; simp, Int.emod_eq_of_lt h0 h1]

/-- A residue whose power is 1 is an element. -/
theorem el_of {P Q x : Int} (hP : 2 ≤ P) (hQ : 1 ≤ Q) (h : pw (x % P) Q.toNat P = 1) : elB P Q (x % P) = true := by
  have r0 := Int.emod_nonneg x (show P ≠ 0 by omega)
  have r1 := Int.emod_lt_of_pos x (show 0 < P by omega)
  refine el_iff.2 ⟨?_, r1, h⟩
  refine Int.not_lt.1 fun hlt => ?_
  have hz : x % P = 0 := by omega
  rw [hz, pw, pow_zero_base _ (by omega)] at h
  simp at h

theorem el_mul {P Q a b : Int} (hP : 2 ≤ P) (hQ : 1 ≤ Q) (ha : elB P Q a = true) (hb : elB P Q b = true) : elB P Q (a * b % P) = true := by
  refine el_of hP hQ ?_
  rw [pw_prod, (el_iff.1 ha).2.2, (el_iff.1 hb).2.2]
  exact Int.emod_eq_of_lt (by omega) (by omega)

theorem el_pw {P Q a : Int} (hP : 2 ≤ P) (hQ : 1 ≤ Q) (ha : elB P Q a = true) (n : Nat) : elB P Q (pw a n P) = true := by
  refine el_of hP hQ ?_
  show pw (pw a n P) Q.toNat P = 1
  rw [← pw_mul, Nat.mul_comm, pw_mul, (el_iff.1 ha).2.2, pw_one_base]
  exact Int.emod_eq_of_lt (by omega) (by omega)

theorem el_one {P Q : Int} (hP : 2 ≤ P) : elB P Q 1 = true := by
  refine el_iff.2 ⟨by omega, by omega, ?_⟩
  rw [pw_one_base]
  exact Int.emod_eq_of_lt (by omega) (by omega)

theorem mul_assoc' (a b c P : Int) : (a * b % P) * c % P = a * (b * c % P) % P := by
  rw [emul (emod_self (a * b) P) (rfl : c % P = c % P), emul (rfl : a % P = a % P) (emod_self (b * c) P), Int.mul_assoc]

/-- Powers of an element go by the order. -/
theorem pw_mod {P Q a : Int} (hP : 2 ≤ P) (ha : elB P Q a = true) (n : Nat) : pw a (n % Q.toNat) P = pw a n P := by
  have h := (el_iff.1 ha).2.2
  conv => rhs; rw [← Nat.div_add_mod n Q.toNat, pw_add, pw_mul, h, pw_one_base]
  rw [Int.emod_eq_of_lt (show (0 : Int) ≤ 1 by omega) (by omega), Int.one_mul]
  exact (emod_self _ _).symm

end Go.Sp
namespace Go.Proofs.YtdbhleinhpiohaaGreatDoor
open Go.Sp

theorem toNat_mod {x Q : Int} (hQ : 1 ≤ Q) : ∃ k : Nat, (x % Q).toNat = k ∧ (k : Int) = x % Q := by
  have := Int.emod_nonneg x (show Q ≠ 0 by omega)
  exact ⟨_, rfl, by omega⟩

theorem nat_of_int {a b q : Nat} {Q : Int} (hQ : Q = (q : Int)) (h : (a : Int) = (b : Int) % Q) : a = b % q := by
  subst hQ
  have : ((b % q : Nat) : Int) = (b : Int) % (q : Int) := Int.natCast_emod b q
  omega

theorem gpw_add {P Q a : Int} (hP : 2 ≤ P) (hQ : 1 ≤ Q) (ha : elB P Q a = true) (m n : Int) : gpw P Q a m * gpw P Q a n % P = gpw P Q a (m + n) := by
  unfold gpw
  obtain ⟨i, h1, e1⟩ := toNat_mod (x := m) hQ
  obtain ⟨j, h2, e2⟩ := toNat_mod (x := n) hQ
  obtain ⟨k, h3, e3⟩ := toNat_mod (x := m + n) hQ
  rw [h1, h2, h3, ← pw_add, ← pw_mod hP ha (i + j)]
  congr 1
  refine (nat_of_int (Q := Q) (by omega) ?_).symm
  rw [e3, Int.natCast_add, e1, e2, ← Int.add_emod]

theorem gpw_mul {P Q a : Int} (hP : 2 ≤ P) (hQ : 1 ≤ Q) (ha : elB P Q a = true) (m n : Int) : gpw P Q (gpw P Q a m) n = gpw P Q a (m * n) := by
  unfold gpw
  obtain ⟨i, h1, e1⟩ := toNat_mod (x := m) hQ
  obtain ⟨j, h2, e2⟩ := toNat_mod (x := n) hQ
  obtain ⟨k, h3, e3⟩ := toNat_mod (x := m * n) hQ
  rw [h1, h2, h3, ← pw_mul, ← pw_mod hP ha (i * j)]
  congr 1
  refine (nat_of_int (Q := Q) (by omega) ?_).symm
  rw [e3, Int.natCast_mul, e1, e2, ← Int.mul_emod]

theorem gpw_neg {P Q a : Int} (hQ : 1 ≤ Q) : gpw P Q a (-1) = pw a (Q.toNat - 1) P := by
  unfold gpw
  congr 1
  have : (-1 : Int) % Q = Q - 1 := by
    rw [← Int.add_emod_right (-1) Q, Int.emod_eq_of_lt (by omega) (by omega)]; omega
  omega

theorem gpw_mod {P Q a : Int} (hQ : 1 ≤ Q) (m : Int) : gpw P Q a (m.tmod Q) = gpw P Q a m := by
  unfold gpw
  congr 2
  rcases tmod_cases m Q hQ with ⟨_, h, _⟩ | ⟨_, h⟩
  · rw [show m.tmod Q = m % Q - Q by omega, Int.sub_emod_right, emod_self]
  · rw [h, emod_self]

theorem gpw_el {P Q a : Int} (hP : 2 ≤ P) (hQ : 1 ≤ Q) (ha : elB P Q a = true) (m : Int) : elB P Q (gpw P Q a m) = true := el_pw hP hQ ha _

theorem gpw_base_mod {P Q a m n : Int} (h : m % Q = n % Q) : gpw P Q a m = gpw P Q a n := by
  unfold gpw; rw [h]
end Go.Proofs.YtdbhleinhpiohaaGreatDoor
namespace Go.Proofs.YtdbhleinhpiohaaGreatDoor
open Go.Sp

/-- An exponent. -/
def exB (Q e : Int) : Bool := decide (0 ≤ e) && decide (e < Q)

/-- The product of powers, onto a first factor. -/
def pfold (P Q : Int) : Int → List Int → List Int → Int
  | a, b :: bs, e :: es => pfold P Q (a * gpw P Q b e % P) bs es
  | a, _, _ => a

/-- The product of elements, onto a first factor. -/
def jfold (P : Int) : Int → List Int → Int
  | a, b :: bs => jfold P (a * b % P) bs
  | a, [] => a

theorem exB_iff {Q e : Int} : exB Q e = true ↔ 0 ≤ e ∧ e < Q := by simp [exB]

theorem pfold_el {P Q : Int} (hP : 2 ≤ P) (hQ : 1 ≤ Q) : ∀ (bs es : List Int) (a : Int), elB P Q a = true → (∀ b ∈ bs, elB P Q b = true) → elB P Q (pfold P Q a bs es) = true
  | [], _, a, ha, _ => by simpa [pfold] using ha
  | b :: bs, [], a, ha, _ => by simpa [pfold] using ha
  | b :: bs, e :: es, a, ha, hb => by
    rw [pfold]
    exact pfold_el hP hQ bs es _ (el_mul hP hQ ha (gpw_el hP hQ (hb b (by simp)) e)) fun x hx => hb x (by simp [hx])

theorem jfold_el {P Q : Int} (hP : 2 ≤ P) (hQ : 1 ≤ Q) : ∀ (bs : List Int) (a : Int), elB P Q a = true → (∀ b ∈ bs, elB P Q b = true) → elB P Q (jfold P a bs) = true
  | [], a, ha, _ => by simpa [jfold] using ha
  | b :: bs, a, ha, hb => by
    rw [jfold]
    exact jfold_el hP hQ bs _ (el_mul hP hQ ha (hb b (by simp))) fun x hx => hb x (by simp [hx])

/-- The first factor goes out of the product. -/
theorem pfold_out {P Q : Int} : ∀ (bs es : List Int) (a c : Int), pfold P Q (a * c % P) bs es % P = a * pfold P Q c bs es % P
  | [], es, a, c => by simp [pfold]
  | b :: bs, [], a, c => by simp [pfold]
  | b :: bs, e :: es, a, c => by
    rw [pfold, pfold, mul_assoc', pfold_out bs es a]

theorem jfold_out {P : Int} : ∀ (bs : List Int) (a c : Int), jfold P (a * c % P) bs % P = a * jfold P c bs % P
  | [], a, c => by simp [jfold]
  | b :: bs, a, c => by rw [jfold, jfold, mul_assoc', jfold_out bs a]

theorem el_lt {P Q a : Int} (h : elB P Q a = true) : a % P = a := by
  obtain ⟨h0, h1, _⟩ := el_iff.1 h
  exact Int.emod_eq_of_lt (by omega) h1

/-- The product of powers is the product of the powers. -/
theorem jfold_map {P Q : Int} : ∀ (bs es : List Int) (a : Int), bs.length = es.length → jfold P a ((bs.zip es).map fun x => gpw P Q x.1 x.2) = pfold P Q a bs es
  | [], [], a, _ => rfl
  | b :: bs, e :: es, a, h => by
    rw [List.zip_cons_cons, List.map_cons, jfold, pfold]
    exact jfold_map bs es _ (by simpa using h)

/-- The error of a product. -/
def prE (P Q G : Int) (bs es : List Int) : Int :=
  if gvB P Q G = true ∧ bs.length = es.length then (if 100 < bs.length then 5 else if bs.all (elB P Q) = true ∧ es.all (exB Q) = true then 0 else 2) else 1
def prV (P Q G : Int) (bs es : List Int) : Int := if prE P Q G bs es = 0 then pfold P Q 1 bs es else 0

theorem prE_zero {P Q G : Int} {bs es : List Int} : prE P Q G bs es = 0 ↔ gvB P Q G = true ∧ bs.length = es.length ∧ bs.length ≤ 100 ∧ (∀ b ∈ bs, elB P Q b = true) ∧ ∀ e ∈ es, exB Q e = true := by
  unfold prE
  by_cases h : gvB P Q G = true ∧ bs.length = es.length
  · rw [if_pos h]
    by_cases h2 : 100 < bs.length
    · rw [if_pos h2]
      constructor
      · intro h; omega
      · rintro ⟨_, _, h3, _⟩; omega
    · rw [if_neg h2]
      by_cases h3 : bs.all (elB P Q) = true ∧ es.all (exB Q) = true
      · rw [if_pos h3]
        exact ⟨fun _ => ⟨h.1, h.2, by omega, List.all_eq_true.1 h3.1, List.all_eq_true.1 h3.2⟩, fun _ => rfl⟩
      · rw [if_neg h3]
        constructor
        · intro h; omega
        · rintro ⟨_, _, _, h4, h5⟩
          exact absurd ⟨List.all_eq_true.2 h4, List.all_eq_true.2 h5⟩ h3
  · rw [if_neg h]
    constructor
    · intro h; omega
    · rintro ⟨h1, h2, _⟩
      exact absurd ⟨h1, h2⟩ h

/-- The error of a product of elements. -/
def joE (P Q G : Int) (l : List Int) : Int := if gvB P Q G = true then (if 1000 < l.length then 5 else if l.all (elB P Q) = true then 0 else 2) else 1
def joV (P Q G : Int) (l : List Int) : Int := if joE P Q G l = 0 then jfold P 1 l else 0
end Go.Proofs.YtdbhleinhpiohaaGreatDoor
namespace Go.Proofs.YtdbhleinhpiohaaGreatDoor
open Go.RowKit Go.Sp
set_option maxHeartbeats 1000000
set_option maxRecDepth 20000

end Go.Proofs.YtdbhleinhpiohaaGreatDoor
