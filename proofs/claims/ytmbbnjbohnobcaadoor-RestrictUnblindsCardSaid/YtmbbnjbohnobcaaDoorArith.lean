/- Plain arithmetic modulo m on integers: products, powers by squaring, the strong test. No program in sight. -/
import Derived.Lib.TrailingZeros
namespace Go.Sp

theorem emul {m a b c d : Int} (h1 : a % m = b % m) (h2 : c % m = d % m) : (a * c) % m = (b * d) % m := by
  rw [Int.mul_emod, h1, h2, ← Int.mul_emod]

theorem epow {m a b : Int} (h : a % m = b % m) (n : Nat) : a ^ n % m = b ^ n % m := by
  induction n with
  | zero => simp
  | succ n ih => rw [Int.pow_succ, Int.pow_succ]; exact emul ih h

theorem emod_self (a m : Int) : a % m % m = a % m := Int.emod_emod_of_dvd a (Int.dvd_refl m)

/-- The power of a residue: what Pow returns. -/
def pw (a : Int) (e : Nat) (m : Int) : Int := a ^ e % m

theorem pw_zero (a m : Int) : pw a 0 m = 1 % m := by simp [pw]

theorem pw_lt (a : Int) (e : Nat) {m : Int} (h : 0 < m) : pw a e m < m := Int.emod_lt_of_pos _ h
theorem pw_nonneg (a : Int) (e : Nat) {m : Int} (h : 0 < m) : 0 ≤ pw a e m := Int.emod_nonneg _ (by omega)

theorem pw_add (a m : Int) (e f : Nat) : pw a (e + f) m = pw a e m * pw a f m % m := by
  unfold pw
  rw [Int.pow_add]
  exact emul (emod_self _ _).symm (emod_self _ _).symm

theorem pow_mul' (a : Int) (e f : Nat) : a ^ (e * f) = (a ^ e) ^ f := by
  induction f with
  | zero => simp
  | succ f ih => rw [Nat.mul_succ, Int.pow_add, ih, Int.pow_succ]

theorem mul_pow' (a b : Int) (n : Nat) : (a * b) ^ n = a ^ n * b ^ n := by
  induction n with
  | zero => simp
  | succ n ih => rw [Int.pow_succ, Int.pow_succ, Int.pow_succ, ih]; simp [Int.mul_assoc, Int.mul_comm, Int.mul_left_comm]

theorem pw_mul (a m : Int) (e f : Nat) : pw a (e * f) m = pw (pw a e m) f m := by
  unfold pw
  rw [pow_mul']
  exact epow (emod_self _ _).symm f

theorem pw_prod (a b m : Int) (e : Nat) : pw (a * b % m) e m = pw a e m * pw b e m % m := by
  unfold pw
  rw [epow (emod_self (a * b) m) e, mul_pow']
  exact emul (emod_self _ _).symm (emod_self _ _).symm

theorem one_pow' (e : Nat) : (1 : Int) ^ e = 1 := by
  induction e with
  | zero => rfl
  | succ n ih => rw [Int.pow_succ, ih]; rfl

theorem pw_one_base (e : Nat) (m : Int) : pw 1 e m = 1 % m := by rw [pw, one_pow']

/-- One round of Pow. -/
theorem round_odd (x a m : Int) (e : Nat) (he : e % 2 = 1) : (x * a % m) * (a * a % m) ^ (e / 2) % m = x * a ^ e % m := by
  have h1 : (x * a % m) * (a * a % m) ^ (e / 2) % m = (x * a) * (a * a) ^ (e / 2) % m :=
    emul (emod_self _ _) (epow (emod_self _ _) _)
  have h2 : (a * a) ^ (e / 2) = a ^ (2 * (e / 2)) := by rw [pow_mul']; congr 1; rw [Int.pow_succ, Int.pow_succ]; simp
  have h3 : e = 1 + 2 * (e / 2) := by omega
  rw [h1, h2]
  conv => rhs; rw [h3, Int.pow_add]
  rw [show a ^ 1 = a from by rw [Int.pow_succ]; simp, Int.mul_assoc]

theorem round_even (x a m : Int) (e : Nat) (he : e % 2 = 0) : x * (a * a % m) ^ (e / 2) % m = x * a ^ e % m := by
  have h1 : x * (a * a % m) ^ (e / 2) % m = x * (a * a) ^ (e / 2) % m := emul rfl (epow (emod_self _ _) _)
  have h2 : (a * a) ^ (e / 2) = a ^ (2 * (e / 2)) := by rw [pow_mul']; congr 1; rw [Int.pow_succ, Int.pow_succ]; simp
  have h3 : e = 2 * (e / 2) := by omega
  rw [h1, h2]
  conv => rhs; rw [h3]

/-- One round of a product by doubling. -/
theorem double_odd (o a b m : Int) (hb : b % 2 = 1) : ((o + a) % m + (a + a) % m * (b / 2)) % m = (o + a * b) % m := by
  have h1 : ((o + a) % m + (a + a) % m * (b / 2)) % m = ((o + a) + (a + a) * (b / 2)) % m := by
    rw [Int.add_emod, emod_self, emul (emod_self (a + a) m) (rfl : (b / 2) % m = (b / 2) % m), ← Int.add_emod]
  rw [h1]
  congr 1
  have : b = 2 * (b / 2) + 1 := by omega
  conv => rhs; rw [this]
  grind

theorem double_even (o a b m : Int) (hb : b % 2 = 0) : (o + (a + a) % m * (b / 2)) % m = (o + a * b) % m := by
  have h1 : (o + (a + a) % m * (b / 2)) % m = (o + (a + a) * (b / 2)) % m := by
    rw [Int.add_emod, emul (emod_self (a + a) m) (rfl : (b / 2) % m = (b / 2) % m), ← Int.add_emod]
  rw [h1]
  congr 1
  have : b = 2 * (b / 2) := by omega
  conv => rhs; rw [this]
  grind

/-- Squares up to k times: is one of them n - 1? -/
def sqs (n : Int) : Int → Nat → Bool
  | _, 0 => false
  | x, k + 1 => let y := x * x % n; y == n - 1 || sqs n y k

/-- The strong test of n = 2^s d + 1 for a base. -/
def strongB (n a : Int) (d s : Nat) : Bool :=
  let x := pw a d n
  x == 1 || x == n - 1 || sqs n x (s - 1)

def baseList : List Int := [2, 3, 5, 7, 11, 13, 17, 19, 23, 29, 31, 37]

/-- What the first base that divides n says, if there is one. -/
def trial : List Int → Int → Option Bool
  | [], _ => none
  | p :: l, n => if n % p = 0 then some (n == p) else trial l n

/-- What prime.Is returns. -/
def isP (n : Int) : Bool :=
  if n < 2 then false else
  match trial baseList n with
  | some b => b
  | none => baseList.all fun a => strongB n a ((n - 1).toNat / 2 ^ Lib.ctz 64 (n - 1).toNat) (Lib.ctz 64 (n - 1).toNat)

/-- Euclid's extended algorithm: what its four numbers satisfy. -/
structure Eu (a m d b x y : Int) : Prop where
  d1 : 1 ≤ d
  b0 : 0 ≤ b
  lt : b < d
  dm : d ≤ m
  fx : m ∣ a * x - d
  fy : m ∣ a * y - b
  dv : ∀ k : Int, k ∣ d → k ∣ b → k ∣ a ∧ k ∣ m
  x0 : -m ≤ x
  x1 : x ≤ m
  sg : (0 ≤ y ∧ x ≤ 0 ∧ y * d - x * b = m) ∨ (y ≤ 0 ∧ 0 ≤ x ∧ x * b - y * d = m)

theorem Eu.start {a m : Int} (h0 : 0 ≤ a) (h1 : a < m) : Eu a m m a 0 1 :=
  ⟨by omega, h0, h1, by omega, ⟨-1, by simp⟩, ⟨0, by simp⟩, fun _ h k => ⟨k, h⟩, by omega, by omega, .inl ⟨by omega, by omega, by simp⟩⟩

theorem eu_key {u v d b m : Int} (hu : 0 ≤ u) (hv : 0 ≤ v) (d1 : 1 ≤ d) (b0 : 0 ≤ b) (e : v * d + u * b = m) : v ≤ m := by
  have h1 : 0 ≤ u * b := Int.mul_nonneg hu b0
  have h2 : v * 1 ≤ v * d := Int.mul_le_mul_of_nonneg_left d1 hv
  omega

theorem Eu.y_bd {a m d b x y : Int} (h : Eu a m d b x y) : -m ≤ y ∧ y ≤ m := by
  rcases h.sg with ⟨y0, x0, e⟩ | ⟨y0, x0, e⟩
  · have := eu_key (u := -x) (v := y) (d := d) (b := b) (m := m) (by omega) y0 h.d1 h.b0 (by rw [Int.neg_mul]; omega)
    have := h.d1; have := h.dm
    omega
  · have := eu_key (u := x) (v := -y) (d := d) (b := b) (m := m) x0 (by omega) h.d1 h.b0 (by rw [Int.neg_mul]; omega)
    have := h.d1; have := h.dm
    omega

theorem Eu.q_bd {a m d b x y : Int} (h : Eu a m d b x y) (hb : 1 ≤ b) : 0 ≤ d / b ∧ d / b ≤ m ∧ 0 ≤ d / b * b ∧ d / b * b ≤ d ∧ d - d / b * b < b := by
  have d1 := h.d1
  have dm := h.dm
  have q0 : 0 ≤ d / b := Int.ediv_nonneg (by omega) (by omega)
  have q1 : d / b * b ≤ d := Int.ediv_mul_le d (by omega)
  have q2 : d / b * 1 ≤ d / b * b := Int.mul_le_mul_of_nonneg_left hb q0
  have q3 := Int.emod_lt_of_pos d (show 0 < b by omega)
  have q4 := Int.mul_ediv_add_emod d b
  rw [Int.mul_comm] at q4
  exact ⟨q0, by omega, by omega, q1, by omega⟩

theorem Eu.step {a m d b x y : Int} (h : Eu a m d b x y) (hb : 1 ≤ b) : Eu a m b (d - d / b * b) y (x - d / b * y) := by
  obtain ⟨q0, q1, q2, q3, q4⟩ := h.q_bd hb
  obtain ⟨y0, y1⟩ := h.y_bd
  have lt := h.lt
  have dm := h.dm
  refine ⟨hb, by omega, q4, by omega, h.fy, ?_, ?_, y0, y1, ?_⟩
  · obtain ⟨s, hs⟩ := h.fx
    obtain ⟨t, ht⟩ := h.fy
    exact ⟨s - d / b * t, by rw [Int.mul_sub, Int.mul_sub]; rw [show m * (d / b * t) = d / b * (m * t) by grind, ← hs, ← ht]; grind⟩
  · intro k hk1 hk2
    refine h.dv k ?_ hk1
    have := Int.dvd_add hk2 (Int.dvd_trans hk1 (Int.dvd_mul_left (d / b) b))
    rwa [Int.sub_add_cancel] at this
  · rcases h.sg with ⟨s0, s1, e⟩ | ⟨s0, s1, e⟩
    · right
      have : 0 ≤ d / b * y := Int.mul_nonneg q0 s0
      exact ⟨by omega, s0, by grind⟩
    · left
      have : 0 ≤ d / b * (-y) := Int.mul_nonneg q0 (by omega)
      rw [Int.mul_neg] at this
      exact ⟨by omega, s0, by grind⟩

/-- The product that the step makes. -/
theorem Eu.qy_bd {a m d b x y : Int} (h : Eu a m d b x y) (hb : 1 ≤ b) : -m ≤ d / b * y ∧ d / b * y ≤ m ∧ -m ≤ x - d / b * y ∧ x - d / b * y ≤ m := by
  obtain ⟨q0, q1, q2, q3, q4⟩ := h.q_bd hb
  have s := (h.step hb).y_bd
  rcases h.sg with ⟨s0, s1, e⟩ | ⟨s0, s1, e⟩
  · have : 0 ≤ d / b * y := Int.mul_nonneg q0 s0
    omega
  · have : 0 ≤ d / b * (-y) := Int.mul_nonneg q0 (by omega)
    rw [Int.mul_neg] at this
    omega

/-- At the end: the common divisor, and the factor as a residue. -/
theorem Eu.done {a m d x y : Int} (h : Eu a m d 0 x y) (X : Int) (hX : m ∣ X - x) : 0 ≤ X % m ∧ X % m < m ∧ m ∣ a * (X % m) - d ∧ d ∣ a ∧ d ∣ m := by
  have d1 := h.d1
  have dm := h.dm
  have g := h.dv d (Int.dvd_refl d) (Int.dvd_zero d)
  refine ⟨Int.emod_nonneg _ (by omega), Int.emod_lt_of_pos _ (by omega), ?_, g.1, g.2⟩
  obtain ⟨s, hs⟩ := h.fx
  obtain ⟨t, ht⟩ := hX
  have e := Int.mul_ediv_add_emod X m
  refine ⟨s + a * t - a * (X / m), ?_⟩
  have h1 : X % m = X - m * (X / m) := by omega
  have h2 : X = x + m * t := by omega
  rw [h1]
  have h3 : a * (X - m * (X / m)) - d = (a * x - d) + m * (a * t) - m * (a * (X / m)) := by
    conv => lhs; rw [show X - m * (X / m) = x + m * t - m * (X / m) by omega]
    grind
  rw [h3, hs]
  grind

/-- Go's remainder, and the residue. -/
theorem tmod_cases (a m : Int) (h2 : 1 ≤ m) : (a.tmod m < 0 ∧ a.tmod m + m = a % m ∧ -m < a.tmod m) ∨ (0 ≤ a.tmod m ∧ a.tmod m = a % m) := by
  have b0 := Int.emod_nonneg a (show m ≠ 0 by omega)
  have b1 := Int.emod_lt_of_pos a (show 0 < m by omega)
  rw [Int.tmod_eq_emod (a := a) (b := m)]
  split
  · right; omega
  · rename_i hc
    have : (m.natAbs : Int) = m := by omega
    have hd : a % m ≠ 0 := fun h => hc (.inr (Int.dvd_of_emod_eq_zero h))
    left; omega

/-- An inverse modulo m is the only one. -/
theorem inv_unique {a b x m : Int} (hb0 : 0 ≤ b) (hb1 : b < m) (hx0 : 0 ≤ x) (hx1 : x < m) (hb : a * b % m = 1 % m) (hx : a * x % m = 1 % m) : x = b := by
  have h1 : x * (a * b) % m = x * 1 % m := emul rfl hb
  have h2 : b * (a * x) % m = b * 1 % m := emul rfl hx
  rw [show x * (a * b) = b * (a * x) by grind, h2, Int.mul_one, Int.mul_one, Int.emod_eq_of_lt hb0 hb1, Int.emod_eq_of_lt hx0 hx1] at h1
  exact h1.symm

/-- Are P, Q, G a valid group? -/
def gvB (P Q G : Int) : Bool :=
  decide (P < 2305843009213693952) && decide (3 ≤ Q) && decide (Q % 2 = 1) && isP P && isP Q && decide ((P - 1) % Q = 0) && decide (2 ≤ G) && decide (G < P) && decide (pw G Q.toNat P = 1)

/-- Is x an element of a valid group? -/
def elB (P Q x : Int) : Bool := decide (1 ≤ x) && decide (x < P) && decide (pw x Q.toNat P = 1)

theorem isP_two {n : Int} (h : isP n = true) : 2 ≤ n := by
  refine Int.not_lt.1 fun hlt => ?_
  rw [isP, if_pos hlt] at h
  cases h

/-- What a valid group is. -/
structure Gp (P Q G : Int) : Prop where
  P4 : 4 ≤ P
  P61 : P < 2305843009213693952
  Q3 : 3 ≤ Q
  Qo : Q % 2 = 1
  QP : Q < P
  pP : isP P = true
  pQ : isP Q = true
  dv : (P - 1) % Q = 0
  G2 : 2 ≤ G
  GP : G < P
  GQ : pw G Q.toNat P = 1

theorem gv_iff {P Q G : Int} : gvB P Q G = true ↔ Gp P Q G := by
  constructor
  · intro h
    simp only [gvB, Bool.and_eq_true, decide_eq_true_eq] at h
    obtain ⟨⟨⟨⟨⟨⟨⟨⟨h1, h2⟩, h3⟩, h4⟩, h5⟩, h6⟩, h7⟩, h8⟩, h9⟩ := h
    have hQP : Q < P := by
      have := isP_two h4
      refine Int.not_le.1 fun hle => ?_
      rw [Int.emod_eq_of_lt (by omega) (by omega)] at h6
      omega
    exact ⟨by omega, h1, h2, h3, hQP, h4, h5, h6, h7, h8, h9⟩
  · intro h
    simp [gvB, h.P61, h.Q3, h.Qo, h.pP, h.pQ, h.dv, h.G2, h.GP, h.GQ]

theorem el_iff {P Q x : Int} : elB P Q x = true ↔ 1 ≤ x ∧ x < P ∧ pw x Q.toNat P = 1 := by
  simp [elB, and_assoc]

end Go.Sp
