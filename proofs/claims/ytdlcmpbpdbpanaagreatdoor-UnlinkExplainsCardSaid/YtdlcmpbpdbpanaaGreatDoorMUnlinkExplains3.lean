/- Plain arithmetic modulo m on integers: products, powers by squaring, the strong test. No program in sight. Package word: each function returns what the arithmetic of Arith says, for arguments in range. -/
import Derived.Test.YtdlcmpbpdbpanaaGreatDoorMUnlinkExplains2
import Derived.Lib.TrailingZeros
namespace Go.Sp

theorem emul {m a b c d : Int} (h1 : a % m = b % m) (h2 : c % m = d % m) : (a * c) % m = (b * d) % m := by
  rw [Int.mul_emod, h1, h2, ← Int.mul_emod]

theorem epow {m a b : Int} (h : a % m = b % m) (n : Nat) : a ^ n % m = b ^ n % m := by
  induction n with
  | zero => simp
  | succ n ih => rw [Int.pow_succ, Int.pow_succ]; exact emul ih h

theorem emod_self (a m : Int) : a % m % m = a % m := Int.emod_emod_of_dvd a (Int.dvd_refl m)

/-- The power of a residue: what Pow returns. -/
def pw (a : Int) (e : Nat) (m : Int) : Int := a ^ e % m

theorem pw_zero (a m : Int) : pw a 0 m = 1 % m := by simp [pw]

theorem pw_lt (a : Int) (e : Nat) {m : Int} (h : 0 < m) : pw a e m < m := Int.emod_lt_of_pos _ h
theorem pw_nonneg (a : Int) (e : Nat) {m : Int} (h : 0 < m) : 0 ≤ pw a e m := Int.emod_nonneg _ (by omega)

theorem pw_add (a m : Int) (e f : Nat) : pw a (e + f) m = pw a e m * pw a f m % m := by
  unfold pw
  rw [Int.pow_add]
  exact emul (emod_self _ _).symm (emod_self _ _).symm

theorem pow_mul' (a : Int) (e f : Nat) : a ^ (e * f) = (a ^ e) ^ f := by
  induction f with
  | zero => simp
  | succ f ih => rw [Nat.mul_succ, Int.pow_add, ih, Int.pow_succ]

theorem mul_pow' (a b : Int) (n : Nat) : (a * b) ^ n = a ^ n * b ^ n := by
  induction n with
  | zero => simp
  | succ n ih => rw [Int.pow_succ, Int.pow_succ, Int.pow_succ, ih]; simp [Int.mul_assoc, Int.mul_comm, Int.mul_left_comm]

theorem pw_mul (a m : Int) (e f : Nat) : pw a (e * f) m = pw (pw a e m) f m := by
  unfold pw
  rw [pow_mul']
  exact epow (emod_self _ _).symm f

theorem pw_prod (a b m : Int) (e : Nat) : pw (a * b % m) e m = pw a e m * pw b e m % m := by
  unfold pw
  rw [epow (emod_self (a * b) m) e, mul_pow']
  exact emul (emod_self _ _).symm (emod_self _ _).symm

theorem one_pow' (e : Nat) : (1 : Int) ^ e = 1 := by
  induction e with
  | zero => rfl
  | succ n ih => rw [Int.pow_succ, ih]; rfl

theorem pw_one_base (e : Nat) (m : Int) : pw 1 e m = 1 % m := by rw [pw, one_pow']

/-- One round of Pow. -/
theorem round_odd (x a m : Int) (e : Nat) (he : e % 2 = 1) : (x * a % m) * (a * a % m) ^ (e / 2) % m = x * a ^ e % m := by
  have h1 : (x * a % m) * (a * a % m) ^ (e / 2) % m = (x * a) * (a * a) ^ (e / 2) % m :=
    emul (emod_self _ _) (epow (emod_self _ _) _)
  have h2 : (a * a) ^ (e / 2) = a ^ (2 * (e / 2)) := by rw [pow_mul']; congr 1; rw [Int.pow_succ, Int.pow_succ]; simp
  have h3 : e = 1 + 2 * (e / 2) := by omega
  rw [h1, h2]
  conv => rhs; rw [h3, Int.pow_add]
  rw [show a ^ 1 = a from by rw [Int.pow_succ]; simp, Int.mul_assoc]

theorem round_even (x a m : Int) (e : Nat) (he : e % 2 = 0) : x * (a * a % m) ^ (e / 2) % m = x * a ^ e % m := by
  have h1 : x * (a * a % m) ^ (e / 2) % m = x * (a * a) ^ (e / 2) % m := emul rfl (epow (emod_self _ _) _)
  have h2 : (a * a) ^ (e / 2) = a ^ (2 * (e / 2)) := by rw [pow_mul']; congr 1; rw [Int.pow_succ, Int.pow_succ]; simp
  have h3 : e = 2 * (e / 2) := by omega
  rw [h1, h2]
  conv => rhs; rw [h3]

/-- One round of a product by doubling. -/
theorem double_odd (o a b m : Int) (hb : b % 2 = 1) : ((o + a) % m + (a + a) % m * (b / 2)) % m = (o + a * b) % m := by
  have h1 : ((o + a) % m + (a + a) % m * (b / 2)) % m = ((o + a) + (a + a) * (b / 2)) % m := by
    rw [Int.add_emod, emod_self, emul (emod_self (a + a) m) (rfl : (b / 2) % m = (b / 2) % m), ← Int.add_emod]
  rw [h1]
  congr 1
  have : b = 2 * (b / 2) + 1 := by omega
  conv => rhs; rw [this]
  grind

theorem double_even (o a b m : Int) (hb : b % 2 = 0) : (o + (a + a) % m * (b / 2)) % m = (o + a * b) % m := by
  have h1 : (o + (a + a) % m * (b / 2)) % m = (o + (a + a) * (b / 2)) % m := by
    rw [Int.add_emod, emul (emod_self (a + a) m) (rfl : (b / 2) % m = (b / 2) % m), ← Int.add_emod]
  rw [h1]
  congr 1
  have : b = 2 * (b / 2) := by omega
  conv => rhs; rw [this]
  grind

/-- Squares up to k times: is one of them n - 1? -/
def sqs (n : Int) : Int → Nat → Bool
  | _, 0 => false
  | x, k + 1 => let y := x * x % n; y == n - 1 || sqs n y k

/-- The strong test of n = 2^s d + 1 for a base. -/
def strongB (n a : Int) (d s : Nat) : Bool :=
  let x := pw a d n
  x == 1 || x == n - 1 || sqs n x (s - 1)

def baseList : List Int := [2, 3, 5, 7, 11, 13, 17, 19, 23, 29, 31, 37]

/-- What the first base that divides n says, if there is one. -/
def trial : List Int → Int → Option Bool
  | [], _ => none
  | p :: l, n => if n % p = 0 then some (n == p) else trial l n

/-- What prime.Is returns. -/
def isP (n : Int) : Bool :=
  if n < 2 then false else
  match trial baseList n with
  | some b => b
  | none => baseList.all fun a => strongB n a ((n - 1).toNat / 2 ^ Lib.ctz 64 (n - 1).toNat) (Lib.ctz 64 (n - 1).toNat)

/-- Euclid's extended algorithm: what its four numbers satisfy. -/
structure Eu (a m d b x y : Int) : Prop where
  d1 : 1 ≤ d
  b0 : 0 ≤ b
  lt : b < d
  dm : d ≤ m
  fx : m ∣ a * x - d
  fy : m ∣ a * y - b
  dv : ∀ k : Int, k ∣ d → k ∣ b → k ∣ a ∧ k ∣ m
  x0 : -m ≤ x
  x1 : x ≤ m
  sg : (0 ≤ y ∧ x ≤ 0 ∧ y * d - x * b = m) ∨ (y ≤ 0 ∧ 0 ≤ x ∧ x * b - y * d = m)

theorem Eu.start {a m : Int} (h0 : 0 ≤ a) (h1 : a < m) : Eu a m m a 0 1 :=
  ⟨by omega, h0, h1, by omega, ⟨-1, by simp⟩, ⟨0, by simp⟩, fun _ h k => ⟨k, h⟩, by omega, by omega, .inl ⟨by omega, by omega, by simp⟩⟩

theorem eu_key {u v d b m : Int} (hu : 0 ≤ u) (hv : 0 ≤ v) (d1 : 1 ≤ d) (b0 : 0 ≤ b) (e : v * d + u * b = m) : v ≤ m := by
  have h1 : 0 ≤ u * b := Int.mul_nonneg hu b0
  have h2 : v * 1 ≤ v * d := Int.mul_le_mul_of_nonneg_left d1 hv
  omega

theorem Eu.y_bd {a m d b x y : Int} (h : Eu a m d b x y) : -m ≤ y ∧ y ≤ m := by
  rcases h.sg with ⟨y0, x0, e⟩ | ⟨y0, x0, e⟩
  · have := eu_key (u := -x) (v := y) (d := d) (b := b) (m := m) (by omega) y0 h.d1 h.b0 (by rw [Int.neg_mul]; omega)
    have := h.d1; have := h.dm
    omega
  · have := eu_key (u := x) (v := -y) (d := d) (b := b) (m := m) x0 (by omega) h.d1 h.b0 (by rw [Int.neg_mul]; omega)
    have := h.d1; have := h.dm
    omega

theorem Eu.q_bd {a m d b x y : Int} (h : Eu a m d b x y) (hb : 1 ≤ b) : 0 ≤ d / b ∧ d / b ≤ m ∧ 0 ≤ d / b * b ∧ d / b * b ≤ d ∧ d - d / b * b < b := by
  have d1 := h.d1
  have dm := h.dm
  have q0 : 0 ≤ d / b := Int.ediv_nonneg (by omega) (by omega)
  have q1 : d / b * b ≤ d := Int.ediv_mul_le d (by omega)
  have q2 : d / b * 1 ≤ d / b * b := Int.mul_le_mul_of_nonneg_left hb q0
  have q3 := Int.emod_lt_of_pos d (show 0 < b by omega)
  have q4 := Int.mul_ediv_add_emod d b
  rw [Int.mul_comm] at q4
  exact ⟨q0, by omega, by omega, q1, by omega⟩

theorem Eu.step {a m d b x y : Int} (h : Eu a m d b x y) (hb : 1 ≤ b) : Eu a m b (d - d / b * b) y (x - d / b * y) := by
  obtain ⟨q0, q1, q2, q3, q4⟩ := h.q_bd hb
  obtain ⟨y0, y1⟩ := h.y_bd
  have lt := h.lt
  have dm := h.dm
  refine ⟨hb, by omega, q4, by omega, h.fy, ?_, ?_, y0, y1, ?_⟩
  · obtain ⟨s, hs⟩ := h.fx
    obtain ⟨t, ht⟩ := h.fy
    exact ⟨s - d / b * t, by rw [Int.mul_sub, Int.mul_sub]; rw [show m * (d / b * t) = d / b * (m * t) by grind, ← hs, ← ht]; grind⟩
  · intro k hk1 hk2
    refine h.dv k ?_ hk1
    have := Int.dvd_add hk2 (Int.dvd_trans hk1 (Int.dvd_mul_left (d / b) b))
    rwa [Int.sub_add_cancel] at this
  · rcases h.sg with ⟨s0, s1, e⟩ | ⟨s0, s1, e⟩
    · right
      have : 0 ≤ d / b * y := Int.mul_nonneg q0 s0
      exact ⟨by omega, s0, by grind⟩
    · left
      have : 0 ≤ d / b * (-y) := Int.mul_nonneg q0 (by omega)
      rw [Int.mul_neg] at this
      exact ⟨by omega, s0, by grind⟩

/-- The product that the step makes. -/
theorem Eu.qy_bd {a m d b x y : Int} (h : Eu a m d b x y) (hb : 1 ≤ b) : -m ≤ d / b * y ∧ d / b * y ≤ m ∧ -m ≤ x - d / b * y ∧ x - d / b * y ≤ m := by
  obtain ⟨q0, q1, q2, q3, q4⟩ := h.q_bd hb
  have s := (h.step hb).y_bd
  rcases h.sg with ⟨s0, s1, e⟩ | ⟨s0, s1, e⟩
  · have : 0 ≤ d / b * y := Int.mul_nonneg q0 s0
    omega
  · have : 0 ≤ d / b * (-y) := Int.mul_nonneg q0 (by omega)
    rw [Int.mul_neg] at this
    omega

/-- At the end: the common divisor, and the factor as a residue. -/
theorem Eu.done {a m d x y : Int} (h : Eu a m d 0 x y) (X : Int) (hX : m ∣ X - x) : 0 ≤ X % m ∧ X % m < m ∧ m ∣ a * (X % m) - d ∧ d ∣ a ∧ d ∣ m := by
  have d1 := h.d1
  have dm := h.dm
  have g := h.dv d (Int.dvd_refl d) (Int.dvd_zero d)
  refine ⟨Int.emod_nonneg _ (by omega), Int.emod_lt_of_pos _ (by omega), ?_, g.1, g.2⟩
  obtain ⟨s, hs⟩ := h.fx
  obtain ⟨t, ht⟩ := hX
  have e := Int.mul_ediv_add_emod X m
  refine ⟨s + a * t - a * (X / m), ?_⟩
  have h1 : X % m = X - m * (X / m) := by omega
  have h2 : X = x + m * t := by omega
  rw [h1]
  have h3 : a * (X - m * (X / m)) - d = (a * x - d) + m * (a * t) - m * (a * (X / m)) := by
    conv => lhs; rw [show X - m * (X / m) = x + m * t - m * (X / m) by omega]
    grind
  rw [h3, hs]
  grind

/-- Go's remainder, and the residue. -/
theorem tmod_cases (a m : Int) (h2 : 1 ≤ m) : (a.tmod m < 0 ∧ a.tmod m + m = a % m ∧ -m < a.tmod m) ∨ (0 ≤ a.tmod m ∧ a.tmod m = a % m) := by
  have b0 := Int.emod_nonneg a (show m ≠ 0 by omega)
  have b1 := Int.emod_lt_of_pos a (show 0 < m by omega)
  rw [Int.tmod_eq_emod (a := a) (b := m)]
  split
  · right; omega
  · rename_i hc
    have : (m.natAbs : Int) = m := by omega
    have hd : a % m ≠ 0 := fun h => hc (.inr (Int.dvd_of_emod_eq_zero h))
    left; omega

/-- An inverse modulo m is the only one. -/
theorem inv_unique {a b x m : Int} (hb0 : 0 ≤ b) (hb1 : b < m) (hx0 : 0 ≤ x) (hx1 : x < m) (hb : a * b % m = 1 % m) (hx : a * x % m = 1 % m) : x = b := by
  have h1 : x * (a * b) % m = x * 1 % m := emul rfl hb
  have h2 : b * (a * x) % m = b * 1 % m := emul rfl hx
  rw [show x * (a * b) = b * (a * x) by grind, h2, Int.mul_one, Int.mul_one, Int.emod_eq_of_lt hb0 hb1, Int.emod_eq_of_lt hx0 hx1] at h1
  exact h1.symm

/-- Are P, Q, G a valid group? -/
def gvB (P Q G : Int) : Bool :=
  decide (P < 2305843009213693952) && decide (3 ≤ Q) && decide (Q % 2 = 1) && isP P && isP Q && decide ((P - 1) % Q = 0) && decide (2 ≤ G) && decide (G < P) && decide (pw G Q.toNat P = 1)

/-- Is x an element of a valid group? -/
def elB (P Q x : Int) : Bool := decide (1 ≤ x) && decide (x < P) && decide (pw x Q.toNat P = 1)

theorem isP_two {n : Int} (h : isP n = true) : 2 ≤ n := by
  refine Int.not_lt.1 fun hlt => ?_
  rw [isP, if_pos hlt] at h
  cases h

/-- What a valid group is. -/
structure Gp (P Q G : Int) : Prop where
  P4 : 4 ≤ P
  P61 : P < 2305843009213693952
  Q3 : 3 ≤ Q
  Qo : Q % 2 = 1
  QP : Q < P
  pP : isP P = true
  pQ : isP Q = true
  dv : (P - 1) % Q = 0
  G2 : 2 ≤ G
  GP : G < P
  GQ : pw G Q.toNat P = 1

theorem gv_iff {P Q G : Int} : gvB P Q G = true ↔ Gp P Q G := by
  constructor
  · intro h
    simp only [gvB, Bool.and_eq_true, decide_eq_true_eq] at h
    obtain ⟨⟨⟨⟨⟨⟨⟨⟨h1, h2⟩, h3⟩, h4⟩, h5⟩, h6⟩, h7⟩, h8⟩, h9⟩ := h
    have hQP : Q < P := by
      have := isP_two h4
      refine Int.not_le.1 fun hle => ?_
      rw [Int.emod_eq_of_lt (by omega) (by omega)] at h6
      omega
    exact ⟨by omega, h1, h2, h3, hQP, h4, h5, h6, h7, h8, h9⟩
  · intro h
    simp [gvB, h.P61, h.Q3, h.Qo, h.pP, h.pQ, h.dv, h.G2, h.GP, h.GQ]

theorem el_iff {P Q x : Int} : elB P Q x = true ↔ 1 ≤ x ∧ x < P ∧ pw x Q.toNat P = 1 := by
  simp [elB, and_assoc]

end Go.Sp
namespace Go.Proofs.YtdlcmpbpdbpanaaGreatDoor
open Go.RowKit Go.Sp
set_option maxHeartbeats 400000

theorem i64_and1 (n : Int) : bits .and .i64 n 1 = n % 2 := by
  have h1 : (BitVec.ofInt 64 1).toNat = 2 ^ 1 - 1 := by decide
  have key : (BitVec.ofInt 64 n &&& BitVec.ofInt 64 1).toNat = (n % ((2 ^ 64 : Nat) : Int)).toNat % 2 ^ 1 := by
    rw [BitVec.toNat_and, BitVec.toNat_ofInt, h1, Nat.and_two_pow_sub_one_eq_mod]
  show IntKind.i64.wrap ((BitVec.ofInt 64 n &&& BitVec.ofInt 64 1).toNat : Nat) = n % 2
  rw [key, IntKind.wrap_i64]
  omega

/-- Is a a residue modulo m? -/
def resB (a m : Int) : Bool := decide (0 ≤ a ∧ a < m)

theorem residue_any (a m : Int) (w : World) : Calls Tryz.prog 217 #[.int .i64 a, .int .i64 m] w fun e w' => e = .returned (.bool (resB a m)) ∧ w = w' := by
  go_enter Tryz.func217, Tryz.ntmps217
  go_wp2
  · go_ret
    exact ⟨by simp [resB, *], rfl⟩
  · go_ret
    refine ⟨?_, rfl⟩
    have : ¬ 0 ≤ a := by omega
    simp [resB, this]

theorem check_ok (a b m : Int) (w : World) (h0 : 0 ≤ a) (h1 : a < m) (h2 : 0 ≤ b) (h3 : b < m) (h4 : m < 2305843009213693952) :
    Calls Tryz.prog 183 #[.int .i64 a, .int .i64 b, .int .i64 m] w fun e w' => e = .returned (.int .i64 0) ∧ w = w' := by
  have r1 : resB a m = true := by simp [resB, h0, h1]
  have r2 : resB b m = true := by simp [resB, h2, h3]
  go_enter Tryz.func183, Tryz.ntmps183
  go_wp2_with (go_at_call 217; refine (residue_any _ _ _).mono ?_; rintro e w' ⟨rfl, rfl⟩)
  go_ret
  exact ⟨rfl, rfl⟩

/-- The product of two residues. -/
theorem wmul_any (a b m : Int) (w : World) (h0 : 0 ≤ a) (h1 : a < m) (h2 : 0 ≤ b) (h3 : b < m) (h4 : m < 2305843009213693952) :
    Calls Tryz.prog 184 #[.int .i64 a, .int .i64 b, .int .i64 m] w fun e w' => e = .returned (.int .i64 (a * b % m)) ∧ Up w w' := by
  have p0 : 0 ≤ a * b := Int.mul_nonneg h0 h2
  have p1 : a * b < m * 18446744073709551616 := by
    have : a * b ≤ m * b := Int.mul_le_mul_of_nonneg_right (by omega) h2
    have : m * b ≤ m * 2305843009213693952 := Int.mul_le_mul_of_nonneg_left (by omega) (by omega)
    omega
  have e1 : a * b / 18446744073709551616 * 18446744073709551616 + a * b % 18446744073709551616 = a * b := by omega
  have E1 := hid e1
  have q1 : a * b / 18446744073709551616 < m := by omega
  have q0 : 0 ≤ a * b / 18446744073709551616 := by omega
  have r0 : 0 ≤ a * b % 18446744073709551616 := by omega
  have r1 : a * b % 18446744073709551616 ≤ 18446744073709551615 := by omega
  have s0 : 0 ≤ a * b % m := Int.emod_nonneg _ (by omega)
  have s1 : a * b % m < m := Int.emod_lt_of_pos _ (by omega)
  clear e1 p0 p1
  generalize hX : a * b / 18446744073709551616 = X at *
  generalize hY : a * b % 18446744073709551616 = Y at *
  have HX := hid hX
  have HY := hid hY
  clear hX hY
  go_enter Tryz.func184, Tryz.ntmps184
  go_wp2_with fail
  refine (mul64_any a b h0 (by omega) h2 (by omega) _).mono ?_
  rintro e w' ⟨rfl, rfl⟩
  rw [HX.out, HY.out]
  go_wp2_with fail
  refine (div64_any X Y m q0 q1 r0 r1 (by omega) _).mono ?_
  rintro e w' ⟨rfl, hU⟩
  rw [E1.out]
  go_wp2
  go_ret
  exact ⟨rfl, hU⟩

theorem Mul_ok (a b m : Int) (w : World) (h0 : 0 ≤ a) (h1 : a < m) (h2 : 0 ≤ b) (h3 : b < m) (h4 : m < 2305843009213693952) :
    Calls Tryz.prog 119 #[.int .i64 a, .int .i64 b, .int .i64 m] w fun e w' => e = .returned (.tuple #[.int .i64 (a * b % m), .int .i64 0]) ∧ Up w w' := by
  go_enter Tryz.func119, Tryz.ntmps119
  go_wp2_with fail
  refine (check_ok a b m _ h0 h1 h2 h3 h4).mono ?_
  rintro e w' ⟨rfl, rfl⟩
  go_wp2_with fail
  refine (wmul_any a b m _ h0 h1 h2 h3 h4).mono ?_
  rintro e w' ⟨rfl, hU⟩
  go_wp2
  go_ret2
  exact ⟨rfl, hU⟩

theorem Pow_ok (a e m : Int) (w : World) (h0 : 0 ≤ a) (h1 : a < m) (h2 : 0 ≤ e) (h3 : e ≤ 9223372036854775807) (h4 : m < 2305843009213693952) :
    Calls Tryz.prog 139 #[.int .i64 a, .int .i64 e, .int .i64 m] w fun r w' => r = .returned (.tuple #[.int .i64 (pw a e.toNat m), .int .i64 0]) ∧ Up w w' := by
  have t0 : decide (e < 0) = false := by simp; omega
  have hm0 : (m == 0) = false := by simp; omega
  have m0 : 0 ≤ (1 : Int) % m := Int.emod_nonneg _ (by omega)
  have m1 : (1 : Int) % m < m := Int.emod_lt_of_pos _ (by omega)
  go_enter Tryz.func139, Tryz.ntmps139
  go_wp2_with fail
  refine (check_ok a a m _ h0 h1 h0 h1 h4).mono ?_
  rintro r w' ⟨rfl, rfl⟩
  go_wp2_with fail
  go_loopw [0, 1, 9] (fun va ve vx wr => ∃ (a' : Int) (k : Nat) (x : Int), va = .int .i64 a' ∧ ve = .int .i64 k ∧ vx = .int .i64 x ∧ 0 ≤ a' ∧ a' < m ∧ 0 ≤ x ∧ x < m ∧ k ≤ 9223372036854775807 ∧ x * a' ^ k % m = pw a e.toNat m ∧ Up w wr) (fun _ ve _ _ => (intOf ve).toNat)
  case atStart =>
    refine ⟨a, e.toNat, 1 % m, rfl, by rw [Int.toNat_of_nonneg h2], rfl, h0, h1, m0, m1, by omega, ?_, Up.refl w⟩
    rw [emul (emod_self 1 m) rfl, Int.one_mul]; rfl
  case round =>
    obtain ⟨a', k, x, rfl, rfl, rfl, a0, a1, x0, x1, k1, hI, hU⟩ := hrel
    have HI := hid hI
    clear hI
    have p0 : 0 ≤ a' * a' % m := Int.emod_nonneg _ (by omega)
    have p1 : a' * a' % m < m := Int.emod_lt_of_pos _ (by omega)
    have q0 : 0 ≤ x * a' % m := Int.emod_nonneg _ (by omega)
    have q1 : x * a' % m < m := Int.emod_lt_of_pos _ (by omega)
    by_cases hk : 0 < k
    · have hk2 : decide (0 < k) = true := by simpa using hk
      have hb : bits .and .i64 (k : Int) 1 = ((k % 2 : Nat) : Int) := by rw [i64_and1]; simp
      by_cases ho : k % 2 = 1
      · have ho2 : ((((k % 2 : Nat) : Int)) == 1) = true := by rw [ho]; rfl
        have HO := hid ho
        clear ho
        go_wp2_with fail
        refine (wmul_any x a' m _ x0 x1 a0 a1 h4).mono ?_
        rintro r w1 ⟨rfl, hU1⟩
        go_wp2_with fail
        refine (wmul_any a' a' m _ a0 a1 a0 a1 h4).mono ?_
        rintro r w2 ⟨rfl, hU2⟩
        go_wp2_with fail
        go_roundw
        case rel => exact ⟨_, k / 2, _, rfl, by simp, rfl, p0, p1, q0, q1, by omega, by rw [round_odd _ _ _ _ HO.out, HI.out], (hU.trans hU1).trans hU2⟩
        case measure => simp [intOf]; omega
      · have ho2 : ((((k % 2 : Nat) : Int)) == 1) = false := by
          have : k % 2 = 0 := by omega
          rw [this]; rfl
        have HO := hid (show k % 2 = 0 by omega)
        clear ho
        go_wp2_with fail
        refine (wmul_any a' a' m _ a0 a1 a0 a1 h4).mono ?_
        rintro r w2 ⟨rfl, hU2⟩
        go_wp2_with fail
        go_roundw
        case rel => exact ⟨_, k / 2, _, rfl, by simp, rfl, p0, p1, x0, x1, by omega, by rw [round_even _ _ _ _ HO.out, HI.out], hU.trans hU2⟩
        case measure => simp [intOf]; omega
    · have hk0 : k = 0 := by omega
      subst hk0
      go_wp2
      go_ret2
      refine ⟨?_, hU⟩
      rw [← HI.out]
      simp [Int.emod_eq_of_lt x0 x1]

theorem Reduce_ok (a m : Int) (w : World) (h0 : -9223372036854775808 ≤ a) (h1 : a ≤ 9223372036854775807) (h2 : 1 ≤ m) (h3 : m < 2305843009213693952) :
    Calls Tryz.prog 157 #[.int .i64 a, .int .i64 m] w fun e w' => e = .returned (.tuple #[.int .i64 (a % m), .int .i64 0]) ∧ w = w' := by
  have hm0 : (m == 0) = false := by simp; omega
  have ht := tmod_cases a m h2
  by_cases hs : 0 ≤ a
  · have ht2 : a.tmod m = a % m := Int.tmod_eq_emod_of_nonneg hs
    have b0 := Int.emod_nonneg a (show m ≠ 0 by omega)
    have hlt : decide (a % m < 0) = false := by simp; omega
    clear ht ht2
    go_enter Tryz.func157, Tryz.ntmps157
    go_wp2_with fail
    refine (check_ok 0 0 m _ (by omega) (by omega) (by omega) (by omega) h3).mono ?_
    rintro e w' ⟨rfl, rfl⟩
    go_wp2
    go_ret2
    exact ⟨rfl, rfl⟩
  · rcases ht with ⟨t0, t1, t2⟩ | ⟨t0, t1⟩
    · have T1 := hid t1
      clear t1
      go_enter Tryz.func157, Tryz.ntmps157
      go_wp2_with fail
      refine (check_ok 0 0 m _ (by omega) (by omega) (by omega) (by omega) h3).mono ?_
      rintro e w' ⟨rfl, rfl⟩
      go_wp2
      go_ret2
      exact ⟨by rw [← T1.out]; rfl, rfl⟩
    · have T1 := hid t1
      clear t1
      go_enter Tryz.func157, Tryz.ntmps157
      go_wp2_with fail
      refine (check_ok 0 0 m _ (by omega) (by omega) (by omega) (by omega) h3).mono ?_
      rintro e w' ⟨rfl, rfl⟩
      go_wp2
      go_ret2
      exact ⟨by rw [← T1.out]; rfl, rfl⟩

/-- What euclid returns: a common divisor d of a and m, and an x with a x = d modulo m. -/
def EuOut (a m : Int) (w : World) (e : Ending) (w' : World) : Prop :=
  ∃ d x : Int, e = .returned (.tuple #[.int .i64 d, .int .i64 x]) ∧ 1 ≤ d ∧ 0 ≤ x ∧ x < m ∧ m ∣ a * x - d ∧ d ∣ a ∧ d ∣ m ∧ Up w w'

theorem euclid_any (a m : Int) (w : World) (h0 : 0 ≤ a) (h1 : a < m) (h4 : m < 2305843009213693952) :
    Calls Tryz.prog 202 #[.int .i64 a, .int .i64 m] w (EuOut a m w) := by
  have hm0 : (m == 0) = false := by simp; omega
  go_enter Tryz.func202, Tryz.ntmps202
  go_wp2_with fail
  go_loop [0, 4, 5, 6] (fun vb vd vx vy => ∃ b d x y : Int, vb = .int .i64 b ∧ vd = .int .i64 d ∧ vx = .int .i64 x ∧ vy = .int .i64 y ∧ Eu a m d b x y) (fun vb _ _ _ => (intOf vb).toNat)
  case atStart => exact ⟨a, m, 0, 1, rfl, rfl, rfl, rfl, Eu.start h0 h1⟩
  case round =>
    obtain ⟨b, d, x, y, rfl, rfl, rfl, rfl, hE⟩ := hrel
    have b0 := hE.b0
    have d1 := hE.d1
    have dm := hE.dm
    have x0 := hE.x0
    have x1 := hE.x1
    obtain ⟨y0, y1⟩ := hE.y_bd
    by_cases hb : 1 ≤ b
    · obtain ⟨q0, q1, q2, q3, q4⟩ := hE.q_bd hb
      obtain ⟨r0, r1, r2, r3⟩ := hE.qy_bd hb
      have HS := hid (hE.step hb)
      clear hE
      have t1 : ((b : Int) != 0) = true := by simp; omega
      have t2 : ((b : Int) == 0) = false := by simp; omega
      obtain ⟨q, hq⟩ : ∃ q, d / b = q := ⟨_, rfl⟩
      have e1 : wrap64 (q * b) = q * b := IntWalk.wrap64_in _ ⟨by rw [← hq]; omega, by rw [← hq]; omega⟩
      have e2 : wrap64 (q * y) = q * y := IntWalk.wrap64_in _ ⟨by rw [← hq]; omega, by rw [← hq]; omega⟩
      rw [hq] at q0 q1 q2 q3 q4 r0 r1 r2 r3 HS
      go_wp2
      go_round
      case rel => exact ⟨_, _, _, _, rfl, rfl, rfl, rfl, HS.out⟩
      case measure => simp [intOf]; omega
    · have hb0 : b = 0 := by omega
      subst hb0
      have HS := hid hE
      clear hE
      by_cases hx : x < 0
      · have t1 : decide (x < 0) = true := by simpa using hx
        go_wp2
        go_quiet (fail)
        go_wp2
        go_ret2
        obtain ⟨f0, f1, f2, f3, f4⟩ := HS.out.done (x + m) ⟨1, by omega⟩
        exact ⟨d, _, rfl, d1, f0, f1, f2, f3, f4, (Up.refl w).drewN _⟩
      · have t1 : decide (x < 0) = false := by simpa using hx
        go_wp2
        go_quiet (fail)
        go_wp2
        go_ret2
        obtain ⟨f0, f1, f2, f3, f4⟩ := HS.out.done x ⟨0, by omega⟩
        exact ⟨d, _, rfl, d1, f0, f1, f2, f3, f4, (Up.refl w).drewN _⟩

/-- The inverse, where there is one. -/
theorem Inverse_ok (a m b : Int) (w : World) (h0 : 0 ≤ a) (h1 : a < m) (h4 : m < 2305843009213693952) (hb0 : 0 ≤ b) (hb1 : b < m) (hb : a * b % m = 1 % m) :
    Calls Tryz.prog 158 #[.int .i64 a, .int .i64 m] w fun e w' => e = .returned (.tuple #[.int .i64 b, .int .i64 0]) ∧ Up w w' := by
  have HB := hid hb
  clear hb
  go_enter Tryz.func158, Tryz.ntmps158
  go_wp2_with fail
  refine (check_ok a a m _ h0 h1 h0 h1 h4).mono ?_
  rintro e w' ⟨rfl, rfl⟩
  go_wp2_with fail
  refine (euclid_any a m _ h0 h1 h4).mono ?_
  rintro e w' ⟨d, x, rfl, d1, x0, x1, hx, da, dm, hU⟩
  have hd : d = 1 := by
    have h : d ∣ a * b % m := by
      rw [Int.emod_def]
      exact Int.dvd_sub (Int.dvd_trans da (Int.dvd_mul_right a b)) (Int.dvd_trans dm (Int.dvd_mul_right m _))
    have h2 : d ∣ 1 := by
      rw [HB.out, Int.emod_def] at h
      have := Int.dvd_add h (Int.dvd_trans dm (Int.dvd_mul_right m (1 / m)))
      rwa [Int.sub_add_cancel] at this
    exact Int.eq_one_of_dvd_one (by omega) h2
  subst hd
  have hxb : x = b := inv_unique hb0 hb1 x0 x1 HB.out (Int.emod_eq_emod_iff_emod_sub_eq_zero.2 (Int.emod_eq_zero_of_dvd hx))
  subst hxb
  clear hx da dm
  go_wp2
  go_ret2
  exact ⟨rfl, hU⟩

/-- Is b an inverse of a? -/
def HasInv (a m : Int) : Prop := ∃ b, 0 ≤ b ∧ b < m ∧ a * b % m = 1 % m

theorem Inverse_zero (a m : Int) (w : World) (h0 : 0 ≤ a) (h1 : a < m) (h4 : m < 2305843009213693952) (hn : ¬ HasInv a m) :
    Calls Tryz.prog 158 #[.int .i64 a, .int .i64 m] w fun e w' => e = .returned (.tuple #[.int .i64 0, .int .i64 10]) ∧ Up w w' := by
  have HB := hid hn
  clear hn
  go_enter Tryz.func158, Tryz.ntmps158
  go_wp2_with fail
  refine (check_ok a a m _ h0 h1 h0 h1 h4).mono ?_
  rintro e w' ⟨rfl, rfl⟩
  go_wp2_with fail
  refine (euclid_any a m _ h0 h1 h4).mono ?_
  rintro e w' ⟨d, x, rfl, d1, x0, x1, hx, da, dm, hU⟩
  have hd : ((d : Int) != 1) = true := by
    rw [bne_iff_ne]
    rintro rfl
    exact HB.out ⟨x, x0, x1, Int.emod_eq_emod_iff_emod_sub_eq_zero.2 (Int.emod_eq_zero_of_dvd hx)⟩
  clear hx da dm
  go_wp2
  go_ret2
  exact ⟨rfl, hU⟩

theorem Add_ok (a b m : Int) (w : World) (h0 : 0 ≤ a) (h1 : a < m) (h2 : 0 ≤ b) (h3 : b < m) (h4 : m < 2305843009213693952) :
    Calls Tryz.prog 153 #[.int .i64 a, .int .i64 b, .int .i64 m] w fun e w' => e = .returned (.tuple #[.int .i64 ((a + b) % m), .int .i64 0]) ∧ Up w w' := by
  have hm0 : (m == 0) = false := by simp; omega
  go_enter Tryz.func153, Tryz.ntmps153
  go_wp2_with fail
  refine (check_ok a b m _ h0 h1 h2 h3 h4).mono ?_
  rintro e w' ⟨rfl, rfl⟩
  go_wp2
  go_ret2
  exact ⟨rfl, Up.refl _⟩

theorem Sub_ok (a b m : Int) (w : World) (h0 : 0 ≤ a) (h1 : a < m) (h2 : 0 ≤ b) (h3 : b < m) (h4 : m < 2305843009213693952) :
    Calls Tryz.prog 159 #[.int .i64 a, .int .i64 b, .int .i64 m] w fun e w' => e = .returned (.tuple #[.int .i64 ((a - b) % m), .int .i64 0]) ∧ Up w w' := by
  have hm0 : (m == 0) = false := by simp; omega
  go_enter Tryz.func159, Tryz.ntmps159
  go_wp2_with fail
  refine (check_ok a b m _ h0 h1 h2 h3 h4).mono ?_
  rintro e w' ⟨rfl, rfl⟩
  go_wp2
  go_ret2
  exact ⟨by rw [← Int.add_emod_right (a - b) m]; rfl, Up.refl _⟩
end Go.Proofs.YtdlcmpbpdbpanaaGreatDoor
