/- Package draw: sources as values; Valid, position, first. Plain arithmetic of a division of two words by one (Knuth): the estimate of a digit, its corrections. No program in sight. math/bits.Mul64 and math/bits.Div64, by walking their text. Plain arithmetic modulo m on integers: products, powers by squaring, the strong test. No program in sight. Package word: each function returns what the arithmetic of Arith says, for arguments in range. -/
import Derived.Test.YtkimojconidhlaaDoorMB3
import Derived.Test.YtkimojconidhlaaDoorProg
import Derived.Test.YtkimojconidhlaaDoorMB1
import Derived.Deep.CutRange
import Derived.Deep.CutBlock
import Derived.Deep.QuietTactic
import Derived.BigQuiet
import Derived.Lib.BitFns
import Derived.Lib.ItoaNum
import Derived.Lib.TrailingZeros
namespace Go.Proofs.YtkimojconidhlaaDoor
open Go.RowKit Go.Sp
set_option maxHeartbeats 2000000
set_option maxRecDepth 20000

/-- The cells of a source: the seed, and the counter. -/
def drwA (h : Nat → Int) (c : Int) : Array Value := (arrK .u8 h 32).push (.int .i64 c)
/-- A source as a value. -/
def drw (h : Nat → Int) (c : Int) : Value := .agg (drwA h c)
theorem drwA_size (h : Nat → Int) (c : Int) : (drwA h c).size = 33 := by simp [drwA, arrK_size]
theorem drwA_ctr (h : Nat → Int) (c : Int) : (drwA h c)[32]? = some (.int .i64 c) := by
  have : (arrK .u8 h 32).size = 32 := arrK_size
  rw [drwA, Array.getElem?_push, if_pos (by rw [this])]
theorem drwA_get (h : Nat → Int) (c : Int) {i : Nat} (hi : i < 32) : (drwA h c)[i]? = some (.int .u8 (h i)) := by
  have : (arrK .u8 h 32).size = 32 := arrK_size
  rw [drwA, Array.getElem?_push, if_neg (by rw [this]; omega), arrK_get hi]
theorem drwA_one (h : Nat → Int) (c : Int) : (drwA h c).all (·.oneCell') = true := by
  rw [drwA, Array.all_push, arrK_one]
  rfl

/-- Is a source valid? -/
def dvB (c : Int) : Bool := decide (0 ≤ c) && decide (c ≤ 1099511627776)
theorem dvB_iff {c : Int} : dvB c = true ↔ 0 ≤ c ∧ c ≤ 1099511627776 := by simp [dvB]

theorem draValid_any (h : Nat → Int) (c : Int) (w : World) : Calls Tryd.prog 18 #[drw h c] w fun e w' => e = .returned (.bool (dvB c)) ∧ Up w w' := by
  have HB : Hid (dvB c = (decide (0 ≤ c) && decide (c ≤ 1099511627776))) := hid rfl
  generalize dvB c = X at *
  have hq := drwA_ctr h c
  unfold drw
  generalize drwA h c = cs at *
  by_cases c1 : c ≥ 0
  case neg =>
    have d1 : decide (c ≥ 0) = false := by simpa using c1
    have hX : X = false := by rw [HB.out, show decide (0 ≤ c) = false from d1]; rfl
    subst hX
    clear c1
    go_enter Tryd.func18, Tryd.ntmps18
    go_wp2
    go_ret
    exact ⟨rfl, (Up.refl w).alloc _⟩
  have d1 : decide (c ≥ 0) = true := by simpa using c1
  have HB2 : Hid (X = decide (c ≤ 1099511627776)) := hid (by rw [HB.out, show decide (0 ≤ c) = true from d1]; rfl)
  clear HB
  go_enter Tryd.func18, Tryd.ntmps18
  go_wp2
  go_ret
  exact ⟨by rw [HB2.out]; rfl, (Up.refl w).alloc _⟩

/-- The bytes of a source: the seed, and the counter. -/
def posL (h : Nat → Int) (c : Int) : List Int := hList h ++ beL 8 c
theorem posL_length (h : Nat → Int) (c : Int) : (posL h c).length = 40 := by simp [posL, hList_length, beL_length]

theorem beL_take (c : Int) (k : Nat) (hk : k < 8) : (beL 8 c).take (k + 1) = (beL 8 c).take k ++ [c / 2 ^ (56 - 8 * k) % 256] := by
  rw [List.take_add_one]
  congr 1
  have : k < (beL 8 c).length := by rw [beL_length]; exact hk
  rw [List.getElem?_eq_getElem this]
  simp [beL, show 56 - 8 * k = 8 * (7 - k) by omega]

theorem seedAt {w : World} {b : Nat} {t : TypeId} {h : Nat → Int} {cs : Array Value} (hb : Blk w b t cs) (hc : ∀ i, i < 32 → cs[i]? = some (.int .u8 (h i))) : SeqAt .u8 w (.slice (some ⟨b, 0, none⟩) 32 32) (hList h) :=
  seq_block hb (hList h) 0 32 32 (hList_length h) (Nat.le_refl _) (by decide) fun i hi => by
    rw [Nat.zero_add, hc i hi]
    simp [hList, hi]

theorem position_any (h : Nat → Int) (c : Int) (w : World) :
    Calls Tryd.prog 94 #[drw h c] w fun e w' => ∃ v, e = .returned v ∧ OwnS 5 .u8 w' w.heap.size v (posL h c) ∧ Up w w' := by
  have hq := drwA_ctr h c
  have hget := fun i (hi : i < 32) => drwA_get h c hi
  unfold drw
  generalize drwA h c = cs at *
  have HG := hid hget
  have HQ := hid hq
  have HT := hid (beL_take c)
  have HL := hid (hList_length h)
  obtain ⟨S, hS⟩ : ∃ S, hList h = S := ⟨_, rfl⟩
  have HSd := hid (fun (w : World) (b : Nat) (t : TypeId) (hb : Blk w b t cs) => seedAt hb hget)
  rw [hS] at HL HSd
  have HP : Hid (posL h c = S ++ beL 8 c) := hid (by rw [posL, hS])
  clear hget hq hS
  go_enter Tryd.func94, Tryd.ntmps94
  go_wp2_with (at_builtin; refine wp_app infoU8 Tryd.underlying50 (by omega) rfl _ _ rfl (w.heap.size + 1) rfl rfl (own_empty (Blk.new (by simp) rfl) (Nat.le_refl _)) (HSd.out _ w.heap.size 30 (((Blk.new rfl rfl).alloc _))) (by have := HL.out; simp; omega) (by simp) ?_; intro v1 w1 hO1 hg1)
  have hB1 : Blk w1 w.heap.size 30 cs := by
    refine Blk.below (B := w.heap.size + 1) ((Blk.new rfl rfl).alloc _) (below_own (own_empty (e := 5) (k := .u8) (Blk.new (by simp) rfl) (Nat.le_refl _)) hg1 (by simp)) (by omega)
  have hU1 : Up w w1 := Up.own (((Up.refl w).alloc _).alloc _) (own_empty (e := 5) (k := .u8) (base := w.heap.size + 1) (Blk.new (by simp) rfl) (Nat.le_refl _)) hg1 (by omega)
  obtain ⟨o, ho⟩ : ∃ o, w.heap.size = o := ⟨_, rfl⟩
  rw [ho] at hB1 hO1
  rw [ho]
  have HOo := hid ho
  obtain ⟨n, hn⟩ : ∃ n, n = 32 := ⟨_, rfl⟩
  have HN := hid hn
  have HLen : Hid (∀ k, k ≤ 8 → (S ++ (beL 8 c).take k).length = n + k) := hid (fun k hk => by
    rw [List.length_append, HL.out, HN.out, List.length_take, beL_length]
    omega)
  rw [show ([] ++ S : List Int) = S ++ (beL 8 c).take 0 by simp] at hO1
  obtain ⟨p1, k1, rfl, _, _⟩ := hO1.shape
  have hl0 : (S ++ (beL 8 c).take 0).length = n := HLen.out 0 (by omega)
  rw [hl0] at hO1
  rw [hl0]
  clear hl0
  have HO1 := hid hO1
  have HB1 := hid hB1
  have HU1 := hid hU1
  have hnn : n ≤ 32 := by omega
  obtain ⟨i0, hi0⟩ : ∃ i0 : Int, i0 = 56 := ⟨_, rfl⟩
  have HI0 := hid hi0
  rw [← hi0]
  clear hO1 hB1 hU1 hg1 ho hn hi0
  go_loopw [3, 4] (fun vp vi wr => ∃ (k : Nat) (p : Option Addr) (cp : Nat) (j : Int), k ≤ 8 ∧ vi = .int .i64 j ∧ vp = .slice p (n + k) cp ∧ Hid (j = 56 - 8 * (k : Int)) ∧ Hid (OwnS 5 .u8 wr (o + 1) (.slice p (n + k) cp) (S ++ (beL 8 c).take k)) ∧ Hid (Blk wr o 30 cs) ∧ Hid (Up w wr)) (fun _ vi _ => (intOf vi + 8).toNat)
  case atStart => exact ⟨0, _, _, _, by omega, rfl, rfl, hid (by rw [HI0.out]; rfl), HO1, HB1, HU1⟩
  case round =>
    clear HO1 HB1 HU1 HI0
    obtain ⟨k, p, cp, j, hk, rfl, rfl, HJ, HO, HB, HU⟩ := hrel
    have hsz : o + 1 ≤ wr.heap.size := by have := HB.out.lt; omega
    by_cases hlt : k < 8
    · have hj := HJ.out
      have hj0 : 0 ≤ j := by omega
      have hj1 : j ≤ 56 := by omega
      have HJ2 : Hid (j.toNat = 56 - 8 * k) := hid (by omega)
      have HLk := hid (HLen.out k (by omega))
      have HLk1 := hid (HLen.out (k + 1) (by omega))
      have HTk : Hid (S ++ (beL 8 c).take k ++ [c / 2 ^ j.toNat % 256] = S ++ (beL 8 c).take (k + 1)) := hid (by rw [HT.out k hlt, HJ2.out, List.append_assoc])
      have q1 := HB.out.val HQ.out
      clear hj
      have d0 : decide (j ≥ 0) = true := by simpa using hj0
      obtain ⟨m, hme⟩ : ∃ m, n + k = m := ⟨_, rfl⟩
      have HM := hid hme
      have hm : m ≤ 40 := by omega
      rw [hme] at HO HLk
      rw [hme]
      clear hme
      go_wp2_with (at_builtin; refine wp_app infoU8 Tryd.underlying50 (by omega) rfl _ _ rfl (o + 1) rfl rfl (HO.out.up ((Up.refl wr).alloc _)) (seq_new _ _ _) (by have := HLk.out; simp; simp at this; omega) (by simp; omega) ?_; intro v' w' hO' hg')
      have hU' := (HU.out.alloc _).own (HO.out.up ((Up.refl wr).alloc _)) hg' (by have := HOo.out; omega)
      have hB' := (HB.out.alloc _).below (below_own (HO.out.up ((Up.refl wr).alloc _)) hg' (by simp; omega)) (by omega)
      rw [HTk.out] at hO'
      obtain ⟨p', k', rfl, _, _⟩ := hO'.shape
      rw [HLk1.out] at hO'
      rw [HLk1.out]
      have HO' := hid hO'
      have HB' := hid hB'
      have HU' := hid hU'
      have HJ3 : Hid (j - 8 = 56 - 8 * ((k + 1 : Nat) : Int)) := hid (by have := HJ.out; omega)
      clear hO' hB' hU' hg'
      go_roundw
      case rel => exact ⟨k + 1, _, _, _, by omega, rfl, rfl, HJ3, HO', HB', HU'⟩
      case measure => simp [intOf]; omega
    · obtain rfl : k = 8 := by omega
      have hj := HJ.out
      have hj0 : ¬ 0 ≤ j := by omega
      have d0 : decide (j ≥ 0) = false := by simpa using hj0
      have HE : Hid (S ++ (beL 8 c).take 8 = posL h c) := hid (by rw [HP.out, List.take_of_length_le (by rw [beL_length]; omega)])
      clear hj hj0
      go_wp2
      go_ret
      exact ⟨_, rfl, by rw [← HE.out]; exact HO.out.mono (by have := HOo.out; omega), HU.out⟩
end Go.Proofs.YtkimojconidhlaaDoor
namespace Go.Sp.Dv

/-- The estimate: U below Y = y1 B + y0. -/
theorem init {U y1 y0 n1 : Int} (h1 : 2147483648 ≤ y1) (h2 : y1 < 4294967296) (h3 : 0 ≤ y0) (h4 : y0 < 4294967296) (hU : 0 ≤ U) (hY : U < y1 * 4294967296 + y0) (hn : 0 ≤ n1) (hn2 : n1 < 4294967296) :
    0 ≤ U / y1 ∧ U / y1 ≤ 4294967297 ∧ 0 ≤ U - U / y1 * y1 ∧ U - U / y1 * y1 < y1 ∧ (U * 4294967296 + n1) / (y1 * 4294967296 + y0) ≤ U / y1 := by
  have e := Int.mul_ediv_add_emod U y1
  have m0 := Int.emod_nonneg U (show y1 ≠ 0 by omega)
  have m1 := Int.emod_lt_of_pos U (show 0 < y1 by omega)
  rw [Int.mul_comm] at e
  generalize U / y1 = q at *
  generalize U % y1 = r at *
  have q0 : 0 ≤ q := by
    refine Int.not_lt.1 fun hq => ?_
    have : q * y1 ≤ (-1) * y1 := Int.mul_le_mul_of_nonneg_right (by omega) (by omega)
    omega
  have q1 : q ≤ 4294967297 := by
    refine Int.not_lt.1 fun hq => ?_
    have : 4294967298 * y1 ≤ q * y1 := Int.mul_le_mul_of_nonneg_right (by omega) (by omega)
    omega
  refine ⟨q0, q1, by omega, by omega, ?_⟩
  refine Int.lt_add_one_iff.1 (Int.ediv_lt_of_lt_mul (by omega) ?_)
  have g : (q + 1) * (y1 * 4294967296 + y0) = q * y1 * 4294967296 + y1 * 4294967296 + (q * y0 + y0) := by grind
  have g2 : 0 ≤ q * y0 := Int.mul_nonneg q0 h3
  rw [g]
  generalize q * y1 = s at *
  generalize q * y0 = t at *
  omega

/-- The test says yes: the estimate is too great. -/
theorem down {U q r y1 y0 n1 : Int} (hr : q * y1 + r = U) (hU : 0 ≤ U) (hY : U < y1 * 4294967296 + y0) (hn : 0 ≤ n1) (hn2 : n1 < 4294967296)
    (ht : 4294967296 ≤ q ∨ 4294967296 * r + n1 < q * y0) : (U * 4294967296 + n1) / (y1 * 4294967296 + y0) ≤ q - 1 := by
  refine Int.lt_add_one_iff.1 (Int.ediv_lt_of_lt_mul (by omega) ?_)
  rw [show q - 1 + 1 = q by omega]
  have g : q * (y1 * 4294967296 + y0) = q * y1 * 4294967296 + q * y0 := by grind
  rcases ht with ht | ht
  · have := Int.mul_le_mul_of_nonneg_right ht (show (0 : Int) ≤ y1 * 4294967296 + y0 by omega)
    omega
  · rw [g]
    generalize q * y1 = s at *
    generalize q * y0 = t at *
    omega

/-- The test says no: the estimate is the digit. -/
theorem stop {U q r y1 y0 n1 : Int} (hr : q * y1 + r = U) (h1 : 2147483648 ≤ y1) (h3 : 0 ≤ y0)
    (hq : (U * 4294967296 + n1) / (y1 * 4294967296 + y0) ≤ q) (ht : q * y0 ≤ 4294967296 * r + n1) : (U * 4294967296 + n1) / (y1 * 4294967296 + y0) = q := by
  refine Int.le_antisymm hq ?_
  refine (Int.le_ediv_iff_mul_le (by omega)).2 ?_
  have g : q * (y1 * 4294967296 + y0) = q * y1 * 4294967296 + q * y0 := by grind
  rw [g]
  generalize q * y1 = s at *
  generalize q * y0 = t at *
  omega

/-- The rest has grown beyond a digit: likewise. -/
theorem over {U q r y1 y0 n1 : Int} (hr : q * y1 + r = U) (h1 : 2147483648 ≤ y1) (h3 : 0 ≤ y0) (h4 : y0 < 4294967296) (hn : 0 ≤ n1)
    (hq : (U * 4294967296 + n1) / (y1 * 4294967296 + y0) ≤ q) (hb : q ≤ 4294967296) (ht : 4294967296 ≤ r) : (U * 4294967296 + n1) / (y1 * 4294967296 + y0) = q := by
  refine stop hr h1 h3 hq ?_
  have := Int.mul_le_mul_of_nonneg_right hb h3
  omega

/-- The products that the test makes do not wrap. -/
theorem small {q y0 : Int} (q0 : 0 ≤ q) (q1 : q ≤ 4294967297) (h3 : 0 ≤ y0) (h4 : y0 < 4294967296) : 0 ≤ q * y0 ∧ q * y0 ≤ 18446744073709551615 := by
  have a := Int.mul_le_mul q1 (show y0 ≤ 4294967295 by omega) h3 (by omega)
  exact ⟨Int.mul_nonneg q0 h3, by omega⟩

/-- The rest of a digit's step, as the 64-bit numbers give it. -/
theorem rest {U Y n1 q : Int} (hY : 0 < Y) (hYs : Y ≤ 18446744073709551615) (hq : (U * 4294967296 + n1) / Y = q) :
    ((U * 4294967296 % 18446744073709551616 + n1) % 18446744073709551616 - q * Y % 18446744073709551616) % 18446744073709551616 = (U * 4294967296 + n1) % Y := by
  have e := Int.mul_ediv_add_emod (U * 4294967296 + n1) Y
  rw [hq, Int.mul_comm] at e
  have m0 := Int.emod_nonneg (U * 4294967296 + n1) (show Y ≠ 0 by omega)
  have m1 := Int.emod_lt_of_pos (U * 4294967296 + n1) hY
  generalize q * Y = s at *
  omega

theorem div_two {T Y n0 : Int} (hY : 0 < Y) :
    (T * 4294967296 + n0) / Y = T / Y * 4294967296 + (T % Y * 4294967296 + n0) / Y ∧ (T * 4294967296 + n0) % Y = (T % Y * 4294967296 + n0) % Y := by
  have e := Int.mul_ediv_add_emod T Y
  have k : T * 4294967296 + n0 = T % Y * 4294967296 + n0 + T / Y * 4294967296 * Y := by
    have : T / Y * 4294967296 * Y = Y * (T / Y) * 4294967296 := by grind
    omega
  constructor
  · rw [k, Int.add_mul_ediv_right _ _ (by omega)]; omega
  · rw [k, Int.add_mul_emod_self_right]

/-- A division by a multiple. -/
theorem scaled (N z : Int) (k : Int) (hk : 0 < k) : N * k / (z * k) = N / z ∧ N * k % (z * k) = N % z * k := by
  constructor
  · exact Int.mul_ediv_mul_of_pos_left _ _ hk
  · have e := Int.mul_ediv_add_emod (N * k) (z * k)
    rw [Int.mul_ediv_mul_of_pos_left _ _ hk] at e
    have e2 := Int.mul_ediv_add_emod N z
    have : z * k * (N / z) = z * (N / z) * k := by grind
    have h3 : N * k = z * (N / z) * k + N % z * k := by rw [← Int.add_mul, e2]
    omega
end Go.Sp.Dv
namespace Go.Proofs.YtkimojconidhlaaDoor
open Go.RowKit Go.Sp
set_option maxHeartbeats 400000

theorem mul64_any (x y : Int) (hx0 : 0 ≤ x) (hx : x < 18446744073709551616) (hy0 : 0 ≤ y) (hy : y < 18446744073709551616) (w : World) :
    Calls Tryd.prog 87 #[.int .u64 x, .int .u64 y] w fun e w' => e = .returned (.tuple #[.int .u64 (x * y / 18446744073709551616), .int .u64 (x * y % 18446744073709551616)]) ∧ w = w' := by
  have hm := hid (mul64_arith x y hx0 hx hy0 hy)
  go_enter Tryd.func87, Tryd.ntmps87
  go_wp2
  go_ret2
  refine ⟨?_, rfl⟩
  rw [← hm.out]
  simp only [IntKind.wrap_u64]
  rw [and_low32 x hx0 hx, and_low32 y hy0 hy, and_low32 _ (by omega) (by omega)]
  rfl

/-- The shift that brings z's highest bit to the front. -/
theorem shift_facts (z : Int) (h0 : 1 ≤ z) (h1 : z ≤ 18446744073709551615) :
    0 ≤ 64 - (Lib.bitLen z.toNat : Int) ∧ 64 - (Lib.bitLen z.toNat : Int) ≤ 63 ∧ 9223372036854775808 ≤ z * 2 ^ (64 - (Lib.bitLen z.toNat : Int)).toNat ∧ z * 2 ^ (64 - (Lib.bitLen z.toNat : Int)).toNat ≤ 18446744073709551615 := by
  obtain ⟨n, rfl⟩ := Int.eq_ofNat_of_zero_le (show 0 ≤ z by omega)
  rw [Int.toNat_natCast]
  obtain ⟨b1, b2, b3⟩ := Lib.bitLenAux_bounds 64 n (by omega) (by omega)
  have b4 : Lib.bitLen n ≤ 64 := Lib.bitLen_le n 64 (by omega) (by omega)
  change 1 ≤ Lib.bitLen n at b1
  change 2 ^ (Lib.bitLen n - 1) ≤ n at b2
  change n < 2 ^ Lib.bitLen n at b3
  generalize Lib.bitLen n = l at *
  refine ⟨by omega, by omega, ?_⟩
  rw [show (64 - (l : Int)).toNat = 64 - l by omega]
  have p1 : 2 ^ (l - 1) * 2 ^ (64 - l) = 2 ^ 63 := by rw [← Nat.pow_add]; congr 1; omega
  have p2 : 2 ^ l * 2 ^ (64 - l) = 2 ^ 64 := by rw [← Nat.pow_add]; congr 1; omega
  have q0 : 0 < 2 ^ (64 - l) := Nat.two_pow_pos _
  have q1 := Nat.mul_le_mul_right (2 ^ (64 - l)) b2
  have q2 := Nat.mul_lt_mul_of_pos_right b3 q0
  rw [p1] at q1
  rw [p2] at q2
  have e : (n : Int) * 2 ^ (64 - l) = ((n * 2 ^ (64 - l) : Nat) : Int) := by simp
  rw [e]
  omega

/-- What the shifts give. -/
theorem shifted (x y z s : Int) (hx0 : 1 ≤ x) (hx : x < z) (hy0 : 0 ≤ y) (hy : y ≤ 18446744073709551615) (s0 : 0 ≤ s) (s1 : s ≤ 63) (z2 : z * 2 ^ s.toNat ≤ 18446744073709551615) :
    0 ≤ bits .or .u64 (IntKind.u64.wrap (x * 2 ^ s.toNat)) (y / 2 ^ (64 - s).toNat) ∧
    bits .or .u64 (IntKind.u64.wrap (x * 2 ^ s.toNat)) (y / 2 ^ (64 - s).toNat) < z * 2 ^ s.toNat ∧
    0 ≤ IntKind.u64.wrap (y * 2 ^ s.toNat) ∧ IntKind.u64.wrap (y * 2 ^ s.toNat) ≤ 18446744073709551615 ∧
    bits .or .u64 (IntKind.u64.wrap (x * 2 ^ s.toNat)) (y / 2 ^ (64 - s).toNat) * 18446744073709551616 + IntKind.u64.wrap (y * 2 ^ s.toNat) = (x * 18446744073709551616 + y) * 2 ^ s.toNat := by
  obtain ⟨k, rfl⟩ := Int.eq_ofNat_of_zero_le s0
  rw [show (64 - (k : Int)).toNat = 64 - k by omega, Int.toNat_natCast] at *
  have p : (2 : Int) ^ k * 2 ^ (64 - k) = 18446744073709551616 := by rw [← Int.pow_add, show k + (64 - k) = 64 by omega]; rfl
  have K0 : (0 : Int) < 2 ^ k := Int.pow_pos (by decide)
  have L0 : (0 : Int) < 2 ^ (64 - k) := Int.pow_pos (by decide)
  have hm : (x * 2 ^ k) % 2 ^ k = 0 := Int.mul_emod_left _ _
  have hjoin := fun a b => bits_join .u64 64 (by decide) (fun n h0 h1 => by rw [IntKind.wrap_u64]; omega) k a b
  generalize (2 : Int) ^ k = K at *
  generalize (2 : Int) ^ (64 - k) = L at *
  have a1 : x * K < z * K := Int.mul_lt_mul_of_pos_right hx K0
  have a2 : 0 ≤ x * K := Int.mul_nonneg (by omega) (by omega)
  have a3 : x * K + K ≤ z * K := by
    have := Int.mul_le_mul_of_nonneg_right (show x + 1 ≤ z by omega) (show 0 ≤ K by omega)
    rw [Int.add_mul, Int.one_mul] at this; exact this
  have d := Int.mul_ediv_add_emod y L
  have d0 := Int.emod_nonneg y (show L ≠ 0 by omega)
  have d1 := Int.emod_lt_of_pos y L0
  have d2 : 0 ≤ y / L := Int.ediv_nonneg hy0 (by omega)
  have d3 : y / L < K := Int.ediv_lt_of_lt_mul L0 (by omega)
  have w1 : IntKind.u64.wrap (x * K) = x * K := by rw [IntKind.wrap_u64]; omega
  have jo := hjoin (x * K) (y / L) a2 hm (by omega) d2 d3 (by omega)
  have w2 : IntKind.u64.wrap (y * K) = y % L * K := by
    rw [IntKind.wrap_u64]
    have e : y * K = y % L * K + y / L * 18446744073709551616 := by
      rw [← p]; conv => lhs; rw [← d]
      grind
    have b1 : 0 ≤ y % L * K := Int.mul_nonneg d0 (by omega)
    have b2 : y % L * K < L * K := Int.mul_lt_mul_of_pos_right d1 K0
    rw [Int.mul_comm L K, p] at b2
    rw [e, Int.add_mul_emod_self_right]
    omega
  have b1 : 0 ≤ y % L * K := Int.mul_nonneg d0 (by omega)
  have b2 : y % L * K < L * K := Int.mul_lt_mul_of_pos_right d1 K0
  rw [Int.mul_comm L K, p] at b2
  rw [w1, jo, w2]
  refine ⟨by omega, by omega, b1, by omega, ?_⟩
  conv => rhs; rw [← d]
  rw [← p]
  grind

/-- Both digits put together. -/
theorem joined {x y z U V Z n1 n0 d d0 R1 : Int} {k : Nat} (hz : 1 ≤ z) (eZ : z * 2 ^ k = Z) (uv : U * 18446744073709551616 + V = (x * 18446744073709551616 + y) * 2 ^ k) (En : V = n1 * 4294967296 + n0)
    (hd : (U * 4294967296 + n1) / Z = d) (hR : (U * 4294967296 + n1) % Z = R1) (hd0 : (R1 * 4294967296 + n0) / Z = d0) :
    (x * 18446744073709551616 + y) / z = d * 4294967296 + d0 ∧ (x * 18446744073709551616 + y) % z = (R1 * 4294967296 + n0) % Z / 2 ^ k := by
  have K0 : (0 : Int) < 2 ^ k := Int.pow_pos (by decide)
  have Z0 : 0 < Z := by rw [← eZ]; exact Int.mul_pos (by omega) K0
  obtain ⟨s1, s2⟩ := Dv.scaled (x * 18446744073709551616 + y) z (2 ^ k) K0
  obtain ⟨t1, t2⟩ := Dv.div_two (T := U * 4294967296 + n1) (Y := Z) (n0 := n0) Z0
  rw [hd, hR, hd0] at t1
  rw [hR] at t2
  have e : (x * 18446744073709551616 + y) * 2 ^ k = (U * 4294967296 + n1) * 4294967296 + n0 := by rw [← uv, En]; omega
  rw [eZ, e] at s1 s2
  refine ⟨by rw [← s1, t1], ?_⟩
  rw [← t2, s2, Int.mul_ediv_cancel _ (by omega)]

set_option maxHeartbeats 1000000 in
set_option maxRecDepth 100000 in
theorem div64_big (x y z : Int) (hx0 : 1 ≤ x) (hx : x < z) (hy0 : 0 ≤ y) (hy : y ≤ 18446744073709551615) (hz : z ≤ 18446744073709551615) (w : World) :
    Calls Tryd.prog 88 #[.int .u64 x, .int .u64 y, .int .u64 z] w fun e w' => e = .returned (.tuple #[.int .u64 ((x * 18446744073709551616 + y)/z), .int .u64 ((x * 18446744073709551616 + y) % z)]) ∧ w = w' := by
  have hl := fun w => (Tryd.bits_LeadingZeros64 z w (by omega) hz).mono fun e w' (h : _ ∧ w' = w) => (⟨h.1, h.2.symm⟩ : _ ∧ w = w')
  obtain ⟨l0, l1, z1, z2⟩ := shift_facts z (by omega) hz
  obtain ⟨u0, u1, v0, v1, uv⟩ := shifted x y z _ hx0 hx hy0 hy l0 l1 z2
  generalize 64 - (Lib.bitLen z.toNat : Int) = s at *
  obtain ⟨Z, eZ⟩ : ∃ Z, z * 2 ^ s.toNat = Z := ⟨_, rfl⟩
  obtain ⟨U, eU⟩ : ∃ U, bits .or .u64 (IntKind.u64.wrap (x * 2 ^ s.toNat)) (y / 2 ^ (64 - s).toNat) = U := ⟨_, rfl⟩
  obtain ⟨V, eV⟩ : ∃ V, IntKind.u64.wrap (y * 2 ^ s.toNat) = V := ⟨_, rfl⟩
  rw [eZ] at z1 z2 u1
  rw [eU] at u0 u1 uv
  rw [eV] at v0 v1 uv
  have eW : IntKind.u64.wrap (z * 2 ^ s.toNat) = Z := by rw [eZ, IntKind.wrap_u64]; omega
  have aZ : bits .and .u64 Z 4294967295 = Z % 4294967296 := and_low32 Z (by omega) (by omega)
  have aV : bits .and .u64 V 4294967295 = V % 4294967296 := and_low32 V (by omega) (by omega)
  obtain ⟨y1, ey1⟩ : ∃ y1, Z / 4294967296 = y1 := ⟨_, rfl⟩
  obtain ⟨y0, ey0⟩ : ∃ y0, Z % 4294967296 = y0 := ⟨_, rfl⟩
  obtain ⟨n1, en1⟩ : ∃ n1, V / 4294967296 = n1 := ⟨_, rfl⟩
  obtain ⟨n0, en0⟩ : ∃ n0, V % 4294967296 = n0 := ⟨_, rfl⟩
  have Ey : Z = y1 * 4294967296 + y0 := by omega
  have En : V = n1 * 4294967296 + n0 := by omega
  have by1 : 2147483648 ≤ y1 := by omega
  have by1' : y1 < 4294967296 := by omega
  have by0 : 0 ≤ y0 := by omega
  have by0' : y0 < 4294967296 := by omega
  have bn1 : 0 ≤ n1 := by omega
  have bn1' : n1 < 4294967296 := by omega
  have bn0 : 0 ≤ n0 := by omega
  have bn0' : n0 < 4294967296 := by omega
  have HE := hid Ey
  have HN := hid En
  have HZ := hid eZ
  have HU := hid uv
  rw [Ey] at u1
  obtain ⟨i0, i1, i2, i3, i4⟩ := Dv.init by1 by1' by0 by0' u0 u1 bn1 bn1'
  have i5 : 0 ≤ U / y1 * y1 := Int.mul_nonneg i0 (by omega)
  have eqr : IntKind.u64.wrap (U / y1 * y1) = U / y1 * y1 := by rw [IntKind.wrap_u64]; omega
  have HI := hid i4
  have hxz : (x == 0) = false := by simp; omega
  have hzz : (z == 0) = false := by simp; omega
  have hzx : decide (z ≤ x) = false := by simp; omega
  have hy1z : (y1 == 0) = false := by simp; omega
  clear eZ uv Ey En i4
  go_enter Tryd.func88, Tryd.ntmps88
  go_upto_region 15 with (go_at_call 97; refine (hl _).mono ?_; rintro e w' ⟨rfl, rfl⟩)
  go_upto_block 0 with fail
  clear eqr hl
  go_cut [15] from 67 (fun a w' => a = .int .u64 ((U * 4294967296 + n1) / (y1 * 4294967296 + y0)) ∧ w' = w)
  case first =>
    go_wp2_with fail
    go_loop [15, 16] (fun a b => ∃ q r : Int, a = .int .u64 q ∧ b = .int .u64 r ∧ q * y1 + r = U ∧ 0 ≤ q ∧ q ≤ 4294967297 ∧ 0 ≤ r ∧ r < 4294967296 ∧ (U * 4294967296 + n1) / (y1 * 4294967296 + y0) ≤ q) (fun a _ => (intOf a).toNat)
    case atStart => exact ⟨_, _, rfl, rfl, by omega, i0, i1, i2, by omega, HI.out⟩
    case round =>
      obtain ⟨q, r, rfl, rfl, hr, q0, q1, r0, r1, hT⟩ := hrel
      obtain ⟨m0, m1⟩ := Dv.small q0 q1 by0 by0'
      have e1 : IntKind.u64.wrap (q * y0) = q * y0 := by rw [IntKind.wrap_u64]; omega
      have e2 : IntKind.u64.wrap (4294967296 * r) = 4294967296 * r := by rw [IntKind.wrap_u64]; omega
      have HR := hid hr
      have HT := hid hT
      clear hr hT
      have key : (4294967296 ≤ q ∨ 4294967296 * r + n1 < q * y0) → (U * 4294967296 + n1) / (y1 * 4294967296 + y0) ≤ q - 1 := Dv.down HR.out u0 u1 bn1 bn1'
      by_cases t1 : decide (4294967296 ≤ q) = true
      · have k1 := key (.inl (by simpa using t1))
        have q1' : 1 ≤ q := by simp at t1; omega
        by_cases t3 : decide (4294967296 ≤ r + y1) = true
        · have hd := Dv.over (q := q - 1) (r := r + y1) (U := U) (by rw [← HR.out, Int.sub_mul]; omega) by1 by0 by0' bn1 k1 (by omega) (by simpa using t3)
          have HD := hid hd
          clear hd k1 key
          go_wp2_with fail
          go_meet
          case rel => exact ⟨by rw [HD.out], rfl⟩
        · clear key
          have HK := hid k1
          clear k1
          have t3 : decide (4294967296 ≤ r + y1) = false := by simpa using t3
          have b3 : r + y1 < 4294967296 := by simpa using t3
          go_wp2_with fail
          go_round
          case rel => exact ⟨q - 1, r + y1, rfl, rfl, by rw [← HR.out, Int.sub_mul]; omega, by omega, by omega, by omega, b3, HK.out⟩
          case measure => simp [intOf]; omega
      · have t1 : decide (4294967296 ≤ q) = false := by simpa using t1
        have q2 : q < 4294967296 := by simpa using t1
        by_cases t2 : decide (4294967296 * r + n1 < q * y0) = true
        · have k1 := key (.inr (by simpa using t2))
          have q1' : 1 ≤ q := by
            refine Int.not_lt.1 fun hq => ?_
            have : q = 0 := by omega
            subst this; simp at t2; omega
          by_cases t3 : decide (4294967296 ≤ r + y1) = true
          · have hd := Dv.over (q := q - 1) (r := r + y1) (U := U) (by rw [← HR.out, Int.sub_mul]; omega) by1 by0 by0' bn1 k1 (by omega) (by simpa using t3)
            have HD := hid hd
            clear hd k1 key
            go_wp2_with fail
            go_meet
            case rel => exact ⟨by rw [HD.out], rfl⟩
          · clear key
            have HK := hid k1
            clear k1
            have t3 : decide (4294967296 ≤ r + y1) = false := by simpa using t3
            have b3 : r + y1 < 4294967296 := by simpa using t3
            go_wp2_with fail
            go_round
            case rel => exact ⟨q - 1, r + y1, rfl, rfl, by rw [← HR.out, Int.sub_mul]; omega, by omega, by omega, by omega, b3, HK.out⟩
            case measure => simp [intOf]; omega
        · have t2 : decide (4294967296 * r + n1 < q * y0) = false := by simpa using t2
          have hd := Dv.stop HR.out by1 by0 HT.out (by simpa using t2)
          have HD := hid hd
          clear hd key
          go_wp2_with fail
          go_meet
          case rel => exact ⟨by rw [HD.out], rfl⟩
  case rest =>
    obtain ⟨rfl, hw'⟩ := hcut
    subst hw'
    have T0 : 0 ≤ U * 4294967296 + n1 := by omega
    have d0 : 0 ≤ (U * 4294967296 + n1) / (y1 * 4294967296 + y0) := Int.ediv_nonneg T0 (by omega)
    have d1 : (U * 4294967296 + n1) / (y1 * 4294967296 + y0) < 4294967296 := Int.ediv_lt_of_lt_mul (by omega) (by omega)
    obtain ⟨d, ed⟩ : ∃ d, (U * 4294967296 + n1) / (y1 * 4294967296 + y0) = d := ⟨_, rfl⟩
    rw [ed] at d0 d1 ⊢
    have eD := ed
    rw [← HE.out] at eD
    have hrest := Dv.rest (U := U) (n1 := n1) (show 0 < Z by omega) z2 eD
    have R0 : 0 ≤ (U * 4294967296 + n1) % Z := Int.emod_nonneg _ (by omega)
    have R2 : (U * 4294967296 + n1) % Z < Z := Int.emod_lt_of_pos _ (by omega)
    obtain ⟨R1, eR⟩ : ∃ R1, (U * 4294967296 + n1) % Z = R1 := ⟨_, rfl⟩
    rw [eR] at hrest R0 R2
    rw [HE.out] at R2
    have eS : IntKind.u64.wrap (IntKind.u64.wrap (IntKind.u64.wrap (U * 4294967296) + n1) - IntKind.u64.wrap (d * Z)) = R1 := by
      simp only [IntKind.wrap_u64]; exact hrest
    obtain ⟨j0, j1, j2, j3, j4⟩ := Dv.init by1 by1' by0 by0' R0 R2 bn0 bn0'
    have j5 : 0 ≤ R1 / y1 * y1 := Int.mul_nonneg j0 (by omega)
    have eqr : IntKind.u64.wrap (R1 / y1 * y1) = R1 / y1 * y1 := by rw [IntKind.wrap_u64]; omega
    have HJ := hid j4
    have HD1 := hid eD
    have HR1 := hid eR
    clear j4 eD ed eR hrest
    go_upto_block 2 with fail
    clear eqr
    go_cut [18] from 102 (fun a w' => a = .int .u64 ((R1 * 4294967296 + n0) / (y1 * 4294967296 + y0)) ∧ w' = wc)
    case first =>
      go_wp2_with fail
      go_loop [18, 16] (fun a b => ∃ q r : Int, a = .int .u64 q ∧ b = .int .u64 r ∧ q * y1 + r = R1 ∧ 0 ≤ q ∧ q ≤ 4294967297 ∧ 0 ≤ r ∧ r < 4294967296 ∧ (R1 * 4294967296 + n0) / (y1 * 4294967296 + y0) ≤ q) (fun a _ => (intOf a).toNat)
      case atStart => exact ⟨_, _, rfl, rfl, by omega, j0, j1, j2, by omega, HJ.out⟩
      case round =>
        obtain ⟨q, r, rfl, rfl, hr, q0, q1, r0, r1, hT⟩ := hrel
        obtain ⟨m0, m1⟩ := Dv.small q0 q1 by0 by0'
        have e1 : IntKind.u64.wrap (q * y0) = q * y0 := by rw [IntKind.wrap_u64]; omega
        have e2 : IntKind.u64.wrap (4294967296 * r) = 4294967296 * r := by rw [IntKind.wrap_u64]; omega
        have HR := hid hr
        have HT := hid hT
        clear hr hT
        have key : (4294967296 ≤ q ∨ 4294967296 * r + n0 < q * y0) → (R1 * 4294967296 + n0) / (y1 * 4294967296 + y0) ≤ q - 1 := Dv.down HR.out R0 R2 bn0 bn0'
        by_cases t1 : decide (4294967296 ≤ q) = true
        · have k1 := key (.inl (by simpa using t1))
          have q1' : 1 ≤ q := by simp at t1; omega
          by_cases t3 : decide (4294967296 ≤ r + y1) = true
          · have hd := Dv.over (q := q - 1) (r := r + y1) (U := R1) (by rw [← HR.out, Int.sub_mul]; omega) by1 by0 by0' bn0 k1 (by omega) (by simpa using t3)
            have HD := hid hd
            clear hd k1 key
            go_wp2_with fail
            go_meet
            case rel => exact ⟨by rw [HD.out], rfl⟩
          · clear key
            have HK := hid k1
            clear k1
            have t3 : decide (4294967296 ≤ r + y1) = false := by simpa using t3
            have b3 : r + y1 < 4294967296 := by simpa using t3
            go_wp2_with fail
            go_round
            case rel => exact ⟨q - 1, r + y1, rfl, rfl, by rw [← HR.out, Int.sub_mul]; omega, by omega, by omega, by omega, b3, HK.out⟩
            case measure => simp [intOf]; omega
        · have t1 : decide (4294967296 ≤ q) = false := by simpa using t1
          have q2 : q < 4294967296 := by simpa using t1
          by_cases t2 : decide (4294967296 * r + n0 < q * y0) = true
          · have k1 := key (.inr (by simpa using t2))
            have q1' : 1 ≤ q := by
              refine Int.not_lt.1 fun hq => ?_
              have : q = 0 := by omega
              subst this; simp at t2; omega
            by_cases t3 : decide (4294967296 ≤ r + y1) = true
            · have hd := Dv.over (q := q - 1) (r := r + y1) (U := R1) (by rw [← HR.out, Int.sub_mul]; omega) by1 by0 by0' bn0 k1 (by omega) (by simpa using t3)
              have HD := hid hd
              clear hd k1 key
              go_wp2_with fail
              go_meet
              case rel => exact ⟨by rw [HD.out], rfl⟩
            · clear key
              have HK := hid k1
              clear k1
              have t3 : decide (4294967296 ≤ r + y1) = false := by simpa using t3
              have b3 : r + y1 < 4294967296 := by simpa using t3
              go_wp2_with fail
              go_round
              case rel => exact ⟨q - 1, r + y1, rfl, rfl, by rw [← HR.out, Int.sub_mul]; omega, by omega, by omega, by omega, b3, HK.out⟩
              case measure => simp [intOf]; omega
          · have t2 : decide (4294967296 * r + n0 < q * y0) = false := by simpa using t2
            have hd := Dv.stop HR.out by1 by0 HT.out (by simpa using t2)
            have HD := hid hd
            clear hd key
            go_wp2_with fail
            go_meet
            case rel => exact ⟨by rw [HD.out], rfl⟩
    case rest =>
      obtain ⟨rfl, hw'⟩ := hcut
      subst hw'
      have T0' : 0 ≤ R1 * 4294967296 + n0 := by omega
      have f0 : 0 ≤ (R1 * 4294967296 + n0) / (y1 * 4294967296 + y0) := Int.ediv_nonneg T0' (by omega)
      have f1 : (R1 * 4294967296 + n0) / (y1 * 4294967296 + y0) < 4294967296 := Int.ediv_lt_of_lt_mul (by omega) (by omega)
      obtain ⟨f, ef⟩ : ∃ f, (R1 * 4294967296 + n0) / (y1 * 4294967296 + y0) = f := ⟨_, rfl⟩
      rw [ef] at f0 f1 ⊢
      have eF := ef
      rw [← HE.out] at eF
      have hrest := Dv.rest (U := R1) (n1 := n0) (show 0 < Z by omega) z2 eF
      have eG : IntKind.u64.wrap (IntKind.u64.wrap (IntKind.u64.wrap (R1 * 4294967296) + n0) - IntKind.u64.wrap (f * Z)) = (R1 * 4294967296 + n0) % Z := by
        simp only [IntKind.wrap_u64]; exact hrest
      have HF := hid (joined (by omega) HZ.out HU.out HN.out HD1.out HR1.out eF)
      clear ef eF hrest
      go_wp2
      go_ret2
      refine ⟨?_, rfl⟩
      rw [HF.out.1, HF.out.2]
      rfl

theorem div64_zero (y z : Int) (hx : 0 < z) (hy0 : 0 ≤ y) (hy : y ≤ 18446744073709551615) (hz : z ≤ 18446744073709551615) (w : World) :
    Calls Tryd.prog 88 #[.int .u64 0, .int .u64 y, .int .u64 z] w fun e w' => e = .returned (.tuple #[.int .u64 (y / z), .int .u64 (y % z)]) ∧ ∃ n, w' = w.drewN n := by
  have hzz : (z == 0) = false := by simp; omega
  have hzx : decide (z ≤ 0) = false := by simp; omega
  go_enter Tryd.func88, Tryd.ntmps88
  go_wp2
  go_quiet (fail)
  go_wp2
  go_ret2
  exact ⟨rfl, _, rfl⟩

/-- A division of two words by one, where the quotient fits. -/
theorem div64_any (x y z : Int) (hx0 : 0 ≤ x) (hx : x < z) (hy0 : 0 ≤ y) (hy : y ≤ 18446744073709551615) (hz : z ≤ 18446744073709551615) (w : World) :
    Calls Tryd.prog 88 #[.int .u64 x, .int .u64 y, .int .u64 z] w fun e w' => e = .returned (.tuple #[.int .u64 ((x * 18446744073709551616 + y) / z), .int .u64 ((x * 18446744073709551616 + y) % z)]) ∧ Up w w' := by
  by_cases h : 1 ≤ x
  · exact (div64_big x y z h hx hy0 hy hz w).mono fun _ _ ⟨h1, h2⟩ => ⟨h1, h2 ▸ Up.refl w⟩
  · have hx' : x = 0 := by omega
    subst hx'
    refine (div64_zero y z hx hy0 hy hz w).mono fun _ _ ⟨h1, n, h2⟩ => ⟨by rw [h1]; simp, ?_⟩
    subst h2
    exact (Up.refl w).drewN n

end Go.Proofs.YtkimojconidhlaaDoor
namespace Go.Sp

theorem emul {m a b c d : Int} (h1 : a % m = b % m) (h2 : c % m = d % m) : (a * c) % m = (b * d) % m := by
  rw [Int.mul_emod, h1, h2, ← Int.mul_emod]

theorem epow {m a b : Int} (h : a % m = b % m) (n : Nat) : a ^ n % m = b ^ n % m := by
  induction n with
  | zero => simp
  | succ n ih => rw [Int.pow_succ, Int.pow_succ]; exact emul ih h

theorem emod_self (a m : Int) : a % m % m = a % m := Int.emod_emod_of_dvd a (Int.dvd_refl m)

/-- The power of a residue: what Pow returns. -/
def pw (a : Int) (e : Nat) (m : Int) : Int := a ^ e % m

theorem pw_zero (a m : Int) : pw a 0 m = 1 % m := by simp [pw]

theorem pw_lt (a : Int) (e : Nat) {m : Int} (h : 0 < m) : pw a e m < m := Int.emod_lt_of_pos _ h
theorem pw_nonneg (a : Int) (e : Nat) {m : Int} (h : 0 < m) : 0 ≤ pw a e m := Int.emod_nonneg _ (by omega)

theorem pw_add (a m : Int) (e f : Nat) : pw a (e + f) m = pw a e m * pw a f m % m := by
  unfold pw
  rw [Int.pow_add]
  exact emul (emod_self _ _).symm (emod_self _ _).symm

theorem pow_mul' (a : Int) (e f : Nat) : a ^ (e * f) = (a ^ e) ^ f := by
  induction f with
  | zero => simp
  | succ f ih => rw [Nat.mul_succ, Int.pow_add, ih, Int.pow_succ]

theorem mul_pow' (a b : Int) (n : Nat) : (a * b) ^ n = a ^ n * b ^ n := by
  induction n with
  | zero => simp
  | succ n ih => rw [Int.pow_succ, Int.pow_succ, Int.pow_succ, ih]; simp [Int.mul_assoc, Int.mul_comm, Int.mul_left_comm]

theorem pw_mul (a m : Int) (e f : Nat) : pw a (e * f) m = pw (pw a e m) f m := by
  unfold pw
  rw [pow_mul']
  exact epow (emod_self _ _).symm f

theorem pw_prod (a b m : Int) (e : Nat) : pw (a * b % m) e m = pw a e m * pw b e m % m := by
  unfold pw
  rw [epow (emod_self (a * b) m) e, mul_pow']
  exact emul (emod_self _ _).symm (emod_self _ _).symm

theorem one_pow' (e : Nat) : (1 : Int) ^ e = 1 := by
  induction e with
  | zero => rfl
  | succ n ih => rw [Int.pow_succ, ih]; rfl

theorem pw_one_base (e : Nat) (m : Int) : pw 1 e m = 1 % m := by rw [pw, one_pow']

/-- One round of Pow. -/
theorem round_odd (x a m : Int) (e : Nat) (he : e % 2 = 1) : (x * a % m) * (a * a % m) ^ (e / 2) % m = x * a ^ e % m := by
  have h1 : (x * a % m) * (a * a % m) ^ (e / 2) % m = (x * a) * (a * a) ^ (e / 2) % m :=
    emul (emod_self _ _) (epow (emod_self _ _) _)
  have h2 : (a * a) ^ (e / 2) = a ^ (2 * (e / 2)) := by rw [pow_mul']; congr 1; rw [Int.pow_succ, Int.pow_succ]; simp
  have h3 : e = 1 + 2 * (e / 2) := by omega
  rw [h1, h2]
  conv => rhs; rw [h3, Int.pow_add]
  rw [show a ^ 1 = a from by rw [Int.pow_succ]; simp, Int.mul_assoc]

theorem round_even (x a m : Int) (e : Nat) (he : e % 2 = 0) : x * (a * a % m) ^ (e / 2) % m = x * a ^ e % m := by
  have h1 : x * (a * a % m) ^ (e / 2) % m = x * (a * a) ^ (e / 2) % m := emul rfl (epow (emod_self _ _) _)
  have h2 : (a * a) ^ (e / 2) = a ^ (2 * (e / 2)) := by rw [pow_mul']; congr 1; rw [Int.pow_succ, Int.pow_succ]; simp
  have h3 : e = 2 * (e / 2) := by omega
  rw [h1, h2]
  conv => rhs; rw [h3]

/-- One round of a product by doubling. -/
theorem double_odd (o a b m : Int) (hb : b % 2 = 1) : ((o + a) % m + (a + a) % m * (b / 2)) % m = (o + a * b) % m := by
  have h1 : ((o + a) % m + (a + a) % m * (b / 2)) % m = ((o + a) + (a + a) * (b / 2)) % m := by
    rw [Int.add_emod, emod_self, emul (emod_self (a + a) m) (rfl : (b / 2) % m = (b / 2) % m), ← Int.add_emod]
  rw [h1]
  congr 1
  have : b = 2 * (b / 2) + 1 := by omega
  conv => rhs; rw [this]
  grind

theorem double_even (o a b m : Int) (hb : b % 2 = 0) : (o + (a + a) % m * (b / 2)) % m = (o + a * b) % m := by
  have h1 : (o + (a + a) % m * (b / 2)) % m = (o + (a + a) * (b / 2)) % m := by
    rw [Int.add_emod, emul (emod_self (a + a) m) (rfl : (b / 2) % m = (b / 2) % m), ← Int.add_emod]
  rw [h1]
  congr 1
  have : b = 2 * (b / 2) := by omega
  conv => rhs; rw [this]
  grind

/-- Squares up to k times: is one of them n - 1? -/
def sqs (n : Int) : Int → Nat → Bool
  | _, 0 => false
  | x, k + 1 => let y := x * x % n; y == n - 1 || sqs n y k

/-- The strong test of n = 2^s d + 1 for a base. -/
def strongB (n a : Int) (d s : Nat) : Bool :=
  let x := pw a d n
  x == 1 || x == n - 1 || sqs n x (s - 1)

def baseList : List Int := [2, 3, 5, 7, 11, 13, 17, 19, 23, 29, 31, 37]

/-- What the first base that divides n says, if there is one. -/
def trial : List Int → Int → Option Bool
  | [], _ => none
  | p :: l, n => if n % p = 0 then some (n == p) else trial l n

/-- What prime.Is returns. -/
def isP (n : Int) : Bool :=
  if n < 2 then false else
  match trial baseList n with
  | some b => b
  | none => baseList.all fun a => strongB n a ((n - 1).toNat / 2 ^ Lib.ctz 64 (n - 1).toNat) (Lib.ctz 64 (n - 1).toNat)

/-- Euclid's extended algorithm: what its four numbers satisfy. -/
structure Eu (a m d b x y : Int) : Prop where
  d1 : 1 ≤ d
  b0 : 0 ≤ b
  lt : b < d
  dm : d ≤ m
  fx : m ∣ a * x - d
  fy : m ∣ a * y - b
  dv : ∀ k : Int, k ∣ d → k ∣ b → k ∣ a ∧ k ∣ m
  x0 : -m ≤ x
  x1 : x ≤ m
  sg : (0 ≤ y ∧ x ≤ 0 ∧ y * d - x * b = m) ∨ (y ≤ 0 ∧ 0 ≤ x ∧ x * b - y * d = m)

theorem Eu.start {a m : Int} (h0 : 0 ≤ a) (h1 : a < m) : Eu a m m a 0 1 :=
  ⟨by omega, h0, h1, by omega, ⟨-1, by simp⟩, ⟨0, by simp⟩, fun _ h k => ⟨k, h⟩, by omega, by omega, .inl ⟨by omega, by omega, by simp⟩⟩

theorem eu_key {u v d b m : Int} (hu : 0 ≤ u) (hv : 0 ≤ v) (d1 : 1 ≤ d) (b0 : 0 ≤ b) (e : v * d + u * b = m) : v ≤ m := by
  have h1 : 0 ≤ u * b := Int.mul_nonneg hu b0
  have h2 : v * 1 ≤ v * d := Int.mul_le_mul_of_nonneg_left d1 hv
  omega

theorem Eu.y_bd {a m d b x y : Int} (h : Eu a m d b x y) : -m ≤ y ∧ y ≤ m := by
  rcases h.sg with ⟨y0, x0, e⟩ | ⟨y0, x0, e⟩
  · have := eu_key (u := -x) (v := y) (d := d) (b := b) (m := m) (by omega) y0 h.d1 h.b0 (by rw [Int.neg_mul]; omega)
    have := h.d1; have := h.dm
    omega
  · have := eu_key (u := x) (v := -y) (d := d) (b := b) (m := m) x0 (by omega) h.d1 h.b0 (by rw [Int.neg_mul]; omega)
    have := h.d1; have := h.dm
    omega

theorem Eu.q_bd {a m d b x y : Int} (h : Eu a m d b x y) (hb : 1 ≤ b) : 0 ≤ d / b ∧ d / b ≤ m ∧ 0 ≤ d / b * b ∧ d / b * b ≤ d ∧ d - d / b * b < b := by
  have d1 := h.d1
  have dm := h.dm
  have q0 : 0 ≤ d / b := Int.ediv_nonneg (by omega) (by omega)
  have q1 : d / b * b ≤ d := Int.ediv_mul_le d (by omega)
  have q2 : d / b * 1 ≤ d / b * b := Int.mul_le_mul_of_nonneg_left hb q0
  have q3 := Int.emod_lt_of_pos d (show 0 < b by omega)
  have q4 := Int.mul_ediv_add_emod d b
  rw [Int.mul_comm] at q4
  exact ⟨q0, by omega, by omega, q1, by omega⟩

theorem Eu.step {a m d b x y : Int} (h : Eu a m d b x y) (hb : 1 ≤ b) : Eu a m b (d - d / b * b) y (x - d / b * y) := by
  obtain ⟨q0, q1, q2, q3, q4⟩ := h.q_bd hb
  obtain ⟨y0, y1⟩ := h.y_bd
  have lt := h.lt
  have dm := h.dm
  refine ⟨hb, by omega, q4, by omega, h.fy, ?_, ?_, y0, y1, ?_⟩
  · obtain ⟨s, hs⟩ := h.fx
    obtain ⟨t, ht⟩ := h.fy
    exact ⟨s - d / b * t, by rw [Int.mul_sub, Int.mul_sub]; rw [show m * (d / b * t) = d / b * (m * t) by grind, ← hs, ← ht]; grind⟩
  · intro k hk1 hk2
    refine h.dv k ?_ hk1
    have := Int.dvd_add hk2 (Int.dvd_trans hk1 (Int.dvd_mul_left (d / b) b))
    rwa [Int.sub_add_cancel] at this
  · rcases h.sg with ⟨s0, s1, e⟩ | ⟨s0, s1, e⟩
    · right
      have : 0 ≤ d / b * y := Int.mul_nonneg q0 s0
      exact ⟨by omega, s0, by grind⟩
    · left
      have : 0 ≤ d / b * (-y) := Int.mul_nonneg q0 (by omega)
      rw [Int.mul_neg] at this
      exact ⟨by omega, s0, by grind⟩

/-- The product that the step makes. -/
theorem Eu.qy_bd {a m d b x y : Int} (h : Eu a m d b x y) (hb : 1 ≤ b) : -m ≤ d / b * y ∧ d / b * y ≤ m ∧ -m ≤ x - d / b * y ∧ x - d / b * y ≤ m := by
  obtain ⟨q0, q1, q2, q3, q4⟩ := h.q_bd hb
  have s := (h.step hb).y_bd
  rcases h.sg with ⟨s0, s1, e⟩ | ⟨s0, s1, e⟩
  · have : 0 ≤ d / b * y := Int.mul_nonneg q0 s0
    omega
  · have : 0 ≤ d / b * (-y) := Int.mul_nonneg q0 (by omega)
    rw [Int.mul_neg] at this
    omega

/-- At the end: the common divisor, and the factor as a residue. -/
theorem Eu.done {a m d x y : Int} (h : Eu a m d 0 x y) (X : Int) (hX : m ∣ X - x) : 0 ≤ X % m ∧ X % m < m ∧ m ∣ a * (X % m) - d ∧ d ∣ a ∧ d ∣ m := by
  have d1 := h.d1
  have dm := h.dm
  have g := h.dv d (Int.dvd_refl d) (Int.dvd_zero d)
  refine ⟨Int.emod_nonneg _ (by omega), Int.emod_lt_of_pos _ (by omega), ?_, g.1, g.2⟩
  obtain ⟨s, hs⟩ := h.fx
  obtain ⟨t, ht⟩ := hX
  have e := Int.mul_ediv_add_emod X m
  refine ⟨s + a * t - a * (X / m), ?_⟩
  have h1 : X % m = X - m * (X / m) := by omega
  have h2 : X = x + m * t := by omega
  rw [h1]
  have h3 : a * (X - m * (X / m)) - d = (a * x - d) + m * (a * t) - m * (a * (X / m)) := by
    conv => lhs; rw [show X - m * (X / m) = x + m * t - m * (X / m) by omega]
    grind
  rw [h3, hs]
  grind

/-- Go's remainder, and the residue. -/
theorem tmod_cases (a m : Int) (h2 : 1 ≤ m) : (a.tmod m < 0 ∧ a.tmod m + m = a % m ∧ -m < a.tmod m) ∨ (0 ≤ a.tmod m ∧ a.tmod m = a % m) := by
  have b0 := Int.emod_nonneg a (show m ≠ 0 by omega)
  have b1 := Int.emod_lt_of_pos a (show 0 < m by omega)
  rw [Int.tmod_eq_emod (a := a) (b := m)]
  split
  · right; omega
  · rename_i hc
    have : (m.natAbs : Int) = m := by omega
    have hd : a % m ≠ 0 := fun h => hc (.inr (Int.dvd_of_emod_eq_zero h))
    left; omega

/-- An inverse modulo m is the only one. -/
theorem inv_unique {a b x m : Int} (hb0 : 0 ≤ b) (hb1 : b < m) (hx0 : 0 ≤ x) (hx1 : x < m) (hb : a * b % m = 1 % m) (hx : a * x % m = 1 % m) : x = b := by
  have h1 : x * (a * b) % m = x * 1 % m := emul rfl hb
  have h2 : b * (a * x) % m = b * 1 % m := emul rfl hx
  rw [show x * (a * b) = b * (a * x) by grind, h2, Int.mul_one, Int.mul_one, Int.emod_eq_of_lt hb0 hb1, Int.emod_eq_of_lt hx0 hx1] at h1
  exact h1.symm

/-- Are P, Q, G a valid group? -/
def gvB (P Q G : Int) : Bool :=
  decide (P < 2305843009213693952) && decide (3 ≤ Q) && decide (Q % 2 = 1) && isP P && isP Q && decide ((P - 1) % Q = 0) && decide (2 ≤ G) && decide (G < P) && decide (pw G Q.toNat P = 1)

/-- Is x an element of a valid group? -/
def elB (P Q x : Int) : Bool := decide (1 ≤ x) && decide (x < P) && decide (pw x Q.toNat P = 1)

theorem isP_two {n : Int} (h : isP n = true) : 2 ≤ n := by
  refine Int.not_lt.1 fun hlt => ?_
  rw [isP, if_pos hlt] at h
  cases h

/-- What a valid group is. -/
structure Gp (P Q G : Int) : Prop where
  P4 : 4 ≤ P
  P61 : P < 2305843009213693952
  Q3 : 3 ≤ Q
  Qo : Q % 2 = 1
  QP : Q < P
  pP : isP P = true
  pQ : isP Q = true
  dv : (P - 1) % Q = 0
  G2 : 2 ≤ G
  GP : G < P
  GQ : pw G Q.toNat P = 1

theorem gv_iff {P Q G : Int} : gvB P Q G = true ↔ Gp P Q G := by
  constructor
  · intro h
    simp only [gvB, Bool.and_eq_true, decide_eq_true_eq] at h
    obtain ⟨⟨⟨⟨⟨⟨⟨⟨h1, h2⟩, h3⟩, h4⟩, h5⟩, h6⟩, h7⟩, h8⟩, h9⟩ := h
    have hQP : Q < P := by
      have := isP_two h4
      refine Int.not_le.1 fun hle => ?_
      rw [Int.emod_eq_of_lt (by omega) (by omega)] at h6
      omega
    exact ⟨by omega, h1, h2, h3, hQP, h4, h5, h6, h7, h8, h9⟩
  · intro h
    simp [gvB, h.P61, h.Q3, h.Qo, h.pP, h.pQ, h.dv, h.G2, h.GP, h.GQ]

theorem el_iff {P Q x : Int} : elB P Q x = true ↔ 1 ≤ x ∧ x < P ∧ pw x Q.toNat P = 1 := by
  simp [elB, and_assoc]

end Go.Sp
namespace Go.Proofs.YtkimojconidhlaaDoor
open Go.RowKit Go.Sp
set_option maxHeartbeats 400000

theorem i64_and1 (n : Int) : bits .and .i64 n 1 = n % 2 := by
  have h1 : (BitVec.ofInt 64 1).toNat = 2 ^ 1 - 1 := by decide
  have key : (BitVec.ofInt 64 n &&& BitVec.ofInt 64 1).toNat = (n % ((2 ^ 64 : Nat) : Int)).toNat % 2 ^ 1 := by
    rw [BitVec.toNat_and, BitVec.toNat_ofInt, h1, Nat.and_two_pow_sub_one_eq_mod]
  show IntKind.i64.wrap ((BitVec.ofInt 64 n &&& BitVec.ofInt 64 1).toNat : Nat) = n % 2
  rw [key, IntKind.wrap_i64]
  omega

/-- Is a a residue modulo m? -/
def resB (a m : Int) : Bool := decide (0 ≤ a ∧ a < m)

theorem residue_any (a m : Int) (w : World) : Calls Tryd.prog 86 #[.int .i64 a, .int .i64 m] w fun e w' => e = .returned (.bool (resB a m)) ∧ w = w' := by
  go_enter Tryd.func86, Tryd.ntmps86
  go_wp2
  · go_ret
    exact ⟨by simp [resB, *], rfl⟩
  · go_ret
    refine ⟨?_, rfl⟩
    have : ¬ 0 ≤ a := by omega
    simp [resB, this]

theorem check_ok (a b m : Int) (w : World) (h0 : 0 ≤ a) (h1 : a < m) (h2 : 0 ≤ b) (h3 : b < m) (h4 : m < 2305843009213693952) :
    Calls Tryd.prog 66 #[.int .i64 a, .int .i64 b, .int .i64 m] w fun e w' => e = .returned (.int .i64 0) ∧ w = w' := by
  have r1 : resB a m = true := by simp [resB, h0, h1]
  have r2 : resB b m = true := by simp [resB, h2, h3]
  go_enter Tryd.func66, Tryd.ntmps66
  go_wp2_with (go_at_call 86; refine (residue_any _ _ _).mono ?_; rintro e w' ⟨rfl, rfl⟩)
  go_ret
  exact ⟨rfl, rfl⟩

/-- The product of two residues. -/
theorem wmul_any (a b m : Int) (w : World) (h0 : 0 ≤ a) (h1 : a < m) (h2 : 0 ≤ b) (h3 : b < m) (h4 : m < 2305843009213693952) :
    Calls Tryd.prog 67 #[.int .i64 a, .int .i64 b, .int .i64 m] w fun e w' => e = .returned (.int .i64 (a * b % m)) ∧ Up w w' := by
  have p0 : 0 ≤ a * b := Int.mul_nonneg h0 h2
  have p1 : a * b < m * 18446744073709551616 := by
    have : a * b ≤ m * b := Int.mul_le_mul_of_nonneg_right (by omega) h2
    have : m * b ≤ m * 2305843009213693952 := Int.mul_le_mul_of_nonneg_left (by omega) (by omega)
    omega
  have e1 : a * b / 18446744073709551616 * 18446744073709551616 + a * b % 18446744073709551616 = a * b := by omega
  have E1 := hid e1
  have q1 : a * b / 18446744073709551616 < m := by omega
  have q0 : 0 ≤ a * b / 18446744073709551616 := by omega
  have r0 : 0 ≤ a * b % 18446744073709551616 := by omega
  have r1 : a * b % 18446744073709551616 ≤ 18446744073709551615 := by omega
  have s0 : 0 ≤ a * b % m := Int.emod_nonneg _ (by omega)
  have s1 : a * b % m < m := Int.emod_lt_of_pos _ (by omega)
  clear e1 p0 p1
  generalize hX : a * b / 18446744073709551616 = X at *
  generalize hY : a * b % 18446744073709551616 = Y at *
  have HX := hid hX
  have HY := hid hY
  clear hX hY
  go_enter Tryd.func67, Tryd.ntmps67
  go_wp2_with fail
  refine (mul64_any a b h0 (by omega) h2 (by omega) _).mono ?_
  rintro e w' ⟨rfl, rfl⟩
  rw [HX.out, HY.out]
  go_wp2_with fail
  refine (div64_any X Y m q0 q1 r0 r1 (by omega) _).mono ?_
  rintro e w' ⟨rfl, hU⟩
  rw [E1.out]
  go_wp2
  go_ret
  exact ⟨rfl, hU⟩

theorem Mul_ok (a b m : Int) (w : World) (h0 : 0 ≤ a) (h1 : a < m) (h2 : 0 ≤ b) (h3 : b < m) (h4 : m < 2305843009213693952) :
    Calls Tryd.prog 43 #[.int .i64 a, .int .i64 b, .int .i64 m] w fun e w' => e = .returned (.tuple #[.int .i64 (a * b % m), .int .i64 0]) ∧ Up w w' := by
  go_enter Tryd.func43, Tryd.ntmps43
  go_wp2_with fail
  refine (check_ok a b m _ h0 h1 h2 h3 h4).mono ?_
  rintro e w' ⟨rfl, rfl⟩
  go_wp2_with fail
  refine (wmul_any a b m _ h0 h1 h2 h3 h4).mono ?_
  rintro e w' ⟨rfl, hU⟩
  go_wp2
  go_ret2
  exact ⟨rfl, hU⟩

theorem Pow_ok (a e m : Int) (w : World) (h0 : 0 ≤ a) (h1 : a < m) (h2 : 0 ≤ e) (h3 : e ≤ 9223372036854775807) (h4 : m < 2305843009213693952) :
    Calls Tryd.prog 47 #[.int .i64 a, .int .i64 e, .int .i64 m] w fun r w' => r = .returned (.tuple #[.int .i64 (pw a e.toNat m), .int .i64 0]) ∧ Up w w' := by
  have t0 : decide (e < 0) = false := by simp; omega
  have hm0 : (m == 0) = false := by simp; omega
  have m0 : 0 ≤ (1 : Int) % m := Int.emod_nonneg _ (by omega)
  have m1 : (1 : Int) % m < m := Int.emod_lt_of_pos _ (by omega)
  go_enter Tryd.func47, Tryd.ntmps47
  go_wp2_with fail
  refine (check_ok a a m _ h0 h1 h0 h1 h4).mono ?_
  rintro r w' ⟨rfl, rfl⟩
  go_wp2_with fail
  go_loopw [0, 1, 9] (fun va ve vx wr => ∃ (a' : Int) (k : Nat) (x : Int), va = .int .i64 a' ∧ ve = .int .i64 k ∧ vx = .int .i64 x ∧ 0 ≤ a' ∧ a' < m ∧ 0 ≤ x ∧ x < m ∧ k ≤ 9223372036854775807 ∧ x * a' ^ k % m = pw a e.toNat m ∧ Up w wr) (fun _ ve _ _ => (intOf ve).toNat)
  case atStart =>
    refine ⟨a, e.toNat, 1 % m, rfl, by rw [Int.toNat_of_nonneg h2], rfl, h0, h1, m0, m1, by omega, ?_, Up.refl w⟩
    rw [emul (emod_self 1 m) rfl, Int.one_mul]; rfl
  case round =>
    obtain ⟨a', k, x, rfl, rfl, rfl, a0, a1, x0, x1, k1, hI, hU⟩ := hrel
    have HI := hid hI
    clear hI
    have p0 : 0 ≤ a' * a' % m := Int.emod_nonneg _ (by omega)
    have p1 : a' * a' % m < m := Int.emod_lt_of_pos _ (by omega)
    have q0 : 0 ≤ x * a' % m := Int.emod_nonneg _ (by omega)
    have q1 : x * a' % m < m := Int.emod_lt_of_pos _ (by omega)
    by_cases hk : 0 < k
    · have hk2 : decide (0 < k) = true := by simpa using hk
      have hb : bits .and .i64 (k : Int) 1 = ((k % 2 : Nat) : Int) := by rw [i64_and1]; simp
      by_cases ho : k % 2 = 1
      · have ho2 : ((((k % 2 : Nat) : Int)) == 1) = true := by rw [ho]; rfl
        have HO := hid ho
        clear ho
        go_wp2_with fail
        refine (wmul_any x a' m _ x0 x1 a0 a1 h4).mono ?_
        rintro r w1 ⟨rfl, hU1⟩
        go_wp2_with fail
        refine (wmul_any a' a' m _ a0 a1 a0 a1 h4).mono ?_
        rintro r w2 ⟨rfl, hU2⟩
        go_wp2_with fail
        go_roundw
        case rel => exact ⟨_, k / 2, _, rfl, by simp, rfl, p0, p1, q0, q1, by omega, by rw [round_odd _ _ _ _ HO.out, HI.out], (hU.trans hU1).trans hU2⟩
        case measure => simp [intOf]; omega
      · have ho2 : ((((k % 2 : Nat) : Int)) == 1) = false := by
          have : k % 2 = 0 := by omega
          rw [this]; rfl
        have HO := hid (show k % 2 = 0 by omega)
        clear ho
        go_wp2_with fail
        refine (wmul_any a' a' m _ a0 a1 a0 a1 h4).mono ?_
        rintro r w2 ⟨rfl, hU2⟩
        go_wp2_with fail
        go_roundw
        case rel => exact ⟨_, k / 2, _, rfl, by simp, rfl, p0, p1, x0, x1, by omega, by rw [round_even _ _ _ _ HO.out, HI.out], hU.trans hU2⟩
        case measure => simp [intOf]; omega
    · have hk0 : k = 0 := by omega
      subst hk0
      go_wp2
      go_ret2
      refine ⟨?_, hU⟩
      rw [← HI.out]
      simp [Int.emod_eq_of_lt x0 x1]

theorem Reduce_ok (a m : Int) (w : World) (h0 : -9223372036854775808 ≤ a) (h1 : a ≤ 9223372036854775807) (h2 : 1 ≤ m) (h3 : m < 2305843009213693952) :
    Calls Tryd.prog 46 #[.int .i64 a, .int .i64 m] w fun e w' => e = .returned (.tuple #[.int .i64 (a % m), .int .i64 0]) ∧ w = w' := by
  have hm0 : (m == 0) = false := by simp; omega
  have ht := tmod_cases a m h2
  by_cases hs : 0 ≤ a
  · have ht2 : a.tmod m = a % m := Int.tmod_eq_emod_of_nonneg hs
    have b0 := Int.emod_nonneg a (show m ≠ 0 by omega)
    have hlt : decide (a % m < 0) = false := by simp; omega
    clear ht ht2
    go_enter Tryd.func46, Tryd.ntmps46
    go_wp2_with fail
    refine (check_ok 0 0 m _ (by omega) (by omega) (by omega) (by omega) h3).mono ?_
    rintro e w' ⟨rfl, rfl⟩
    go_wp2
    go_ret2
    exact ⟨rfl, rfl⟩
  · rcases ht with ⟨t0, t1, t2⟩ | ⟨t0, t1⟩
    · have T1 := hid t1
      clear t1
      go_enter Tryd.func46, Tryd.ntmps46
      go_wp2_with fail
      refine (check_ok 0 0 m _ (by omega) (by omega) (by omega) (by omega) h3).mono ?_
      rintro e w' ⟨rfl, rfl⟩
      go_wp2
      go_ret2
      exact ⟨by rw [← T1.out]; rfl, rfl⟩
    · have T1 := hid t1
      clear t1
      go_enter Tryd.func46, Tryd.ntmps46
      go_wp2_with fail
      refine (check_ok 0 0 m _ (by omega) (by omega) (by omega) (by omega) h3).mono ?_
      rintro e w' ⟨rfl, rfl⟩
      go_wp2
      go_ret2
      exact ⟨by rw [← T1.out]; rfl, rfl⟩

/-- What euclid returns: a common divisor d of a and m, and an x with a x = d modulo m. -/
def EuOut (a m : Int) (w : World) (e : Ending) (w' : World) : Prop :=
  ∃ d x : Int, e = .returned (.tuple #[.int .i64 d, .int .i64 x]) ∧ 1 ≤ d ∧ 0 ≤ x ∧ x < m ∧ m ∣ a * x - d ∧ d ∣ a ∧ d ∣ m ∧ Up w w'

/-- Is b an inverse of a? -/
def HasInv (a m : Int) : Prop := ∃ b, 0 ≤ b ∧ b < m ∧ a * b % m = 1 % m

theorem Add_ok (a b m : Int) (w : World) (h0 : 0 ≤ a) (h1 : a < m) (h2 : 0 ≤ b) (h3 : b < m) (h4 : m < 2305843009213693952) :
    Calls Tryd.prog 44 #[.int .i64 a, .int .i64 b, .int .i64 m] w fun e w' => e = .returned (.tuple #[.int .i64 ((a + b) % m), .int .i64 0]) ∧ Up w w' := by
  have hm0 : (m == 0) = false := by simp; omega
  go_enter Tryd.func44, Tryd.ntmps44
  go_wp2_with fail
  refine (check_ok a b m _ h0 h1 h2 h3 h4).mono ?_
  rintro e w' ⟨rfl, rfl⟩
  go_wp2
  go_ret2
  exact ⟨rfl, Up.refl _⟩

end Go.Proofs.YtkimojconidhlaaDoor
