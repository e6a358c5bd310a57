/- Factors of a signature, and how many there are: the plain law. Inverses by the reference, counts: plain laws. The reference of package unlink: which factors explain. The reference's inverse and logarithm; the quotient of scalars. Regions that draw their order: two or three operations may come up. Over any program. -/
import Derived.Test.YtdbhleinhpiohaaGreatDoorMB18
import Derived.Test.YtdbhleinhpiohaaGreatDoorMB16
import Derived.Test.YtdbhleinhpiohaaGreatDoorMB13
import Derived.Deep.RegionHeld3
namespace Go.Proofs.YtdbhleinhpiohaaGreatDoor
open Go.RowKit Go.Sp
set_option maxHeartbeats 1000000

theorem bez (a m : Nat) : ∃ x y : Int, (a : Int) * x + (m : Int) * y = (Nat.gcd a m : Int) := by
  induction a, m using Nat.gcd.induction with
  | H0 n => exact ⟨0, 1, by simp⟩
  | H1 a m ha ih =>
    obtain ⟨x, y, h⟩ := ih
    refine ⟨y - (m / a : Nat) * x, x, ?_⟩
    have e : Nat.gcd a m = Nat.gcd (m % a) a := Nat.gcd_rec a m
    rw [e, ← h]
    have e2 : ((m % a : Nat) : Int) = (m : Int) - (a : Int) * ((m / a : Nat) : Int) := by
      have := Nat.mod_add_div m a
      have h3 : ((m % a + a * (m / a) : Nat) : Int) = (m : Int) := by rw [this]
      rw [Int.natCast_add, Int.natCast_mul] at h3
      omega
    rw [e2, Int.mul_sub, Int.sub_mul, Int.mul_assoc]
    omega

/-- Modulo a prime, all but 0 have an inverse. -/
theorem hasInv {a Q : Int} (hQ : Prim Q.toNat) (h0 : 1 ≤ a) (h1 : a < Q) : HasInv a Q := by
  obtain ⟨n, rfl⟩ : ∃ n : Nat, a = n := ⟨a.toNat, by omega⟩
  obtain ⟨q, rfl⟩ : ∃ q : Nat, Q = q := ⟨Q.toNat, by omega⟩
  rw [Int.toNat_natCast] at hQ
  obtain ⟨x, y, h⟩ := bez n q
  have hg : Nat.gcd n q = 1 := by
    rcases hQ.div (Nat.gcd_dvd_right n q) with h | h
    · exact h
    · have := Nat.le_of_dvd (by omega) (Nat.gcd_dvd_left n q)
      omega
  rw [hg] at h
  refine ⟨x % q, Int.emod_nonneg _ (by omega), Int.emod_lt_of_pos _ (by omega), ?_⟩
  have e : (n : Int) * x = 1 + q * (-y) := by rw [Int.mul_neg]; omega
  rw [Int.mul_emod, Int.emod_emod, ← Int.mul_emod, e, Int.add_mul_emod_self_left]

theorem isP_prim {Q : Int} (h : isP Q = true) (h0 : 2 ≤ Q) (h1 : Q < 1048576) : Prim Q.toNat := by
  obtain ⟨q, rfl⟩ : ∃ q : Nat, Q = q := ⟨Q.toNat, by omega⟩
  rw [Int.toNat_natCast]
  exact ⟨by omega, fun r h2 h3 => small_prime h (by omega) h2 h3⟩

/-- The least exponent, if there is one. -/
def lgN (P Q b x : Int) : Option Nat := (List.range Q.toNat).find? fun e => pw b e P == x
def lgV (P Q b x : Int) : Int := match lgN P Q b x with | some n => n | none => -1
theorem lgN_some {P Q b x : Int} {n : Nat} (h : lgN P Q b x = some n) : n < Q.toNat ∧ pw b n P = x := by
  have h1 := List.mem_of_find?_eq_some h
  have h2 := List.find?_some h
  exact ⟨List.mem_range.1 h1, by simpa using h2⟩
theorem lgN_none {P Q b x : Int} (h : lgN P Q b x = none) : ∀ m : Nat, m < Q.toNat → pw b m P ≠ x := by
  intro m hm
  have := List.find?_eq_none.1 h m (List.mem_range.2 hm)
  simpa using this
theorem lgN_least {P Q b x : Int} {n : Nat} (hn : n < Q.toNat) (h1 : pw b n P = x) (h2 : ∀ j, j < n → pw b j P ≠ x) : lgN P Q b x = some n := by
  unfold lgN
  rw [List.find?_range_eq_some]
  exact ⟨by simpa using h1, List.mem_range.2 hn, fun j hj => by simpa using h2 j hj⟩
theorem lgN_miss {P Q b x : Int} (h : ∀ m : Nat, m < Q.toNat → pw b m P ≠ x) : lgN P Q b x = none := by
  unfold lgN
  rw [List.find?_eq_none]
  intro m hm
  simpa using h m (List.mem_range.1 hm)
end Go.Proofs.YtdbhleinhpiohaaGreatDoor
namespace Go.Proofs.YtdbhleinhpiohaaGreatDoor
open Go.RowKit Go.Sp
set_option maxHeartbeats 1000000

/-- The numbers of the reference's Euclid. -/
structure RE (a m u v x y : Int) : Prop where
  u0 : 0 ≤ u
  um : u ≤ m
  v0 : 0 ≤ v
  vm : v ≤ m
  x0 : 0 ≤ x
  x1 : x < m
  y0 : 0 ≤ y
  y1 : y < m
  hx : m ∣ a * x - u
  hy : m ∣ a * y - v
  hd : ∀ d : Int, d ∣ u → d ∣ v → d ∣ a ∧ d ∣ m
theorem RE.start {a m : Int} (h0 : 0 ≤ a) (h1 : a < m) : RE a m a m (1 % m) 0 :=
  ⟨h0, by omega, by omega, by omega, Int.emod_nonneg _ (by omega), Int.emod_lt_of_pos _ (by omega), by omega, by omega, by
    rw [show a * (1 % m) - a = m * (-(a * (1 / m))) by
      have h : 1 % m + m * (1 / m) = 1 := by have := Int.emod_def 1 m; omega
      have h2 : a * (1 % m + m * (1 / m)) = a * 1 := by rw [h]
      rw [Int.mul_add, ← Int.mul_assoc, Int.mul_comm a m, Int.mul_assoc] at h2
      rw [Int.mul_neg]; omega]
    exact Int.dvd_mul_right _ _, by simp, fun d h1 h2 => ⟨h1, h2⟩⟩
theorem RE.step {a m u v x y : Int} (h : RE a m u v x y) (hv : 1 ≤ v) : RE a m v (u - u / v * v) y ((x - (u / v % m) * y % m) % m) := by
  have hm : 1 ≤ m := by have := h.vm; omega
  have e : u - u / v * v = u % v := by rw [Int.emod_def, Int.mul_comm]
  have r0 := Int.emod_nonneg u (show v ≠ 0 by omega)
  have r1 := Int.emod_lt_of_pos u (show 0 < v by omega)
  have hvm := h.vm
  refine ⟨h.v0, h.vm, by omega, by omega, h.y0, h.y1, Int.emod_nonneg _ (by omega), Int.emod_lt_of_pos _ (by omega), h.hy, ?_, fun d h1 h2 => ?_⟩
  · have e2 : (x - (u / v % m) * y % m) % m = (x - u / v * y) % m := by
      rw [Int.sub_emod, Int.emod_emod, Int.mul_emod, Int.emod_emod, ← Int.mul_emod, ← Int.sub_emod]
    rw [e2]
    have h3 : (x - u / v * y) % m + m * ((x - u / v * y) / m) = x - u / v * y := by have := Int.emod_def (x - u / v * y) m; omega
    obtain ⟨k, hk⟩ := h.hx
    obtain ⟨l, hl⟩ := h.hy
    refine ⟨k - u / v * l - a * ((x - u / v * y) / m), ?_⟩
    generalize (x - u / v * y) / m = t at *
    have h4 : (x - u / v * y) % m = x - u / v * y - m * t := by omega
    rw [h4]
    generalize u / v = q at *
    have h5 : a * (x - q * y - m * t) = a * x - q * (a * y) - m * (a * t) := by
      rw [Int.mul_sub, Int.mul_sub, ← Int.mul_assoc a q y, Int.mul_comm a q, Int.mul_assoc q a y, ← Int.mul_assoc a m t, Int.mul_comm a m, Int.mul_assoc m a t]
    have h6 : q * (a * y) = q * (m * l) + q * v := by rw [← Int.mul_add]; congr 1; omega
    have h7 : q * (m * l) = m * (q * l) := by rw [← Int.mul_assoc, Int.mul_comm q m, Int.mul_assoc]
    rw [h5, Int.mul_sub, Int.mul_sub]
    omega
  · refine h.hd d ?_ h1
    have : u = (u - u / v * v) + u / v * v := by omega
    rw [this]
    exact Int.dvd_add h2 (Int.dvd_trans h1 (Int.dvd_mul_left _ _))
theorem co_one {a m b d : Int} (hb : a * b % m = 1 % m) (da : d ∣ a) (dm : d ∣ m) (hd : 0 ≤ d) : d = 1 := by
  have h : d ∣ a * b % m := by
    rw [Int.emod_def]
    exact Int.dvd_sub (Int.dvd_trans da (Int.dvd_mul_right a b)) (Int.dvd_trans dm (Int.dvd_mul_right m _))
  have h2 : d ∣ 1 := by
    rw [hb, Int.emod_def] at h
    have := Int.dvd_add h (Int.dvd_trans dm (Int.dvd_mul_right m (1 / m)))
    rwa [Int.sub_add_cancel] at this
  exact Int.eq_one_of_dvd_one hd h2
def cR (f : Nat → Bool) : Nat → Nat
  | 0 => 0
  | n + 1 => cR f n + (if f n = true then 1 else 0)
def cS (g : Nat → Nat) : Nat → Nat
  | 0 => 0
  | n + 1 => cS g n + g n
theorem cR_le (f : Nat → Bool) : ∀ n, cR f n ≤ n
  | 0 => Nat.le_refl 0
  | n + 1 => by have := cR_le f n; unfold cR; split <;> omega
theorem cR_none {f : Nat → Bool} : ∀ {n : Nat}, (∀ j, j < n → f j = false) → cR f n = 0
  | 0, _ => rfl
  | n + 1, h => by
    unfold cR
    rw [cR_none (fun j hj => h j (by omega)), h n (by omega)]
    rfl
theorem cS_le {g : Nat → Nat} {B : Nat} (h : ∀ i, g i ≤ B) : ∀ n, cS g n ≤ n * B
  | 0 => by unfold cS; omega
  | n + 1 => by have h1 := cS_le h n; have h2 := h n; unfold cS; rw [Nat.add_mul, Nat.one_mul]; omega
theorem cS_le2 {g : Nat → Nat} {B M n : Nat} (h : ∀ i, g i ≤ B) (hn : n ≤ M) : cS g n ≤ M * B :=
  Nat.le_trans (cS_le h n) (Nat.mul_le_mul_right B hn)
theorem cR_true {f : Nat → Bool} {n : Nat} (h : f n = true) : cR f (n + 1) = cR f n + 1 := by rw [cR, if_pos h]
theorem cR_false {f : Nat → Bool} {n : Nat} (h : f n = false) : cR f (n + 1) = cR f n := by rw [cR, if_neg (by simp [h])]; rfl

/-- Does the pair of numbers, with the V that fits the responses, explain? -/
def fitN (P Q G m z x y c r p V sz sa sb sr : Int) (i j : Nat) : Bool := fitB P Q G m z x y c r ((i : Int) + 1) ((j : Int) + 1) ((sr - r * ((j : Int) + 1) % Q) % Q) p V sz sa sb sr
/-- How many factors there are. -/
def cntF (P Q G m z x y c r p V sz sa sb sr : Int) : Nat := cS (fun i => cR (fitN P Q G m z x y c r p V sz sa sb sr i) (Q - 1).toNat) (Q - 1).toNat
theorem cntF_le {P Q G m z x y c r p V sz sa sb sr : Int} (hQ : Q ≤ 113) : cntF P Q G m z x y c r p V sz sa sb sr ≤ 12544 := by
  have h : (Q - 1).toNat ≤ 112 := by omega
  have h1 := cS_le2 (g := fun i => cR (fitN P Q G m z x y c r p V sz sa sb sr i) (Q - 1).toNat) (fun i => cR_le _ _) h
  unfold cntF
  omega
theorem fitB_p {P Q G vm vz va vb vc vr s u v p c sz sa sb sr : Int} (h : p ≠ pwi P vm s) : fitB P Q G vm vz va vb vc vr s u v p c sz sa sb sr = false := by
  unfold fitB
  rw [show (p == pwi P vm s) = false by simpa using h]
  simp
theorem fitB_neg {P Q G vm vz va vb vc vr s u v p c sz sa sb sr : Int} (h : s < 1) : fitB P Q G vm vz va vb vc vr s u v p c sz sa sb sr = false := by
  unfold fitB
  rw [show facB Q s u v = false by simp [facB, nzB]; omega]
  rfl
/-- The factors, if there are some; t is the inverse of the challenge. -/
def facO (P Q G m z x y c r p V sz sa sb sr t : Int) : Option (Int × Int × Int) :=
  match lgN P Q m p with
  | none => none
  | some n => if fitB P Q G m z x y c r n (V * t % Q) ((sr - r * (V * t % Q) % Q) % Q) p V sz sa sb sr = true then some ((n : Int), V * t % Q, (sr - r * (V * t % Q) % Q) % Q) else none
theorem facO_none {P Q G m z x y c r p V sz sa sb sr t : Int} (h : lgN P Q m p = none) : facO P Q G m z x y c r p V sz sa sb sr t = none := by unfold facO; rw [h]
theorem facO_fit {P Q G m z x y c r p V sz sa sb sr t : Int} {n : Nat} (h : lgN P Q m p = some n) {u v : Int} (hu : V * t % Q = u) (hv : (sr - r * u % Q) % Q = v) (hf : fitB P Q G m z x y c r n u v p V sz sa sb sr = true) : facO P Q G m z x y c r p V sz sa sb sr t = some ((n : Int), u, v) := by
  unfold facO
  rw [h]
  dsimp only
  rw [hu, hv, if_pos hf]
theorem facO_not {P Q G m z x y c r p V sz sa sb sr t : Int} {n : Nat} (h : lgN P Q m p = some n) {u v : Int} (hu : V * t % Q = u) (hv : (sr - r * u % Q) % Q = v) (hf : fitB P Q G m z x y c r n u v p V sz sa sb sr = false) : facO P Q G m z x y c r p V sz sa sb sr t = none := by
  unfold facO
  rw [h]
  dsimp only
  rw [hu, hv, if_neg (by simp [hf])]
theorem facO_some {P Q G m z x y c r p V sz sa sb sr t s u v : Int} (h : facO P Q G m z x y c r p V sz sa sb sr t = some (s, u, v)) : fitB P Q G m z x y c r s u v p V sz sa sb sr = true := by
  unfold facO at h
  split at h
  · cases h
  · split at h
    · rename_i hf
      simp only [Option.some.injEq, Prod.mk.injEq] at h
      obtain ⟨rfl, rfl, rfl⟩ := h
      exact hf
    · cases h
end Go.Proofs.YtdbhleinhpiohaaGreatDoor
namespace Go.Proofs.YtdbhleinhpiohaaGreatDoor
open Go.RowKit Go.Sp
set_option maxHeartbeats 4000000
set_option maxRecDepth 20000

theorem gpw_sc {P Q a k : Int} (h0 : 0 ≤ k) (h1 : k < Q) : gpw P Q a k = pwi P a k := by
  unfold gpw pwi
  rw [Int.emod_eq_of_lt h0 h1]

theorem r26times_ok (P Q G A B C a b : Int) (w : World) (h0 : 0 ≤ a) (h1 : a < Q) (h2 : 0 ≤ b) (h3 : b < Q) (h4 : Q < 2305843009213693952) :
    Calls Tryz.prog 26 #[bas P Q G A B C, .int .i64 a, .int .i64 b] w fun r w' => r = .returned (.int .i64 (a * b % Q)) ∧ Up w w' := by
  go_enter Tryz.func26, Tryz.ntmps26
  go_wp2_with fail
  refine (rMul_ok a b Q _ h0 h1 h2 h3 h4).mono ?_
  rintro r w3 ⟨rfl, rfl⟩
  go_wp2
  go_ret
  exact ⟨rfl, (Up.refl w).alloc _⟩

/-- A power by the reference, the exponent a scalar. -/
theorem rgPower_sc (P Q G a e : Int) (w : World) (h0 : 0 ≤ a) (h1 : a < P) (h2 : 0 ≤ e) (h3 : e < Q) (h4 : P < 2305843009213693952) (h6 : Q < 2305843009213693952) :
    Calls Tryz.prog 24 #[grp P Q G, .int .i64 a, .int .i64 e] w fun r w' => r = .returned (.int .i64 (pwi P a e)) ∧ Up w w' := by
  have h := rgPower_ok P Q G a e w h0 h1 (by omega) (by omega) h4 (by omega) h6
  rwa [gpw_sc h2 h3] at h

theorem r26Fits_any (P Q G A B C m z x y c r s u v p : Int) (root : Nat → Int) (sz sa sb sr : Int) (w : World) (hR : Byt root) (g1 : P < 2305843009213693952) (g2 : 2 ≤ P) (g3 : 1 ≤ Q) (g4 : Q < 2305843009213693952) (g5 : 0 ≤ G) (g6 : G < P)
    (m0 : 0 ≤ m) (m1 : m < P) (z0 : 0 ≤ z) (z1 : z < P) (a0 : 0 ≤ x) (a1 : x < P) (b0 : 0 ≤ y) (b1 : y < P) (c0 : 0 ≤ c) (c1 : c < Q) (r0 : 0 ≤ r) (r1 : r < Q) (p0 : 0 ≤ p) (p1 : p < P) :
    Calls Tryz.prog 9 #[bas P Q G A B C, vw m z x y c r, .agg #[.int .i64 s, .int .i64 u, .int .i64 v], .int .i64 p, hashV root, sgn sz sa sb sr] w fun e w' => e = .returned (.bool (fitB P Q G m z x y c r s u v p (coinC P Q G A B C p root sz sa sb) sz sa sb sr)) ∧ Up w w' := by
  have M1 := hid (fun w' => rChallenge_any P Q G A B C p root sz sa sb sr w' g3 g4 hR)
  generalize coinC P Q G A B C p root sz sa sb = V at *
  have HB : Hid (fitB P Q G m z x y c r s u v p V sz sa sb sr = (facB Q s u v && (p == pwi P m s && (sz == pwi P z s && (sa == pwi P x u * pwi P G v % P && (sb == pwi P y (s * u % Q) * pwi P p v % P && (sr == (r * u % Q + v) % Q && V == c * u % Q))))))) := hid (by
    unfold fitB
    generalize (sr == (r * u % Q + v) % Q) = t1
    generalize (V == c * u % Q) = t2
    generalize (p == pwi P m s) = t3
    generalize (sz == pwi P z s) = t4
    generalize (sa == pwi P x u * pwi P G v % P) = t5
    generalize (sb == pwi P y (s * u % Q) * pwi P p v % P) = t6
    cases t1 <;> cases t2 <;> cases t3 <;> cases t4 <;> cases t5 <;> cases t6 <;> simp)
  generalize fitB P Q G m z x y c r s u v p V sz sa sb sr = T at *
  have M2 := hid (fun w' => r25Factors_any P Q G s u v w')
  obtain ⟨cs, hcs⟩ : ∃ cs, arrK .u8 root 32 = cs := ⟨_, rfl⟩
  have HCz : Hid ((Tryz.prog.info? 31).map (·.size) = some cs.size) := hid (by rw [← hcs, arrK_size]; kernel_rfl)
  unfold hashV at M1 ⊢
  rw [hcs] at M1 ⊢
  obtain ⟨o, ho⟩ : ∃ o, w.heap.size = o := ⟨_, rfl⟩
  have HO := hid ho
  obtain ⟨o1, ho1⟩ : ∃ o1, o + 1 = o1 := ⟨_, rfl⟩
  have HO1 := hid ho1
  obtain ⟨o2, ho2⟩ : ∃ o2, o1 + 1 = o2 := ⟨_, rfl⟩
  have HO2 := hid ho2
  obtain ⟨o3, ho3⟩ : ∃ o3, o2 + 1 = o3 := ⟨_, rfl⟩
  have HO3 := hid ho3
  obtain ⟨o4, ho4⟩ : ∃ o4, o3 + 1 = o4 := ⟨_, rfl⟩
  have HO4 := hid ho4
  obtain ⟨o5, ho5⟩ : ∃ o5, o4 + 1 = o5 := ⟨_, rfl⟩
  have HO5 := hid ho5
  clear hR hcs ho ho1 ho2 ho3 ho4 ho5
  go_enter Tryz.func9, Tryz.ntmps9
  go_wp2_with fail
  refine (M2.out _).mono ?_
  rintro e w1 ⟨rfl, hU1⟩
  have HA1 := hid (((nums_six (w := w) (t := 25) HO.out).up ((((((Up.refl _).alloc _).alloc _).alloc _).alloc _).alloc _)).up hU1)
  have HV1 := hid (((nums_six (r := o1) (t := 29) (by have := HO.out; have := HO1.out; have := HO2.out; have := HO3.out; have := HO4.out; have := HO5.out; simp; omega)).up (((((Up.refl _).alloc _).alloc _).alloc _).alloc _)).up hU1)
  have HF1 := hid (((nums_three (r := o2) (t := 36) (by have := HO.out; have := HO1.out; have := HO2.out; have := HO3.out; have := HO4.out; have := HO5.out; simp; omega)).up ((((Up.refl _).alloc _).alloc _).alloc _)).up hU1)
  have HC1 := hid (((Blk.new (g := o3) (t := 31) (by have := HO.out; have := HO1.out; have := HO2.out; have := HO3.out; have := HO4.out; have := HO5.out; simp; omega) rfl).up (((Up.refl _).alloc _).alloc _)).up hU1)
  have HS1 := hid (((Blk.new (g := o4) (t := 33) (by have := HO.out; have := HO1.out; have := HO2.out; have := HO3.out; have := HO4.out; have := HO5.out; simp; omega) rfl).up ((Up.refl _).alloc _)).up hU1)
  have HD1 := hid (((nums_three (r := o5) (t := 23) (by have := HO.out; have := HO1.out; have := HO2.out; have := HO3.out; have := HO4.out; have := HO5.out; simp; omega))).up hU1)
  have HU1 := hid ((((((((Up.refl w).alloc _).alloc _).alloc _).alloc _).alloc _).alloc _).trans hU1)
  clear hU1
  rw [HO.out, HO1.out, HO2.out, HO3.out, HO4.out, HO5.out]
  obtain ⟨⟨lc0, lc1, lc2⟩, lc3, lc4, lc5⟩ := HA1.out
  obtain ⟨⟨lb0, lb1, lb2⟩, lb3, lb4, lb5⟩ := HV1.out
  obtain ⟨lf0, lf1, lf2⟩ := HF1.out
  have ls0 := HS1.out.val (i := 0) rfl
  have ls1 := HS1.out.val (i := 1) rfl
  have ls2 := HS1.out.val (i := 2) rfl
  have ls3 := HS1.out.val (i := 3) rfl
  obtain ⟨la0, la1, la2⟩ := HD1.out
  by_cases hf : facB Q s u v = true
  case neg =>
    have hf' : facB Q s u v = false := by simpa using hf
    have hX : T = false := by rw [HB.out, hf']; rfl
    subst hX
    rw [hf']
    clear hf hf'
    go_wp2
    go_ret
    exact ⟨rfl, HU1.out⟩
  have HB0 : Hid (T = (p == pwi P m s && (sz == pwi P z s && (sa == pwi P x u * pwi P G v % P && (sb == pwi P y (s * u % Q) * pwi P p v % P && (sr == (r * u % Q + v) % Q && V == c * u % Q)))))) := hid (by rw [HB.out, hf]; rfl)
  obtain ⟨hs, hu, hv⟩ : nzB Q s = true ∧ nzB Q u = true ∧ exB Q v = true := by
    have := hf
    simp only [facB, Bool.and_eq_true] at this
    exact this
  obtain ⟨s0, s1⟩ := nzB_iff.1 hs
  obtain ⟨u0, u1⟩ := nzB_iff.1 hu
  obtain ⟨v0, v1⟩ := exB_iff.1 hv
  rw [hf]
  have r2 := Int.emod_nonneg (r * u) (show Q ≠ 0 by omega)
  have r3 := Int.emod_lt_of_pos (r * u) (show 0 < Q by omega)
  have s2 := Int.emod_nonneg (s * u) (show Q ≠ 0 by omega)
  have s3 := Int.emod_lt_of_pos (s * u) (show 0 < Q by omega)
  have N1 := hid (fun w' => r26times_ok P Q G A B C r u w' r0 r1 (by omega) (by omega) g4)
  have N2 := hid (fun w' => rReduce_ok (r * u % Q + v) Q w' (by omega) (by omega) g3 g4)
  have N3 := hid (fun w' => r26times_ok P Q G A B C c u w' c0 c1 (by omega) (by omega) g4)
  have N4 := hid (fun w' => rgPower_sc P Q G m s w' m0 m1 (by omega) (by omega) g1 g4)
  have N5 := hid (fun w' => rgPower_sc P Q G z s w' z0 z1 (by omega) (by omega) g1 g4)
  have N6 := hid (fun w' => rgPower_sc P Q G x u w' a0 a1 (by omega) (by omega) g1 g4)
  have N7 := hid (fun w' => rgPower_sc P Q G G v w' g5 g6 (by omega) (by omega) g1 g4)
  obtain ⟨x0, x1⟩ := pwi_range (P := P) (a := x) (e := u) (by omega)
  obtain ⟨x2, x3⟩ := pwi_range (P := P) (a := G) (e := v) (by omega)
  have N8 := hid (fun w' => rgMul_ok P Q G (pwi P x u) (pwi P G v) w' x0 x1 x2 x3 g1)
  have N9 := hid (fun w' => r26times_ok P Q G A B C s u w' (by omega) (by omega) (by omega) (by omega) g4)
  have N10 := hid (fun w' => rgPower_sc P Q G y (s * u % Q) w' b0 b1 s2 (by omega) g1 g4)
  have N11 := hid (fun w' => rgPower_sc P Q G p v w' p0 p1 (by omega) (by omega) g1 g4)
  obtain ⟨y0, y1⟩ := pwi_range (P := P) (a := y) (e := s * u % Q) (by omega)
  obtain ⟨y2, y3⟩ := pwi_range (P := P) (a := p) (e := v) (by omega)
  have N12 := hid (fun w' => rgMul_ok P Q G (pwi P y (s * u % Q)) (pwi P p v) w' y0 y1 y2 y3 g1)
  have hwr : IntKind.i64.wrap (r * u % Q + v) = r * u % Q + v := IntWalk.i64_in _ (by omega)
  generalize pwi P y (s * u % Q) = X10 at *
  generalize pwi P p v = X11 at *
  generalize X10 * X11 % P = X12 at *
  generalize pwi P x u = X6 at *
  generalize pwi P G v = X7 at *
  generalize X6 * X7 % P = X8 at *
  generalize pwi P m s = X4 at *
  generalize pwi P z s = X5 at *
  generalize s * u % Q = X9 at *
  generalize r * u % Q = X1 at *
  generalize (X1 + v) % Q = X2 at *
  generalize c * u % Q = X3 at *
  clear hf hs hu hv s0 s1 u0 u1 v0 v1 r2 r3 s2 s3 x0 x1 x2 x3 y0 y1 y2 y3 m0 m1 z0 z1 a0 a1 b0 b1 c0 c1 r0 r1 p0 p1 g1 g2 g3 g4 g5 g6 HB
  have flc0 := cellF lc0
  have flc1 := cellF lc1
  have flc2 := cellF lc2
  have flc3 := cellF lc3
  have flc4 := cellF lc4
  have flc5 := cellF lc5
  have flb0 := cellF lb0
  have flb1 := cellF lb1
  have flb2 := cellF lb2
  have flb3 := cellF lb3
  have flb4 := cellF lb4
  have flb5 := cellF lb5
  have flf0 := cellF lf0
  have flf1 := cellF lf1
  have flf2 := cellF lf2
  have fls0 := cellF ls0
  have fls1 := cellF ls1
  have fls2 := cellF ls2
  have fls3 := cellF ls3
  have fla0 := cellF la0
  have fla1 := cellF la1
  have fla2 := cellF la2
  clear lc0 lc1 lc2 lc3 lc4 lc5 lb0 lb1 lb2 lb3 lb4 lb5 lf0 lf1 lf2 ls0 ls1 ls2 ls3 la0 la1 la2
  go_wp2_with fail
  refine wp_region_up (by kernel_rfl) (by kernel_rfl) ?_
  repeat (go_big_quiet_step ((first
    | (go_at_call 24; first
      | ((with_reducible (show Calls _ _ #[_, .int .i64 m, .int .i64 s] _ _)); exact Calls.up_of (N4.out _))
      | ((with_reducible (show Calls _ _ #[_, .int .i64 z, .int .i64 s] _ _)); exact Calls.up_of (N5.out _))
      | ((with_reducible (show Calls _ _ #[_, .int .i64 x, .int .i64 u] _ _)); exact Calls.up_of (N6.out _))
      | ((with_reducible (show Calls _ _ #[_, .int .i64 G, .int .i64 v] _ _)); exact Calls.up_of (N7.out _))
      | ((with_reducible (show Calls _ _ #[_, .int .i64 y, .int .i64 X9] _ _)); exact Calls.up_of (N10.out _))
      | ((with_reducible (show Calls _ _ #[_, .int .i64 p, .int .i64 v] _ _)); exact Calls.up_of (N11.out _)))
    | (go_at_call 28; first
      | ((with_reducible (show Calls _ _ #[_, .int .i64 X6, _] _ _)); exact Calls.up_of (N8.out _))
      | ((with_reducible (show Calls _ _ #[_, .int .i64 X10, _] _ _)); exact Calls.up_of (N12.out _)))
    | (go_at_call 26; first
      | ((with_reducible (show Calls _ _ #[_, .int .i64 r, .int .i64 u] _ _)); exact Calls.up_of (N1.out _))
      | ((with_reducible (show Calls _ _ #[_, .int .i64 c, .int .i64 u] _ _)); exact Calls.up_of (N3.out _))
      | ((with_reducible (show Calls _ _ #[_, .int .i64 s, .int .i64 u] _ _)); exact Calls.up_of (N9.out _))))))
  refine wpQuiet_nil ?_
  rintro _ ⟨⟨w2, hU2⟩, rfl⟩
  try dsimp only
  have HA2 := hid (HA1.out.up hU2)
  have HV2 := hid (HV1.out.up hU2)
  have HF2 := hid (HF1.out.up hU2)
  have HC2 := hid (HC1.out.up hU2)
  have HS2 := hid (HS1.out.up hU2)
  have HD2 := hid (HD1.out.up hU2)
  have HU2 := hid (HU1.out.trans hU2)
  clear hU2 HA1 HV1 HF1 HC1 HS1 HD1 HU1 flc0 flc1 flc2 flc3 flc4 flc5 flb0 flb1 flb2 flb3 flb4 flb5 flf0 flf1 flf2 fls0 fls1 fls2 fls3 fla0 fla1 fla2
  obtain ⟨⟨lc0, lc1, lc2⟩, lc3, lc4, lc5⟩ := HA2.out
  obtain ⟨⟨lb0, lb1, lb2⟩, lb3, lb4, lb5⟩ := HV2.out
  obtain ⟨lf0, lf1, lf2⟩ := HF2.out
  have ls0 := HS2.out.val (i := 0) rfl
  have ls1 := HS2.out.val (i := 1) rfl
  have ls2 := HS2.out.val (i := 2) rfl
  have ls3 := HS2.out.val (i := 3) rfl
  obtain ⟨la0, la1, la2⟩ := HD2.out
  have flc0 := cellF lc0
  have flc1 := cellF lc1
  have flc2 := cellF lc2
  have flc3 := cellF lc3
  have flc4 := cellF lc4
  have flc5 := cellF lc5
  have flb0 := cellF lb0
  have flb1 := cellF lb1
  have flb2 := cellF lb2
  have flb3 := cellF lb3
  have flb4 := cellF lb4
  have flb5 := cellF lb5
  have flf0 := cellF lf0
  have flf1 := cellF lf1
  have flf2 := cellF lf2
  have fls0 := cellF ls0
  have fls1 := cellF ls1
  have fls2 := cellF ls2
  have fls3 := cellF ls3
  have fla0 := cellF la0
  have fla1 := cellF la1
  have fla2 := cellF la2
  clear lc0 lc1 lc2 lc3 lc4 lc5 lb0 lb1 lb2 lb3 lb4 lb5 lf0 lf1 lf2 ls0 ls1 ls2 ls3 la0 la1 la2
  go_wp2_with fail
  refine wp_region_up (by kernel_rfl) (by kernel_rfl) ?_
  repeat (go_big_quiet_step ((first
    | (go_at_call 24; first
      | ((with_reducible (show Calls _ _ #[_, .int .i64 m, .int .i64 s] _ _)); exact Calls.up_of (N4.out _))
      | ((with_reducible (show Calls _ _ #[_, .int .i64 z, .int .i64 s] _ _)); exact Calls.up_of (N5.out _))
      | ((with_reducible (show Calls _ _ #[_, .int .i64 x, .int .i64 u] _ _)); exact Calls.up_of (N6.out _))
      | ((with_reducible (show Calls _ _ #[_, .int .i64 G, .int .i64 v] _ _)); exact Calls.up_of (N7.out _))
      | ((with_reducible (show Calls _ _ #[_, .int .i64 y, .int .i64 X9] _ _)); exact Calls.up_of (N10.out _))
      | ((with_reducible (show Calls _ _ #[_, .int .i64 p, .int .i64 v] _ _)); exact Calls.up_of (N11.out _)))
    | (go_at_call 28; first
      | ((with_reducible (show Calls _ _ #[_, .int .i64 X6, _] _ _)); exact Calls.up_of (N8.out _))
      | ((with_reducible (show Calls _ _ #[_, .int .i64 X10, _] _ _)); exact Calls.up_of (N12.out _)))
    | (go_at_call 26; first
      | ((with_reducible (show Calls _ _ #[_, .int .i64 r, .int .i64 u] _ _)); exact Calls.up_of (N1.out _))
      | ((with_reducible (show Calls _ _ #[_, .int .i64 c, .int .i64 u] _ _)); exact Calls.up_of (N3.out _))
      | ((with_reducible (show Calls _ _ #[_, .int .i64 s, .int .i64 u] _ _)); exact Calls.up_of (N9.out _))))))
  refine wpQuiet_nil ?_
  rintro _ ⟨⟨w3, hU3⟩, rfl⟩
  try dsimp only
  have HA3 := hid (HA2.out.up hU3)
  have HV3 := hid (HV2.out.up hU3)
  have HF3 := hid (HF2.out.up hU3)
  have HC3 := hid (HC2.out.up hU3)
  have HS3 := hid (HS2.out.up hU3)
  have HD3 := hid (HD2.out.up hU3)
  have HU3 := hid (HU2.out.trans hU3)
  clear hU3 HA2 HV2 HF2 HC2 HS2 HD2 HU2 flc0 flc1 flc2 flc3 flc4 flc5 flb0 flb1 flb2 flb3 flb4 flb5 flf0 flf1 flf2 fls0 fls1 fls2 fls3 fla0 fla1 fla2
  obtain ⟨⟨lc0, lc1, lc2⟩, lc3, lc4, lc5⟩ := HA3.out
  obtain ⟨⟨lb0, lb1, lb2⟩, lb3, lb4, lb5⟩ := HV3.out
  obtain ⟨lf0, lf1, lf2⟩ := HF3.out
  have ls0 := HS3.out.val (i := 0) rfl
  have ls1 := HS3.out.val (i := 1) rfl
  have ls2 := HS3.out.val (i := 2) rfl
  have ls3 := HS3.out.val (i := 3) rfl
  obtain ⟨la0, la1, la2⟩ := HD3.out
  have flc0 := cellF lc0
  have flc1 := cellF lc1
  have flc2 := cellF lc2
  have flc3 := cellF lc3
  have flc4 := cellF lc4
  have flc5 := cellF lc5
  have flb0 := cellF lb0
  have flb1 := cellF lb1
  have flb2 := cellF lb2
  have flb3 := cellF lb3
  have flb4 := cellF lb4
  have flb5 := cellF lb5
  have flf0 := cellF lf0
  have flf1 := cellF lf1
  have flf2 := cellF lf2
  have fls0 := cellF ls0
  have fls1 := cellF ls1
  have fls2 := cellF ls2
  have fls3 := cellF ls3
  have fla0 := cellF la0
  have fla1 := cellF la1
  have fla2 := cellF la2
  clear lc0 lc1 lc2 lc3 lc4 lc5 lb0 lb1 lb2 lb3 lb4 lb5 lf0 lf1 lf2 ls0 ls1 ls2 ls3 la0 la1 la2
  by_cases t0 : p = X4
  case neg =>
    have e0 : (p == X4) = false := by simpa using t0
    have hX : T = false := by rw [HB0.out, e0]; rfl
    subst hX
    clear t0 HB0
    go_wp2_with fail
    refine wp_region_up (by kernel_rfl) (by kernel_rfl) ?_
    try simp only [List.append_eq, List.cons_append, List.nil_append]
    repeat (first
      | (go_big_quiet_want; (refine quiet_load_row 31 _ (by rfl) o3 (by rfl) 31 cs _ HC3.out.from Tryz.underlying31 rfl HCz.out ?_); simp only [Act.put, List.setIfInBounds_toArray, List.set_cons_zero, List.set_cons_succ]; go_big_quiet_on)
      | (go_big_quiet_step ((first
      | (go_at_call 24; first
        | ((with_reducible (show Calls _ _ #[_, .int .i64 m, .int .i64 s] _ _)); exact Calls.up_of (N4.out _))
        | ((with_reducible (show Calls _ _ #[_, .int .i64 z, .int .i64 s] _ _)); exact Calls.up_of (N5.out _))
        | ((with_reducible (show Calls _ _ #[_, .int .i64 x, .int .i64 u] _ _)); exact Calls.up_of (N6.out _))
        | ((with_reducible (show Calls _ _ #[_, .int .i64 G, .int .i64 v] _ _)); exact Calls.up_of (N7.out _))
        | ((with_reducible (show Calls _ _ #[_, .int .i64 y, .int .i64 X9] _ _)); exact Calls.up_of (N10.out _))
        | ((with_reducible (show Calls _ _ #[_, .int .i64 p, .int .i64 v] _ _)); exact Calls.up_of (N11.out _)))
      | (go_at_call 28; first
        | ((with_reducible (show Calls _ _ #[_, .int .i64 X6, _] _ _)); exact Calls.up_of (N8.out _))
        | ((with_reducible (show Calls _ _ #[_, .int .i64 X10, _] _ _)); exact Calls.up_of (N12.out _)))
      | (go_at_call 26; first
        | ((with_reducible (show Calls _ _ #[_, .int .i64 r, .int .i64 u] _ _)); exact Calls.up_of (N1.out _))
        | ((with_reducible (show Calls _ _ #[_, .int .i64 c, .int .i64 u] _ _)); exact Calls.up_of (N3.out _))
        | ((with_reducible (show Calls _ _ #[_, .int .i64 s, .int .i64 u] _ _)); exact Calls.up_of (N9.out _)))
      | (go_at_call 25; exact Calls.up_same (N2.out _))
      | (go_at_call 29; exact Calls.up_of (M1.out _))))))
    refine wpQuiet_nil ?_
    rintro _ ⟨p', rfl⟩
    go_wp2
    go_ret
    exact ⟨rfl, HU3.out.trans p'.up⟩
  have e0 : (p == X4) = true := by simpa using t0
  have HB1 : Hid (T = (sz == X5 && (sa == X8 && (sb == X12 && (sr == X2 && (V == X3)))))) := hid (by rw [HB0.out, e0]; rfl)
  clear t0 HB0
  by_cases t1 : sz = X5
  case neg =>
    have e1 : (sz == X5) = false := by simpa using t1
    have hX : T = false := by rw [HB1.out, e1]; rfl
    subst hX
    clear t1 HB1
    go_wp2_with fail
    refine wp_region_up (by kernel_rfl) (by kernel_rfl) ?_
    try simp only [List.append_eq, List.cons_append, List.nil_append]
    repeat (first
      | (go_big_quiet_want; (refine quiet_load_row 31 _ (by rfl) o3 (by rfl) 31 cs _ HC3.out.from Tryz.underlying31 rfl HCz.out ?_); simp only [Act.put, List.setIfInBounds_toArray, List.set_cons_zero, List.set_cons_succ]; go_big_quiet_on)
      | (go_big_quiet_step ((first
      | (go_at_call 24; first
        | ((with_reducible (show Calls _ _ #[_, .int .i64 m, .int .i64 s] _ _)); exact Calls.up_of (N4.out _))
        | ((with_reducible (show Calls _ _ #[_, .int .i64 z, .int .i64 s] _ _)); exact Calls.up_of (N5.out _))
        | ((with_reducible (show Calls _ _ #[_, .int .i64 x, .int .i64 u] _ _)); exact Calls.up_of (N6.out _))
        | ((with_reducible (show Calls _ _ #[_, .int .i64 G, .int .i64 v] _ _)); exact Calls.up_of (N7.out _))
        | ((with_reducible (show Calls _ _ #[_, .int .i64 y, .int .i64 X9] _ _)); exact Calls.up_of (N10.out _))
        | ((with_reducible (show Calls _ _ #[_, .int .i64 p, .int .i64 v] _ _)); exact Calls.up_of (N11.out _)))
      | (go_at_call 28; first
        | ((with_reducible (show Calls _ _ #[_, .int .i64 X6, _] _ _)); exact Calls.up_of (N8.out _))
        | ((with_reducible (show Calls _ _ #[_, .int .i64 X10, _] _ _)); exact Calls.up_of (N12.out _)))
      | (go_at_call 26; first
        | ((with_reducible (show Calls _ _ #[_, .int .i64 r, .int .i64 u] _ _)); exact Calls.up_of (N1.out _))
        | ((with_reducible (show Calls _ _ #[_, .int .i64 c, .int .i64 u] _ _)); exact Calls.up_of (N3.out _))
        | ((with_reducible (show Calls _ _ #[_, .int .i64 s, .int .i64 u] _ _)); exact Calls.up_of (N9.out _)))
      | (go_at_call 25; exact Calls.up_same (N2.out _))
      | (go_at_call 29; exact Calls.up_of (M1.out _))))))
    refine wpQuiet_nil ?_
    rintro _ ⟨p', rfl⟩
    go_wp2
    go_ret
    exact ⟨rfl, HU3.out.trans p'.up⟩
  have e1 : (sz == X5) = true := by simpa using t1
  have HB2 : Hid (T = (sa == X8 && (sb == X12 && (sr == X2 && (V == X3))))) := hid (by rw [HB1.out, e1]; rfl)
  clear t1 HB1
  by_cases t2 : sa = X8
  case neg =>
    have e2 : (sa == X8) = false := by simpa using t2
    have hX : T = false := by rw [HB2.out, e2]; rfl
    subst hX
    clear t2 HB2
    go_wp2_with fail
    refine wp_region_up (by kernel_rfl) (by kernel_rfl) ?_
    try simp only [List.append_eq, List.cons_append, List.nil_append]
    repeat (first
      | (go_big_quiet_want; (refine quiet_load_row 31 _ (by rfl) o3 (by rfl) 31 cs _ HC3.out.from Tryz.underlying31 rfl HCz.out ?_); simp only [Act.put, List.setIfInBounds_toArray, List.set_cons_zero, List.set_cons_succ]; go_big_quiet_on)
      | (go_big_quiet_step ((first
      | (go_at_call 24; first
        | ((with_reducible (show Calls _ _ #[_, .int .i64 m, .int .i64 s] _ _)); exact Calls.up_of (N4.out _))
        | ((with_reducible (show Calls _ _ #[_, .int .i64 z, .int .i64 s] _ _)); exact Calls.up_of (N5.out _))
        | ((with_reducible (show Calls _ _ #[_, .int .i64 x, .int .i64 u] _ _)); exact Calls.up_of (N6.out _))
        | ((with_reducible (show Calls _ _ #[_, .int .i64 G, .int .i64 v] _ _)); exact Calls.up_of (N7.out _))
        | ((with_reducible (show Calls _ _ #[_, .int .i64 y, .int .i64 X9] _ _)); exact Calls.up_of (N10.out _))
        | ((with_reducible (show Calls _ _ #[_, .int .i64 p, .int .i64 v] _ _)); exact Calls.up_of (N11.out _)))
      | (go_at_call 28; first
        | ((with_reducible (show Calls _ _ #[_, .int .i64 X6, _] _ _)); exact Calls.up_of (N8.out _))
        | ((with_reducible (show Calls _ _ #[_, .int .i64 X10, _] _ _)); exact Calls.up_of (N12.out _)))
      | (go_at_call 26; first
        | ((with_reducible (show Calls _ _ #[_, .int .i64 r, .int .i64 u] _ _)); exact Calls.up_of (N1.out _))
        | ((with_reducible (show Calls _ _ #[_, .int .i64 c, .int .i64 u] _ _)); exact Calls.up_of (N3.out _))
        | ((with_reducible (show Calls _ _ #[_, .int .i64 s, .int .i64 u] _ _)); exact Calls.up_of (N9.out _)))
      | (go_at_call 25; exact Calls.up_same (N2.out _))
      | (go_at_call 29; exact Calls.up_of (M1.out _))))))
    refine wpQuiet_nil ?_
    rintro _ ⟨p', rfl⟩
    go_wp2
    go_ret
    exact ⟨rfl, HU3.out.trans p'.up⟩
  have e2 : (sa == X8) = true := by simpa using t2
  have HB3 : Hid (T = (sb == X12 && (sr == X2 && (V == X3)))) := hid (by rw [HB2.out, e2]; rfl)
  clear t2 HB2
  by_cases t3 : sb = X12
  case neg =>
    have e3 : (sb == X12) = false := by simpa using t3
    have hX : T = false := by rw [HB3.out, e3]; rfl
    subst hX
    clear t3 HB3
    go_wp2_with fail
    refine wp_region_up (by kernel_rfl) (by kernel_rfl) ?_
    try simp only [List.append_eq, List.cons_append, List.nil_append]
    repeat (first
      | (go_big_quiet_want; (refine quiet_load_row 31 _ (by rfl) o3 (by rfl) 31 cs _ HC3.out.from Tryz.underlying31 rfl HCz.out ?_); simp only [Act.put, List.setIfInBounds_toArray, List.set_cons_zero, List.set_cons_succ]; go_big_quiet_on)
      | (go_big_quiet_step ((first
      | (go_at_call 24; first
        | ((with_reducible (show Calls _ _ #[_, .int .i64 m, .int .i64 s] _ _)); exact Calls.up_of (N4.out _))
        | ((with_reducible (show Calls _ _ #[_, .int .i64 z, .int .i64 s] _ _)); exact Calls.up_of (N5.out _))
        | ((with_reducible (show Calls _ _ #[_, .int .i64 x, .int .i64 u] _ _)); exact Calls.up_of (N6.out _))
        | ((with_reducible (show Calls _ _ #[_, .int .i64 G, .int .i64 v] _ _)); exact Calls.up_of (N7.out _))
        | ((with_reducible (show Calls _ _ #[_, .int .i64 y, .int .i64 X9] _ _)); exact Calls.up_of (N10.out _))
        | ((with_reducible (show Calls _ _ #[_, .int .i64 p, .int .i64 v] _ _)); exact Calls.up_of (N11.out _)))
      | (go_at_call 28; first
        | ((with_reducible (show Calls _ _ #[_, .int .i64 X6, _] _ _)); exact Calls.up_of (N8.out _))
        | ((with_reducible (show Calls _ _ #[_, .int .i64 X10, _] _ _)); exact Calls.up_of (N12.out _)))
      | (go_at_call 26; first
        | ((with_reducible (show Calls _ _ #[_, .int .i64 r, .int .i64 u] _ _)); exact Calls.up_of (N1.out _))
        | ((with_reducible (show Calls _ _ #[_, .int .i64 c, .int .i64 u] _ _)); exact Calls.up_of (N3.out _))
        | ((with_reducible (show Calls _ _ #[_, .int .i64 s, .int .i64 u] _ _)); exact Calls.up_of (N9.out _)))
      | (go_at_call 25; exact Calls.up_same (N2.out _))
      | (go_at_call 29; exact Calls.up_of (M1.out _))))))
    refine wpQuiet_nil ?_
    rintro _ ⟨p', rfl⟩
    go_wp2
    go_ret
    exact ⟨rfl, HU3.out.trans p'.up⟩
  have e3 : (sb == X12) = true := by simpa using t3
  have HB4 : Hid (T = (sr == X2 && (V == X3))) := hid (by rw [HB3.out, e3]; rfl)
  clear t3 HB3
  by_cases t4 : sr = X2
  case neg =>
    have e4 : (sr == X2) = false := by simpa using t4
    have hX : T = false := by rw [HB4.out, e4]; rfl
    subst hX
    clear t4 HB4
    go_wp2_with fail
    refine wp_region_up (by kernel_rfl) (by kernel_rfl) ?_
    try simp only [List.append_eq, List.cons_append, List.nil_append]
    repeat (first
      | (go_big_quiet_want; (refine quiet_load_row 31 _ (by rfl) o3 (by rfl) 31 cs _ HC3.out.from Tryz.underlying31 rfl HCz.out ?_); simp only [Act.put, List.setIfInBounds_toArray, List.set_cons_zero, List.set_cons_succ]; go_big_quiet_on)
      | (go_big_quiet_step ((first
      | (go_at_call 24; first
        | ((with_reducible (show Calls _ _ #[_, .int .i64 m, .int .i64 s] _ _)); exact Calls.up_of (N4.out _))
        | ((with_reducible (show Calls _ _ #[_, .int .i64 z, .int .i64 s] _ _)); exact Calls.up_of (N5.out _))
        | ((with_reducible (show Calls _ _ #[_, .int .i64 x, .int .i64 u] _ _)); exact Calls.up_of (N6.out _))
        | ((with_reducible (show Calls _ _ #[_, .int .i64 G, .int .i64 v] _ _)); exact Calls.up_of (N7.out _))
        | ((with_reducible (show Calls _ _ #[_, .int .i64 y, .int .i64 X9] _ _)); exact Calls.up_of (N10.out _))
        | ((with_reducible (show Calls _ _ #[_, .int .i64 p, .int .i64 v] _ _)); exact Calls.up_of (N11.out _)))
      | (go_at_call 28; first
        | ((with_reducible (show Calls _ _ #[_, .int .i64 X6, _] _ _)); exact Calls.up_of (N8.out _))
        | ((with_reducible (show Calls _ _ #[_, .int .i64 X10, _] _ _)); exact Calls.up_of (N12.out _)))
      | (go_at_call 26; first
        | ((with_reducible (show Calls _ _ #[_, .int .i64 r, .int .i64 u] _ _)); exact Calls.up_of (N1.out _))
        | ((with_reducible (show Calls _ _ #[_, .int .i64 c, .int .i64 u] _ _)); exact Calls.up_of (N3.out _))
        | ((with_reducible (show Calls _ _ #[_, .int .i64 s, .int .i64 u] _ _)); exact Calls.up_of (N9.out _)))
      | (go_at_call 25; exact Calls.up_same (N2.out _))
      | (go_at_call 29; exact Calls.up_of (M1.out _))))))
    refine wpQuiet_nil ?_
    rintro _ ⟨p', rfl⟩
    go_wp2
    go_ret
    exact ⟨rfl, HU3.out.trans p'.up⟩
  have e4 : (sr == X2) = true := by simpa using t4
  have HB5 : Hid (T = (V == X3)) := hid (by rw [HB4.out, e4]; rfl)
  clear t4 HB4
  go_wp2_with fail
  refine wp_region_up (by kernel_rfl) (by kernel_rfl) ?_
  try simp only [List.append_eq, List.cons_append, List.nil_append]
  repeat (first
    | (go_big_quiet_want; (refine quiet_load_row 31 _ (by rfl) o3 (by rfl) 31 cs _ HC3.out.from Tryz.underlying31 rfl HCz.out ?_); simp only [Act.put, List.setIfInBounds_toArray, List.set_cons_zero, List.set_cons_succ]; go_big_quiet_on)
    | (go_big_quiet_step ((first
    | (go_at_call 24; first
      | ((with_reducible (show Calls _ _ #[_, .int .i64 m, .int .i64 s] _ _)); exact Calls.up_of (N4.out _))
      | ((with_reducible (show Calls _ _ #[_, .int .i64 z, .int .i64 s] _ _)); exact Calls.up_of (N5.out _))
      | ((with_reducible (show Calls _ _ #[_, .int .i64 x, .int .i64 u] _ _)); exact Calls.up_of (N6.out _))
      | ((with_reducible (show Calls _ _ #[_, .int .i64 G, .int .i64 v] _ _)); exact Calls.up_of (N7.out _))
      | ((with_reducible (show Calls _ _ #[_, .int .i64 y, .int .i64 X9] _ _)); exact Calls.up_of (N10.out _))
      | ((with_reducible (show Calls _ _ #[_, .int .i64 p, .int .i64 v] _ _)); exact Calls.up_of (N11.out _)))
    | (go_at_call 28; first
      | ((with_reducible (show Calls _ _ #[_, .int .i64 X6, _] _ _)); exact Calls.up_of (N8.out _))
      | ((with_reducible (show Calls _ _ #[_, .int .i64 X10, _] _ _)); exact Calls.up_of (N12.out _)))
    | (go_at_call 26; first
      | ((with_reducible (show Calls _ _ #[_, .int .i64 r, .int .i64 u] _ _)); exact Calls.up_of (N1.out _))
      | ((with_reducible (show Calls _ _ #[_, .int .i64 c, .int .i64 u] _ _)); exact Calls.up_of (N3.out _))
      | ((with_reducible (show Calls _ _ #[_, .int .i64 s, .int .i64 u] _ _)); exact Calls.up_of (N9.out _)))
    | (go_at_call 25; exact Calls.up_same (N2.out _))
    | (go_at_call 29; exact Calls.up_of (M1.out _))))))
  refine wpQuiet_nil ?_
  rintro _ ⟨p', rfl⟩
  go_wp2
  go_ret
  exact ⟨by rw [HB5.out]; rfl, HU3.out.trans p'.up⟩
end Go.Proofs.YtdbhleinhpiohaaGreatDoor
namespace Go.Proofs.YtdbhleinhpiohaaGreatDoor
open Go.RowKit Go.Sp
set_option maxHeartbeats 4000000
set_option maxRecDepth 20000

theorem rsize_ok (a : Int) (w : World) (h0 : 0 ≤ a) (h1 : a < 2305843009213693952) :
    Calls Tryz.prog 88 #[.int .i64 a] w fun e w' => e = .returned (.int .u64 a) ∧ w = w' := by
  have d : decide (a < 0) = false := by simp; omega
  have hw : IntKind.u64.wrap a = a := by rw [IntKind.wrap_u64]; omega
  go_enter Tryz.func88, Tryz.ntmps88
  go_wp2
  go_ret
  exact ⟨rfl, rfl⟩

theorem rGcd_one (a m b : Int) (w : World) (h0 : 0 ≤ a) (h1 : a < m) (h4 : m < 2305843009213693952) (hb : a * b % m = 1 % m) :
    Calls Tryz.prog 67 #[.int .i64 a, .int .i64 m] w fun e w' => e = .returned (.int .i64 1) ∧ Up w w' := by
  have HB := hid hb
  clear hb
  go_enter Tryz.func67, Tryz.ntmps67
  go_wp2_with fail
  refine (rsize_ok a _ h0 (by omega)).mono ?_
  rintro e w' ⟨rfl, rfl⟩
  go_wp2_with fail
  refine (rsize_ok m _ (by omega) h4).mono ?_
  rintro e w' ⟨rfl, rfl⟩
  go_wp2_with fail
  go_loopw [5, 6] (fun vx vy wr => ∃ x y : Int, vx = .int .u64 x ∧ vy = .int .u64 y ∧ 0 ≤ x ∧ x < 2305843009213693952 ∧ 0 ≤ y ∧ y < 2305843009213693952 ∧ Hid (∀ d : Int, d ∣ x → d ∣ y → d ∣ a ∧ d ∣ m) ∧ Hid (Up w wr)) (fun _ vy _ => (intOf vy).toNat)
  case atStart => exact ⟨a, m, rfl, rfl, h0, by omega, by omega, h4, hid (fun d h1 h2 => ⟨h1, h2⟩), hid (Up.refl _)⟩
  case round =>
    obtain ⟨x, y, rfl, rfl, x0, x1, y0, y1, HD, HU⟩ := hrel
    by_cases hy : 0 < y
    · have t1 : decide (y > 0) = true := by simpa using hy
      have t2 : (y == 0) = false := by simp; omega
      have r0 := Int.emod_nonneg x (show y ≠ 0 by omega)
      have r1 := Int.emod_lt_of_pos x (show 0 < y by omega)
      have HD2 : Hid (∀ d : Int, d ∣ y → d ∣ x % y → d ∣ a ∧ d ∣ m) := hid (fun d d1 d2 => HD.out d (by
        have : x = x % y + x / y * y := by have := Int.emod_def x y; rw [Int.mul_comm] at this; omega
        rw [this]
        exact Int.dvd_add d2 (Int.dvd_trans d1 (Int.dvd_mul_left _ _))) d1)
      clear HD
      go_wp2_with fail
      go_quiet (fail)
      go_wp2_with fail
      go_roundw
      case rel => exact ⟨_, _, rfl, rfl, by omega, by omega, r0, by omega, HD2, hid (HU.out.drewN _)⟩
      case measure => simp [intOf]; omega
    · obtain rfl : y = 0 := by omega
      have hd := HD.out x (Int.dvd_refl x) (Int.dvd_zero x)
      obtain rfl : x = 1 := co_one HB.out hd.1 hd.2 x0
      clear hd
      go_wp2
      go_ret
      exact ⟨rfl, HU.out⟩

theorem rInverse_ok (a m b : Int) (w : World) (h0 : 0 ≤ a) (h1 : a < m) (h4 : m < 2305843009213693952) (hb0 : 0 ≤ b) (hb1 : b < m) (hb : a * b % m = 1 % m) :
    Calls Tryz.prog 31 #[.int .i64 a, .int .i64 m] w fun e w' => e = .returned (.tuple #[.int .i64 b, .bool true]) ∧ Up w w' := by
  have HB := hid hb
  have hm0 : (m == 0) = false := by simp; omega
  have M1 := hid (fun w' => rGcd_one a m b w' h0 h1 h4 hb)
  clear hb
  go_enter Tryz.func31, Tryz.ntmps31
  go_wp2_with fail
  refine (M1.out _).mono ?_
  rintro e w1 ⟨rfl, hU1⟩
  have HU1 := hid hU1
  clear hU1
  go_wp2_with fail
  go_loopw [6, 7, 8, 9] (fun vu vv vx vy wr => ∃ u v x y : Int, vu = .int .i64 u ∧ vv = .int .i64 v ∧ vx = .int .i64 x ∧ vy = .int .i64 y ∧ Hid (RE a m u v x y) ∧ Hid (Up w wr)) (fun _ vv _ _ _ => (intOf vv).toNat)
  case atStart => exact ⟨a, m, 1 % m, 0, rfl, rfl, rfl, rfl, hid (RE.start h0 h1), HU1⟩
  case round =>
    obtain ⟨u, v, x, y, rfl, rfl, rfl, rfl, HR, HU⟩ := hrel
    have u0 := HR.out.u0
    have um := HR.out.um
    have v0 := HR.out.v0
    have vm := HR.out.vm
    have x0 := HR.out.x0
    have x1 := HR.out.x1
    have y0 := HR.out.y0
    have y1 := HR.out.y1
    by_cases hv : 1 ≤ v
    · have HS := hid (HR.out.step hv)
      have t1 : (v != 0) = true := by simp; omega
      have t2 : (v == 0) = false := by simp; omega
      have e0 : u - u / v * v = u % v := by rw [Int.emod_def, Int.mul_comm]
      have r0 := Int.emod_nonneg u (show v ≠ 0 by omega)
      have r1 := Int.emod_lt_of_pos u (show 0 < v by omega)
      have q0 : 0 ≤ u / v := Int.ediv_nonneg u0 v0
      have q1 : u / v ≤ u := Int.ediv_le_self v u0
      obtain ⟨q, hq⟩ : ∃ q, u / v = q := ⟨_, rfl⟩
      rw [hq] at e0 q0 q1 HS
      have z0 : 0 ≤ q * v := Int.mul_nonneg q0 v0
      have e1 : wrap64 (q * v) = q * v := IntWalk.wrap64_in _ ⟨by omega, by omega⟩
      have p0 := Int.emod_nonneg q (show m ≠ 0 by omega)
      have p1 := Int.emod_lt_of_pos q (show 0 < m by omega)
      have s0 := Int.emod_nonneg (q % m * y) (show m ≠ 0 by omega)
      have s1 := Int.emod_lt_of_pos (q % m * y) (show 0 < m by omega)
      have N1 := hid (fun w' => rReduce_ok q m w' (by omega) (by omega) (by omega) h4)
      have N2 := hid (fun w' => rMul_ok (q % m) y m w' p0 p1 y0 y1 h4)
      have N3 := hid (fun w' => rReduce_ok (x - q % m * y % m) m w' (by omega) (by omega) (by omega) h4)
      have r2 : u - q * v < v := by omega
      have r3 : 0 ≤ u - q * v := by omega
      obtain ⟨t, ht⟩ : ∃ t, u - q * v = t := ⟨_, rfl⟩
      rw [ht] at HS r2 r3
      generalize q % m * y % m = c at *
      obtain ⟨d, hd⟩ : ∃ d, (x - c) % m = d := ⟨_, rfl⟩
      rw [hd] at HS N3
      clear HR e0 r0 r1 hd
      go_wp2_with fail
      refine (N1.out _).mono ?_
      rintro e w' ⟨rfl, rfl⟩
      go_wp2_with fail
      refine (N2.out _).mono ?_
      rintro e w' ⟨rfl, rfl⟩
      go_wp2_with fail
      refine (N3.out _).mono ?_
      rintro e w' ⟨rfl, rfl⟩
      go_wp2_with fail
      go_roundw
      case rel => exact ⟨_, _, _, _, rfl, rfl, rfl, rfl, HS, HU⟩
      case measure => simp [intOf]; omega
    · obtain rfl : v = 0 := by omega
      have hd := HR.out.hd u (Int.dvd_refl u) (Int.dvd_zero u)
      obtain rfl : u = 1 := co_one HB.out hd.1 hd.2 u0
      have hxb : x = b := inv_unique hb0 hb1 x0 x1 HB.out (Int.emod_eq_emod_iff_emod_sub_eq_zero.2 (Int.emod_eq_zero_of_dvd HR.out.hx))
      subst hxb
      clear hd HR
      go_wp2
      go_ret2
      exact ⟨rfl, HU.out⟩

/-- The quotient of scalars; t is the inverse of the second one. -/
theorem fOver_ok (P Q G a b t : Int) (w : World) (h0 : 0 ≤ a) (h1 : a < Q) (h2 : 0 ≤ b) (h3 : b < Q) (h4 : Q < 2305843009213693952) (t0 : 0 ≤ t) (t1 : t < Q) (ht : b * t % Q = 1 % Q) :
    Calls Tryz.prog 17 #[grp P Q G, .int .i64 a, .int .i64 b] w fun e w' => e = .returned (.int .i64 (a * t % Q)) ∧ Up w w' := by
  have M1 := hid (fun w' => Inverse_ok b Q t w' h2 h3 h4 t0 t1 ht)
  have M2 := hid (fun w' => fMul_ok P Q G a t w' h0 h1 t0 t1 h4)
  generalize a * t % Q = X at *
  obtain ⟨o, ho⟩ : ∃ o, w.heap.size = o := ⟨_, rfl⟩
  have HO := hid ho
  clear ht ho
  go_enter Tryz.func17, Tryz.ntmps17
  go_wp2_with fail
  refine (M1.out _).mono ?_
  rintro e w1 ⟨rfl, hU1⟩
  have HA1 := hid ((nums_three (w := w) (t := 54) (x := P) (y := Q) (z := G) HO.out).up hU1)
  have HU1 := hid (((Up.refl w).alloc _).trans hU1)
  clear hU1
  rw [HO.out]
  obtain ⟨c0, c1, c2⟩ := HA1.out
  go_wp2_with fail
  refine (M2.out _).mono ?_
  rintro e w2 ⟨rfl, hU2⟩
  go_wp2
  go_ret
  exact ⟨rfl, HU1.out.trans hU2⟩

theorem rLog_any (P Q G b x : Int) (w : World) (p0 : 2 ≤ P) (p1 : P < 2305843009213693952) (q0 : 0 ≤ Q) (q1 : Q < 2305843009213693952) (b0 : 0 ≤ b) (b1 : b < P) :
    Calls Tryz.prog 30 #[grp P Q G, .int .i64 b, .int .i64 x] w fun e w' => e = .returned (.int .i64 (lgV P Q b x)) ∧ Up w w' := by
  have M1 := hid (fun y w' (h0 : 0 ≤ y) (h1 : y < P) => rMul_ok y b P w' h0 h1 b0 b1 p1)
  have HS := hid (fun (i : Nat) => (by rw [pw_add, pw_one_exp (by omega) b1] : pw b (i + 1) P = pw b i P * b % P))
  have HN := hid (fun (h : ∀ m : Nat, m < Q.toNat → pw b m P ≠ x) => (by unfold lgV; rw [lgN_miss h] : lgV P Q b x = -1))
  have HY := hid (fun (n : Nat) (hn : n < Q.toNat) (h1 : pw b n P = x) (h2 : ∀ j, j < n → pw b j P ≠ x) => (by unfold lgV; rw [lgN_least hn h1 h2] : lgV P Q b x = n))
  have HP := hid (fun (i : Nat) => And.intro (pw_nonneg b i (show 0 < P by omega)) (pw_lt b i (show 0 < P by omega)))
  have h00 : pw b 0 P = 1 := by rw [pw_zero, Int.emod_eq_of_lt (by omega) (by omega)]
  generalize lgV P Q b x = X at *
  obtain ⟨o, ho⟩ : ∃ o, w.heap.size = o := ⟨_, rfl⟩
  have HO := hid ho
  clear ho
  go_enter Tryz.func30, Tryz.ntmps30
  go_wp2_with fail
  have HA0 := hid (nums_three (w := w) (t := 23) (x := P) (y := Q) (z := G) HO.out)
  have HU0 := hid ((Up.refl w).alloc (.cells #[.int .i64 P, .int .i64 Q, .int .i64 G] 23))
  rw [HO.out]
  go_loopw [7, 8] (fun vy vi wr => ∃ i : Nat, i ≤ Q.toNat ∧ vy = .int .i64 (pw b i P) ∧ vi = .int .i64 i ∧ Hid (∀ j, j < i → pw b j P ≠ x) ∧ Hid (GrpAt wr o P Q G) ∧ Hid (Up w wr)) (fun _ vi _ => Q.toNat - (intOf vi).toNat)
  case atStart => exact ⟨0, by omega, by rw [h00], rfl, hid (fun j hj => by omega), HA0, HU0⟩
  case round =>
    clear HA0 HU0
    obtain ⟨i, hi, rfl, rfl, HI, HA, HU⟩ := hrel
    obtain ⟨c0, c1, c2⟩ := HA.out
    obtain ⟨y0, y1⟩ := HP.out i
    by_cases hlt : i < Q.toNat
    · have t1 : decide ((i : Int) < Q) = true := by simp; omega
      by_cases hx : pw b i P = x
      · have t2 : (pw b i P == x) = true := by simpa using hx
        obtain rfl : X = (i : Int) := HY.out i hlt hx HI.out
        clear hx
        go_wp2
        go_ret
        exact ⟨rfl, HU.out⟩
      · have t2 : (pw b i P == x) = false := by simpa using hx
        have N1 := hid (fun w' => M1.out (pw b i P) w' y0 y1)
        rw [← HS.out] at N1
        have HI2 : Hid (∀ j, j < i + 1 → pw b j P ≠ x) := hid (fun j hj => by
          by_cases he : j < i
          · exact HI.out j he
          · obtain rfl : j = i := by omega
            exact hx)
        clear hx HI
        generalize pw b i P = y at *
        go_wp2_with fail
        refine (N1.out _).mono ?_
        rintro e w' ⟨rfl, rfl⟩
        go_wp2_with fail
        go_roundw
        case rel => exact ⟨i + 1, by omega, rfl, by go_num, HI2, HA, HU⟩
        case measure => simp [intOf]; omega
    · obtain rfl : i = Q.toNat := by omega
      have t1 : decide (((Q.toNat : Nat) : Int) < Q) = false := by simp; omega
      obtain rfl : X = -1 := HN.out (fun m hm => HI.out m hm)
      go_wp2
      go_ret
      exact ⟨rfl, HU.out⟩
end Go.Proofs.YtdbhleinhpiohaaGreatDoor
namespace Go.Sp
open Go.RowKit

section
variable {P : Program} {ops : Array Oper} {Q : Exit → Act → World → Prop} {S : World → Prop} {last : Nat}

/-- What is to be shown of one operation that may come up. -/
def anyE_up (P : Program) (ops : Array Oper) (Q : Exit → Act → World → Prop) (S : World → Prop) (last n : Nat) (listed : Array Bool) (a : Act) (w : World) (i : Nat) : Prop :=
  ∃ o, ops[i]? = some o ∧ o.guard = none ∧ ∀ K : Act → World → Prop, Hid (∀ b u, (i = last ∨ S u) → anyE P ops Q S last n (listed.setIfInBounds i true) b u → K b u) → o.wp P a w K Q

theorem anyE_all {n : Nat} {listed : Array Bool} {a : Act} {w : World} (l : List Nat) (hr : Region.ready .any ops listed = l) (hl : l ≠ []) (h : ∀ i ∈ l, anyE_up P ops Q S last n listed a w i) : anyE P ops Q S last (n + 1) listed a w := by
  refine ⟨fun h0 => absurd (hr.symm.trans h0) hl, fun j hj => ?_⟩
  rw [hr] at hj
  obtain ⟨o, ho, hg, h⟩ := h j hj
  unfold wpOp
  simp only [ho]
  rw [if_pos (by simp [Region.wanted, hg])]
  exact .inl (h _ (hid fun b u hS k => ⟨hS, k⟩))

theorem anyE_two {n : Nat} {listed : Array Bool} {a : Act} {w : World} (i j : Nat) (hr : Region.ready .any ops listed = [i, j]) (hi : anyE_up P ops Q S last n listed a w i) (hj : anyE_up P ops Q S last n listed a w j) : anyE P ops Q S last (n + 1) listed a w :=
  anyE_all [i, j] hr (by simp) fun k hk => by
    simp only [List.mem_cons, List.not_mem_nil, or_false] at hk
    rcases hk with rfl | rfl
    · exact hi
    · exact hj
theorem anyE_three {n : Nat} {listed : Array Bool} {a : Act} {w : World} (i j k : Nat) (hr : Region.ready .any ops listed = [i, j, k]) (hi : anyE_up P ops Q S last n listed a w i) (hj : anyE_up P ops Q S last n listed a w j) (hk : anyE_up P ops Q S last n listed a w k) : anyE P ops Q S last (n + 1) listed a w :=
  anyE_all [i, j, k] hr (by simp) fun x hx => by
    simp only [List.mem_cons, List.not_mem_nil, or_false] at hx
    rcases hx with rfl | rfl | rfl
    · exact hi
    · exact hj
    · exact hk
/-- What yields under S may be taken first, where S holds behind every operation. -/
theorem anyE_takeA {i : Nat} {o : Oper} {v : Value} (d : Tmp) (ho : ops[i]? = some o) (hd : o.dst = some d) (hs : Region.noSelect ops = true) (hla : ops.size ≤ last) (hQ : ∀ c a w, Q (.panic c) (a.put (some d) v) w → Q (.panic c) a w) :
    ∀ {n : Nat} {listed : Array Bool} {a : Act} {w : World}, Region.free .any ops listed i = true → (Region.ready .any ops listed).contains i = true → YieldsIf P ops S o v a → S w →
      anyE P ops Q S last n (listed.setIfInBounds i true) (a.put (some d) v) w → anyE P ops Q S last (n + 1) listed a w := by
  rw [← hd] at hQ ⊢
  intro n
  have key : ∀ (n : Nat) (listed : Array Bool) (a : Act) (w : World), (∀ j oj, ops[j]? = some oj → j ≠ i → listed.getD j true = false → (∀ e ∈ oj.after, Region.binds .any e = true → e.on ≠ i) → o.apart ops oj = true) → i ∈ Region.ready .any ops listed → YieldsIf P ops S o v a → S w →
      anyE P ops Q S last n (listed.setIfInBounds i true) (a.put o.dst v) w → anyE P ops Q S last (n + 1) listed a w := by
    intro n
    induction n with
    | zero =>
      intro listed a w _ hr hy hS h
      refine ⟨fun h0 => absurd hr (by rw [h0]; simp), fun j hj => ?_⟩
      by_cases hji : j = i
      · subst hji
        exact hy.wpOp ho hS ⟨.inr hS, h⟩
      · exact absurd (ready_mono hj hji) (by rw [h.1]; simp)
    | succ n ih =>
      intro listed a w hf hr hy hS h
      refine ⟨fun h0 => absurd hr (by rw [h0]; simp), fun j hj => ?_⟩
      by_cases hji : j = i
      · subst hji
        exact hy.wpOp ho hS ⟨.inr hS, h⟩
      have hun := (mem_ready.1 hr).1
      obtain ⟨hju, oj, hoj, hall⟩ := mem_ready.1 hj
      have hjl : j ≠ last := fun hl => by
        have := (Array.getElem?_eq_some_iff.1 hoj).1
        omega
      have hno : ∀ e ∈ oj.after, Region.binds .any e = true → e.on ≠ i := fun e hm hb hx => by
        have := hall e hm hb
        rw [hx, unlisted hun] at this
        cases this
      have hstep := wpOp_putIf hoj (hf j oj hoj hji hju hno) (fun cs b => Region.noSelect_spec hs i o cs b ho) (fun cs b => Region.noSelect_spec hs j oj cs b hoj) hQ hy (h.2 j (ready_mono hj hji))
      refine wpOp_mono (fun b u k => ?_) hstep
      obtain ⟨hy2, hSu, hrest⟩ := k
      have hSu' : S u := by
        rcases hSu with hSu | hSu
        · exact absurd hSu hjl
        · exact hSu
      refine ⟨.inr hSu', ih _ b u (fun k ok hk hki hku hkn => hf k ok hk hki ?_ hkn) (ready_mono hr (Ne.symm hji)) hy2 hSu' ?_⟩
      · by_cases hjk : j = k
        · subst hjk; exact hju
        · rw [getD_set_ne true hjk] at hku; exact hku
      · rw [Array.setIfInBounds_comm _ _ hji]
        exact hrest
  intro listed a w hf hr hy hS h
  exact key n listed a w (fun j oj h1 h2 h3 h4 => Region.free_spec ho hf j oj h1 h2 h3 h4) (by simpa using hr) hy hS h

end
end Go.Sp
