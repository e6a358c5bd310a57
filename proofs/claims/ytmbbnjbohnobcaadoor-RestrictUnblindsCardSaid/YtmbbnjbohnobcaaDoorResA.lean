/- Restrictive signatures: elements, messages, scalars, powers. -/
import Derived.Test.YtmbbnjbohnobcaaDoorPedD
import Derived.Test.YtmbbnjbohnobcaaDoorStep
namespace Go.Proofs.YtmbbnjbohnobcaaDoor
open Go.RowKit Go.Sp
set_option maxHeartbeats 2000000
set_option maxRecDepth 20000

/-- A scalar other than 0. -/
def nzB (Q x : Int) : Bool := decide (1 ≤ x) && decide (x < Q)
theorem nzB_iff {Q x : Int} : nzB Q x = true ↔ 1 ≤ x ∧ x < Q := by simp [nzB]
/-- A power, by a scalar. -/
def pwi (P a e : Int) : Int := pw a e.toNat P
theorem pwi_range {P a e : Int} (h : 0 < P) : 0 ≤ pwi P a e ∧ pwi P a e < P := ⟨pw_nonneg _ _ h, pw_lt _ _ h⟩

theorem resElement_any (P Q G A B C x : Int) (w : World) (g1 : P < 2305843009213693952) (g3 : 0 ≤ Q) (hQ : Q ≤ 9223372036854775807) :
    Calls Tryd.prog 127 #[bas P Q G A B C, .int .i64 x] w fun e w' => e = .returned (.bool (elB P Q x)) ∧ Up w w' := by
  have HB : Hid (elB P Q x = (decide (1 ≤ x) && decide (x < P) && decide (pw x Q.toNat P = 1))) := hid rfl
  generalize elB P Q x = X at *
  by_cases c1 : x < 1
  case pos =>
    have hB : X = false := by rw [HB.out]; simp; omega
    subst hB
    go_enter Tryd.func127, Tryd.ntmps127
    go_wp2
    go_ret
    exact ⟨rfl, (Up.refl w).alloc _⟩
  have d1 : decide (x < 1) = false := by simpa using c1
  by_cases c2 : x ≥ P
  case pos =>
    have hB : X = false := by rw [HB.out]; simp; omega
    subst hB
    have d2 : decide (x ≥ P) = true := by simpa using c2
    go_enter Tryd.func127, Tryd.ntmps127
    go_wp2
    go_ret
    exact ⟨rfl, (Up.refl w).alloc _⟩
  have d2 : decide (x ≥ P) = false := by simpa using c2
  have HB2 : Hid (X = decide (pw x Q.toNat P = 1)) := hid (by rw [HB.out, show decide (1 ≤ x) = true by simp; omega, show decide (x < P) = true by simp; omega]; rfl)
  clear HB
  go_enter Tryd.func127, Tryd.ntmps127
  go_wp2_with fail
  refine (Pow_ok x Q P _ (by omega) (by omega) g3 hQ g1).mono ?_
  rintro e w3 ⟨rfl, hU3⟩
  go_wp2
  go_ret
  refine ⟨?_, ((Up.refl w).alloc _).trans hU3⟩
  rw [HB2.out]
  exact congrArg (fun b => Ending.returned (.bool b)) (by rw [Bool.eq_iff_iff]; simp)

theorem resMessage_any (P Q G A B C x : Int) (w : World) (g1 : P < 2305843009213693952) (g3 : 0 ≤ Q) (hQ : Q ≤ 9223372036854775807) :
    Calls Tryd.prog 77 #[bas P Q G A B C, .int .i64 x] w fun e w' => e = .returned (.bool (gnB P Q x)) ∧ Up w w' := by
  by_cases hx : x = 1
  · have d1 : (x != 1) = false := by simpa using hx
    have hB : gnB P Q x = false := by simp [gnB, hx]
    rw [hB]
    clear hx hB
    go_enter Tryd.func77, Tryd.ntmps77
    go_wp2
    go_ret
    exact ⟨rfl, (Up.refl w).alloc _⟩
  · have d1 : (x != 1) = true := by simpa using hx
    have hB : gnB P Q x = elB P Q x := by simp [gnB, hx]
    rw [hB]
    clear hx hB
    go_enter Tryd.func77, Tryd.ntmps77
    go_wp2_with fail
    refine (resElement_any P Q G A B C x _ g1 g3 hQ).mono ?_
    rintro e w3 ⟨rfl, hU3⟩
    go_wp2
    go_ret
    exact ⟨rfl, ((Up.refl w).alloc _).trans hU3⟩

theorem resScalar_any (P Q G A B C x : Int) (w : World) :
    Calls Tryd.prog 78 #[bas P Q G A B C, .int .i64 x] w fun e w' => e = .returned (.bool (exB Q x)) ∧ Up w w' := by
  have HB : Hid (exB Q x = (decide (0 ≤ x) && decide (x < Q))) := hid rfl
  generalize exB Q x = X at *
  by_cases c1 : x ≥ 0
  case neg =>
    have hB : X = false := by rw [HB.out]; simp; omega
    subst hB
    have d1 : decide (x ≥ 0) = false := by simpa using c1
    go_enter Tryd.func78, Tryd.ntmps78
    go_wp2
    go_ret
    exact ⟨rfl, (Up.refl w).alloc _⟩
  have d1 : decide (x ≥ 0) = true := by simpa using c1
  have HB2 : Hid (X = decide (x < Q)) := hid (by rw [HB.out, show decide (0 ≤ x) = true by simp; omega]; rfl)
  clear HB
  go_enter Tryd.func78, Tryd.ntmps78
  go_wp2
  go_ret
  exact ⟨by rw [HB2.out]; rfl, (Up.refl w).alloc _⟩

theorem resNonzero_any (P Q G A B C x : Int) (w : World) :
    Calls Tryd.prog 75 #[bas P Q G A B C, .int .i64 x] w fun e w' => e = .returned (.bool (nzB Q x)) ∧ Up w w' := by
  have HB : Hid (nzB Q x = (decide (1 ≤ x) && decide (x < Q))) := hid rfl
  generalize nzB Q x = X at *
  by_cases c1 : x > 0
  case neg =>
    have hB : X = false := by rw [HB.out]; simp; omega
    subst hB
    have d1 : decide (x > 0) = false := by simpa using c1
    go_enter Tryd.func75, Tryd.ntmps75
    go_wp2
    go_ret
    exact ⟨rfl, (Up.refl w).alloc _⟩
  have d1 : decide (x > 0) = true := by simpa using c1
  have HB2 : Hid (X = decide (x < Q)) := hid (by rw [HB.out, show decide (1 ≤ x) = true by simp; omega]; rfl)
  clear HB
  go_enter Tryd.func75, Tryd.ntmps75
  go_wp2
  go_ret
  exact ⟨by rw [HB2.out]; rfl, (Up.refl w).alloc _⟩

theorem resPower_ok (P Q G A B C a e : Int) (w : World) (h0 : 0 ≤ a) (h1 : a < P) (h2 : 0 ≤ e) (h3 : e ≤ 9223372036854775807) (g1 : P < 2305843009213693952) :
    Calls Tryd.prog 76 #[bas P Q G A B C, .int .i64 a, .int .i64 e] w fun r w' => r = .returned (.int .i64 (pwi P a e)) ∧ Up w w' := by
  have HV : Hid (pwi P a e = pw a e.toNat P) := hid rfl
  go_enter Tryd.func76, Tryd.ntmps76
  go_wp2_with fail
  refine (Pow_ok a e P _ h0 h1 h2 h3 g1).mono ?_
  rintro r w3 ⟨rfl, hU3⟩
  go_wp2
  go_ret
  exact ⟨by rw [HV.out]; rfl, ((Up.refl w).alloc _).trans hU3⟩

theorem resScaled_ok (P Q G A B C a b : Int) (w : World) (h0 : 0 ≤ a) (h1 : a < Q) (h2 : 0 ≤ b) (h3 : b < Q) (g1 : Q < 2305843009213693952) :
    Calls Tryd.prog 79 #[bas P Q G A B C, .int .i64 a, .int .i64 b] w fun r w' => r = .returned (.int .i64 (a * b % Q)) ∧ Up w w' := by
  go_enter Tryd.func79, Tryd.ntmps79
  go_wp2_with fail
  refine (Mul_ok a b Q _ h0 h1 h2 h3 g1).mono ?_
  rintro r w3 ⟨rfl, hU3⟩
  go_wp2
  go_ret
  exact ⟨rfl, ((Up.refl w).alloc _).trans hU3⟩

/-- A key as a value. -/
abbrev bkey (x y z : Int) : Value := .agg #[.int .i64 x, .int .i64 y, .int .i64 z]

theorem Up.there {w w' : World} {b n : Nat} (hU : Up w w') (hb : b < w.heap.size) (h : w.there b 0 n) : w'.there b 0 n := fun j hj => by
  obtain ⟨h1, h2⟩ := h j hj
  exact ⟨by rw [hU.cell hb]; exact h1, by rw [hU.frozen hb]; exact h2⟩
end Go.Proofs.YtmbbnjbohnobcaaDoor
