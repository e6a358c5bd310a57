/- Package group and specieref10: validity and membership. -/
import Derived.Test.YtmbbnjbohnobcaaDoorRefFive
namespace Go.Proofs.YtmbbnjbohnobcaaDoor
open Go.RowKit Go.Sp
set_option maxHeartbeats 400000

/-- A group as a value. -/
abbrev grp (P Q G : Int) : Value := .agg #[.int .i64 P, .int .i64 Q, .int .i64 G]

theorem Valid_any (P Q G : Int) (w : World) (hP : -9223372036854775808 ≤ P) (hQ : Q ≤ 9223372036854775807) (hT : Tab w) :
    Calls Tryd.prog 63 #[grp P Q G] w fun e w' => e = .returned (.bool (gvB P Q G)) ∧ Up w w' := by
  have HT := hid hT
  clear hT
  have HB : Hid (gvB P Q G = (decide (P < 2305843009213693952) && decide (3 ≤ Q) && decide (Q % 2 = 1) && isP P && isP Q && decide ((P - 1) % Q = 0) && decide (2 ≤ G) && decide (G < P) && decide (pw G Q.toNat P = 1))) := hid rfl
  generalize gvB P Q G = B at *
  by_cases c1 : P < 2305843009213693952
  case neg =>
    have hB : B = false := by rw [HB.out]; simp [c1]
    subst hB
    go_enter Tryd.func63, Tryd.ntmps63
    go_wp2
    go_ret
    exact ⟨rfl, (Up.refl w).alloc _⟩
  have d1 : decide (2305843009213693952 ≤ P) = false := by simp; omega
  by_cases c2 : 3 ≤ Q
  case neg =>
    have hB : B = false := by rw [HB.out]; simp [c2]
    subst hB
    go_enter Tryd.func63, Tryd.ntmps63
    go_wp2
    go_ret
    exact ⟨rfl, (Up.refl w).alloc _⟩
  have d2 : decide (Q < 3) = false := by simp; omega
  by_cases c3 : Q % 2 = 1
  case neg =>
    have hB : B = false := by rw [HB.out]; simp [c3]
    subst hB
    have d3 : (Q % 2 == 0) = true := by simp; omega
    clear c3
    go_enter Tryd.func63, Tryd.ntmps63
    go_wp2
    go_ret
    exact ⟨rfl, (Up.refl w).alloc _⟩
  have d3 : (Q % 2 == 0) = false := by simp; omega
  have C3 := hid c3
  clear c3
  go_enter Tryd.func63, Tryd.ntmps63
  go_wp2_with fail
  refine (Is_any P _ (by omega) (HT.out.up ((Up.refl w).alloc _))).mono ?_
  rintro e w1 ⟨rfl, hU1⟩
  obtain ⟨hr1, hf1⟩ := hU1.reads
  have hs1 : w.heap.size < w1.heap.size := by have := hU1.size; simp at this; omega
  have HT1 := hid (HT.out.up (((Up.refl w).alloc _).trans hU1))
  by_cases c4 : isP P = true
  case neg =>
    have hB : B = false := by rw [HB.out]; simp [c4]
    subst hB
    have d4 : isP P = false := by simpa using c4
    clear c4
    go_wp2
    go_ret
    exact ⟨rfl, ((Up.refl w).alloc _).trans hU1⟩
  have p2 := isP_two c4
  go_wp2_with fail
  refine (Is_any Q _ hQ HT1.out).mono ?_
  rintro e w2 ⟨rfl, hU2⟩
  obtain ⟨hr2, hf2⟩ := hU2.reads
  by_cases c5 : isP Q = true
  case neg =>
    have hB : B = false := by rw [HB.out]; simp [c5]
    subst hB
    have d5 : isP Q = false := by simpa using c5
    clear c5
    go_wp2
    go_ret
    exact ⟨rfl, (((Up.refl w).alloc _).trans hU1).trans hU2⟩
  have dq : (Q == 0) = false := by simp; omega
  by_cases c6 : (P - 1) % Q = 0
  case neg =>
    have hB : B = false := by rw [HB.out]; simp [c6]
    subst hB
    have d6 : ((P - 1) % Q != 0) = true := by simp [c6]
    have d6' : ((P - 1) % Q == 0) = false := by simp [c6]
    clear c6
    go_wp2
    go_ret
    exact ⟨rfl, (((Up.refl w).alloc _).trans hU1).trans hU2⟩
  have d6 : ((P - 1) % Q != 0) = false := by simp [c6]
  have d6' : ((P - 1) % Q == 0) = true := by simp [c6]
  have C6 := hid c6
  clear c6
  by_cases c7 : 2 ≤ G
  case neg =>
    have hB : B = false := by rw [HB.out]; simp [c7]
    subst hB
    have d7 : decide (G < 2) = true := by simp; omega
    go_wp2
    go_ret
    exact ⟨rfl, (((Up.refl w).alloc _).trans hU1).trans hU2⟩
  have d7 : decide (G < 2) = false := by simp; omega
  by_cases c8 : G < P
  case neg =>
    have hB : B = false := by rw [HB.out]; simp [c8]
    subst hB
    have d8 : decide (P ≤ G) = true := by simp; omega
    go_wp2
    go_ret
    exact ⟨rfl, (((Up.refl w).alloc _).trans hU1).trans hU2⟩
  have d8 : decide (P ≤ G) = false := by simp; omega
  go_wp2_with fail
  refine (Pow_ok G Q P _ (by omega) c8 (by omega) hQ c1).mono ?_
  rintro e w3 ⟨rfl, hU3⟩
  have hB : B = decide (pw G Q.toNat P = 1) := by rw [HB.out]; simp [c1, c2, C3.out, c4, c5, C6.out, c7, c8]
  have HB2 := hid hB
  clear hB
  by_cases c9 : pw G Q.toNat P = 1
  · have d9 : (pw G Q.toNat P == 1) = true := by simp [c9]
    have hB : B = true := by rw [HB2.out]; simp [c9]
    subst hB
    clear c9
    go_wp2
    go_ret
    exact ⟨rfl, ((((Up.refl w).alloc _).trans hU1).trans hU2).trans hU3⟩
  · have d9 : (pw G Q.toNat P == 1) = false := by simp [c9]
    have hB : B = false := by rw [HB2.out]; simp [c9]
    subst hB
    clear c9
    go_wp2
    go_ret
    exact ⟨rfl, ((((Up.refl w).alloc _).trans hU1).trans hU2).trans hU3⟩
end Go.Proofs.YtmbbnjbohnobcaaDoor
