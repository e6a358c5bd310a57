/- Packages group and specieref10: membership, products, inverses, powers. -/
import Derived.Test.YtmbbnjbohnobcaaDoorGroupA
namespace Go.Proofs.YtmbbnjbohnobcaaDoor
open Go.RowKit Go.Sp
set_option maxHeartbeats 400000

theorem rValid_any (P Q G : Int) (w : World) (hP : -9223372036854775808 ≤ P) (hQ : Q ≤ 9223372036854775807) :
    Calls Tryd.prog 80 #[grp P Q G] w fun e w' => e = .returned (.bool (gvB P Q G)) ∧ Up w w' := by
  have HB : Hid (gvB P Q G = (decide (P < 2305843009213693952) && decide (3 ≤ Q) && decide (Q % 2 = 1) && isP P && isP Q && decide ((P - 1) % Q = 0) && decide (2 ≤ G) && decide (G < P) && decide (pw G Q.toNat P = 1))) := hid rfl
  generalize gvB P Q G = B at *
  by_cases c0 : 3 ≤ P
  case neg =>
    have hB : B = false := by
      rw [HB.out]
      by_cases hp : isP P = true
      · have p2 : P = 2 := by have := isP_two hp; omega
        by_cases hq : 3 ≤ Q
        · have : ¬ ((P - 1) % Q = 0) := by rw [Int.emod_eq_of_lt (by omega) (by omega)]; omega
          simp [this]
        · simp [hq]
      · simp [hp]
    subst hB
    have d0 : decide (P < 3) = true := by simp; omega
    go_enter Tryd.func80, Tryd.ntmps80
    go_wp2
    go_ret
    exact ⟨rfl, (Up.refl w).alloc _⟩
  have d0 : decide (P < 3) = false := by simp; omega
  by_cases c1 : P < 2305843009213693952
  case neg =>
    have hB : B = false := by rw [HB.out]; simp [c1]
    subst hB
    go_enter Tryd.func80, Tryd.ntmps80
    go_wp2
    go_ret
    exact ⟨rfl, (Up.refl w).alloc _⟩
  have d1 : decide (2305843009213693952 ≤ P) = false := by simp; omega
  by_cases c2 : 3 ≤ Q
  case neg =>
    have hB : B = false := by rw [HB.out]; simp [c2]
    subst hB
    go_enter Tryd.func80, Tryd.ntmps80
    go_wp2
    go_ret
    exact ⟨rfl, (Up.refl w).alloc _⟩
  have d2 : decide (Q < 3) = false := by simp; omega
  by_cases c3 : Q % 2 = 1
  case neg =>
    have hB : B = false := by rw [HB.out]; simp [c3]
    subst hB
    have d3 : (Q % 2 == 0) = true := by simp; omega
    clear c3
    go_enter Tryd.func80, Tryd.ntmps80
    go_wp2
    go_ret
    exact ⟨rfl, (Up.refl w).alloc _⟩
  have d3 : (Q % 2 == 0) = false := by simp; omega
  have C3 := hid c3
  clear c3
  have dq : (Q == 0) = false := by simp; omega
  by_cases c6 : (P - 1) % Q = 0
  case neg =>
    have hB : B = false := by rw [HB.out]; simp [c6]
    subst hB
    have d6 : ((P - 1) % Q != 0) = true := by simp [c6]
    have d6' : ((P - 1) % Q == 0) = false := by simp [c6]
    clear c6
    go_enter Tryd.func80, Tryd.ntmps80
    go_wp2
    go_ret
    exact ⟨rfl, (Up.refl w).alloc _⟩
  have d6 : ((P - 1) % Q != 0) = false := by simp [c6]
  have d6' : ((P - 1) % Q == 0) = true := by simp [c6]
  have hQP : Q < 2305843009213693952 := by
    refine Int.not_le.1 fun hle => ?_
    rw [Int.emod_eq_of_lt (by omega) (by omega)] at c6
    omega
  have C6 := hid c6
  clear c6
  by_cases c7 : 2 ≤ G
  case neg =>
    have hB : B = false := by rw [HB.out]; simp [c7]
    subst hB
    have d7 : decide (G < 2) = true := by simp; omega
    go_enter Tryd.func80, Tryd.ntmps80
    go_wp2
    go_ret
    exact ⟨rfl, (Up.refl w).alloc _⟩
  have d7 : decide (G < 2) = false := by simp; omega
  by_cases c8 : G < P
  case neg =>
    have hB : B = false := by rw [HB.out]; simp [c8]
    subst hB
    have d8 : decide (P ≤ G) = true := by simp; omega
    go_enter Tryd.func80, Tryd.ntmps80
    go_wp2
    go_ret
    exact ⟨rfl, (Up.refl w).alloc _⟩
  have d8 : decide (P ≤ G) = false := by simp; omega
  go_enter Tryd.func80, Tryd.ntmps80
  go_wp2_with fail
  refine (rIs_any P _ c1).mono ?_
  rintro e w1 ⟨rfl, hU1⟩
  obtain ⟨hr1, hf1⟩ := hU1.reads
  have hs1 : w.heap.size < w1.heap.size := by have := hU1.size; simp at this; omega
  by_cases c4 : isP P = true
  case neg =>
    have hB : B = false := by rw [HB.out]; simp [c4]
    subst hB
    have d4 : isP P = false := by simpa using c4
    clear c4
    go_wp2
    go_ret
    exact ⟨rfl, ((Up.refl w).alloc _).trans hU1⟩
  go_wp2_with fail
  refine (rIs_any Q _ hQP).mono ?_
  rintro e w2 ⟨rfl, hU2⟩
  obtain ⟨hr2, hf2⟩ := hU2.reads
  by_cases c5 : isP Q = true
  case neg =>
    have hB : B = false := by rw [HB.out]; simp [c5]
    subst hB
    have d5 : isP Q = false := by simpa using c5
    clear c5
    go_wp2
    go_ret
    exact ⟨rfl, (((Up.refl w).alloc _).trans hU1).trans hU2⟩
  go_wp2_with fail
  refine (rPow_ok G Q P _ (by omega) c8 (by omega) hQ c1).mono ?_
  rintro e w3 ⟨rfl, rfl⟩
  have hB : B = decide (pw G Q.toNat P = 1) := by rw [HB.out]; simp [c1, c2, C3.out, c4, c5, C6.out, c7, c8]
  have HB2 := hid hB
  clear hB
  by_cases c9 : pw G Q.toNat P = 1
  · have d9 : (pw G Q.toNat P == 1) = true := by simp [c9]
    have hB : B = true := by rw [HB2.out]; simp [c9]
    subst hB
    clear c9
    go_wp2
    go_ret
    exact ⟨rfl, (((Up.refl w).alloc _).trans hU1).trans hU2⟩
  · have d9 : (pw G Q.toNat P == 1) = false := by simp [c9]
    have hB : B = false := by rw [HB2.out]; simp [c9]
    subst hB
    clear c9
    go_wp2
    go_ret
    exact ⟨rfl, (((Up.refl w).alloc _).trans hU1).trans hU2⟩

theorem element_any (P Q G x : Int) (w : World) (hP : P < 2305843009213693952) (hQ0 : 0 ≤ Q) (hQ : Q ≤ 9223372036854775807) :
    Calls Tryd.prog 118 #[grp P Q G, .int .i64 x] w fun e w' => e = .returned (.bool (elB P Q x)) ∧ Up w w' := by
  have HB : Hid (elB P Q x = (decide (1 ≤ x) && decide (x < P) && decide (pw x Q.toNat P = 1))) := hid rfl
  generalize elB P Q x = B at *
  by_cases c1 : 1 ≤ x
  case neg =>
    have hB : B = false := by rw [HB.out]; simp [c1]
    subst hB
    go_enter Tryd.func118, Tryd.ntmps118
    go_wp2
    go_ret
    exact ⟨rfl, (Up.refl w).alloc _⟩
  have d1 : decide (x < 1) = false := by simp; omega
  by_cases c2 : x < P
  case neg =>
    have hB : B = false := by rw [HB.out]; simp [c2]
    subst hB
    have d2 : decide (P ≤ x) = true := by simp; omega
    go_enter Tryd.func118, Tryd.ntmps118
    go_wp2
    go_ret
    exact ⟨rfl, (Up.refl w).alloc _⟩
  have d2 : decide (P ≤ x) = false := by simp; omega
  have hB : B = decide (pw x Q.toNat P = 1) := by rw [HB.out]; simp [c1, c2]
  have HB2 := hid hB
  clear hB HB
  go_enter Tryd.func118, Tryd.ntmps118
  go_wp2_with fail
  refine (Pow_ok x Q P _ (by omega) c2 hQ0 hQ hP).mono ?_
  rintro e w3 ⟨rfl, hU3⟩
  go_wp2
  go_ret
  refine ⟨?_, ((Up.refl w).alloc _).trans hU3⟩
  rw [HB2.out]
  exact congrArg (fun b => Ending.returned (.bool b)) (by rw [Bool.eq_iff_iff]; simp)

theorem rMember_any (P Q G x : Int) (w : World) (hP : P < 2305843009213693952) (hQ0 : 0 ≤ Q) (hQ : Q ≤ 9223372036854775807) :
    Calls Tryd.prog 54 #[grp P Q G, .int .i64 x] w fun e w' => e = .returned (.bool (elB P Q x)) ∧ Up w w' := by
  have HB : Hid (elB P Q x = (decide (1 ≤ x) && decide (x < P) && decide (pw x Q.toNat P = 1))) := hid rfl
  generalize elB P Q x = B at *
  by_cases c1 : 1 ≤ x
  case neg =>
    have hB : B = false := by rw [HB.out]; simp [c1]
    subst hB
    go_enter Tryd.func54, Tryd.ntmps54
    go_wp2
    go_ret
    exact ⟨rfl, (Up.refl w).alloc _⟩
  have d1 : decide (1 ≤ x) = true := by simpa using c1
  by_cases c2 : x < P
  case neg =>
    have hB : B = false := by rw [HB.out]; simp [c2]
    subst hB
    have d2 : decide (x < P) = false := by simpa using c2
    go_enter Tryd.func54, Tryd.ntmps54
    go_wp2
    go_ret
    exact ⟨rfl, (Up.refl w).alloc _⟩
  have d2 : decide (x < P) = true := by simpa using c2
  have hB : B = decide (pw x Q.toNat P = 1) := by rw [HB.out]; simp [c1, c2]
  have HB2 := hid hB
  clear hB HB
  go_enter Tryd.func54, Tryd.ntmps54
  go_wp2_with fail
  refine (rPow_ok x Q P _ (by omega) c2 hQ0 hQ hP).mono ?_
  rintro e w3 ⟨rfl, rfl⟩
  go_wp2
  go_ret
  refine ⟨?_, (Up.refl w).alloc _⟩
  rw [HB2.out]
  exact congrArg (fun b => Ending.returned (.bool b)) (by rw [Bool.eq_iff_iff]; simp)

/-- Contains: valid, and an element. -/
def conB (P Q G x : Int) : Bool := gvB P Q G && elB P Q x

theorem Contains_any (P Q G x : Int) (w : World) (hP : -9223372036854775808 ≤ P) (hQ : Q ≤ 9223372036854775807) (hT : Tab w) :
    Calls Tryd.prog 60 #[grp P Q G, .int .i64 x] w fun e w' => e = .returned (.bool (conB P Q G x)) ∧ Up w w' := by
  have HT := hid hT
  clear hT
  go_enter Tryd.func60, Tryd.ntmps60
  go_wp2_with fail
  refine (Valid_any P Q G _ hP hQ (HT.out.up ((Up.refl w).alloc _))).mono ?_
  rintro e w1 ⟨rfl, hU1⟩
  obtain ⟨hr1, hf1⟩ := hU1.reads
  by_cases c : gvB P Q G = true
  · have g := gv_iff.1 c
    have HB : Hid (conB P Q G x = elB P Q x) := hid (by simp [conB, c])
    have g1 := g.P61
    have g2 := g.Q3
    clear g
    go_wp2_with fail
    refine (element_any P Q G x _ g1 (by omega) hQ).mono ?_
    rintro e w2 ⟨rfl, hU2⟩
    go_wp2
    go_ret
    exact ⟨by rw [HB.out]; rfl, (((Up.refl w).alloc _).trans hU1).trans hU2⟩
  · have c' : gvB P Q G = false := by simpa using c
    have HB : Hid (conB P Q G x = false) := hid (by simp [conB, c'])
    clear c
    go_wp2
    go_ret
    exact ⟨by rw [HB.out]; rfl, ((Up.refl w).alloc _).trans hU1⟩

theorem same_turn {P : Program} {f : FuncId} {args : Array Value} {w : World} {v : Value} (h : Calls P f args w fun e w' => e = .returned v ∧ w = w') : Calls P f args w fun e w' => e = .returned v ∧ w' = w :=
  h.mono fun _ _ ⟨a, b⟩ => ⟨a, b.symm⟩

/-- A power, the exponent any integer. -/
def gpw (P Q a e : Int) : Int := pw a (e % Q).toNat P

end Go.Proofs.YtmbbnjbohnobcaaDoor
