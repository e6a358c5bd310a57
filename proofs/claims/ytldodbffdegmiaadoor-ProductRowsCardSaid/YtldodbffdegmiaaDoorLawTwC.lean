/- ProductRows: the walk. -/
import Derived.Test.YtldodbffdegmiaaDoorRowC
import Derived.Test.YtldodbffdegmiaaDoorAwakeTwelve
namespace Go.Proofs.YtldodbffdegmiaaDoor
open Go.RowKit Go.Sp
set_option maxHeartbeats 2000000
set_option maxRecDepth 20000

def fewR (n : Int) : Bool := decide (n ≤ 30) || (decide (100 < n) && decide (n ≤ 200))

theorem fewR_any (n : Int) (w : World) : Calls Tryd.prog 46 #[.int .i64 n] w fun e w' => e = .returned (.bool (fewR n)) ∧ Up w w' := by
  by_cases h1 : n ≤ 30
  · have hB : fewR n = true := by simp [fewR, h1]
    rw [hB]
    have d1 : decide (n ≤ 30) = true := by simpa using h1
    go_enter Tryd.func46, Tryd.ntmps46
    go_wp2
    go_ret
    exact ⟨rfl, Up.refl w⟩
  · have d1 : decide (n ≤ 30) = false := by simpa using h1
    by_cases h2 : 100 < n
    · have hB : fewR n = decide (n ≤ 200) := by simp [fewR, h1, h2]
      rw [hB]
      have d2 : decide (100 < n) = true := by simpa using h2
      go_enter Tryd.func46, Tryd.ntmps46
      go_wp2
      go_ret
      exact ⟨rfl, Up.refl w⟩
    · have hB : fewR n = false := by simp [fewR, h1, h2]
      rw [hB]
      have d2 : decide (100 < n) = false := by simpa using h2
      go_enter Tryd.func46, Tryd.ntmps46
      go_wp2
      go_ret
      exact ⟨rfl, Up.refl w⟩

theorem ProductRows_walk (P Q G : Int) (v1 v2 : Value) (rs : List (List Int)) (es : List Int) (w : World) (hP : -9223372036854775808 ≤ P) (hQ : Q ≤ 9223372036854775807) (hT : Tab w) (h1 : RowsAt w v1 rs) (h2 : IntsAt w v2 es) :
    Calls Tryd.prog 12 #[grp P Q G, v1, v2] w fun e w' => e = .returned (.bool true) ∧ Up w w' := by
  have HT := hid hT
  have HP1 := hid (fun w' (hU : Up w w') => Rows_any P Q G v1 v2 rs es w' hP hQ (HT.out.up hU) (h1.up hU) (h2.up hU))
  have HR1 := hid (fun w' (hU : Up w w') => rRows_any P Q G v1 v2 rs es w' hP hQ (h1.up hU) (h2.up hU))
  obtain ⟨E, hE⟩ : ∃ E, rsE P Q G rs es = E := ⟨_, rfl⟩
  obtain ⟨L, hL⟩ : ∃ L, (if E = 0 then rsL P Q rs es else []) = L := ⟨_, rfl⟩
  have HO : Hid (∀ w', RowsOut P Q G rs es w' = fun e w'' => ∃ v, e = .returned (.tuple #[v, .int .i64 E]) ∧ OwnI w'' w'.heap.size v L ∧ Up w' w'') := hid (fun w' => by unfold RowsOut; rw [hE, hL])
  obtain ⟨l1, a1, cp1, rfl, _⟩ := h1
  obtain ⟨l2, a2, cp2, rfl, _⟩ := h2
  generalize rs.length = n1 at *
  generalize es.length = n2 at *
  clear hT hE hL
  go_enter Tryd.func12, Tryd.ntmps12
  go_wp2_with fail
  refine (awake12 _ (HT.out.up ((Up.refl w).alloc _))).mono ?_
  rintro e w1 ⟨rfl, hU1⟩
  have HG := hid (box_reads rfl hU1)
  have HU1 := hid (((Up.refl w).alloc _).trans hU1)
  clear hU1
  go_wp2_with fail
  refine (fewR_any n1 _).mono ?_
  rintro e w2 ⟨rfl, hU2⟩
  have HU2 := hid (HU1.out.trans hU2)
  have HG2 := hid (HG.out.up hU2)
  clear hU2
  obtain ⟨X1, hX1⟩ : ∃ X, fewR n1 = X := ⟨_, rfl⟩
  rw [hX1]
  clear hX1
  cases X1
  case false =>
    go_wp2
    go_ret
    exact ⟨rfl, HU2.out⟩
  go_wp2_with fail
  refine (fewR_any n2 _).mono ?_
  rintro e w3 ⟨rfl, hU3⟩
  have HU3 := hid (HU2.out.trans hU3)
  have HG3 := hid (HG2.out.up hU3)
  clear hU3
  obtain ⟨X2, hX2⟩ : ∃ X, fewR n2 = X := ⟨_, rfl⟩
  rw [hX2]
  clear hX2 HG HG2 HU1 HU2
  cases X2
  case false =>
    go_wp2
    go_ret
    exact ⟨rfl, HU3.out⟩
  obtain ⟨c0, c1, c2⟩ := HG3.out
  go_wp2_with fail
  have hc4 := HP1.out _ HU3.out
  rw [HO.out] at hc4
  refine hc4.mono ?_
  rintro e w4 ⟨v4, rfl, hO4, hU4⟩
  have HI4 := hid hO4.ints
  obtain ⟨p4, m4, k4, rfl⟩ := hO4.slice
  have HU4 := hid (HU3.out.trans hU4)
  have HG4 := hid (HG3.out.up hU4)
  clear hU4 hO4 hc4 c0 c1 c2
  obtain ⟨c0, c1, c2⟩ := HG4.out
  go_wp2_with fail
  have hc5 := HR1.out _ HU4.out
  rw [HO.out] at hc5
  refine hc5.mono ?_
  rintro e w5 ⟨v5, rfl, hO5, hU5⟩
  have HI5 := hid hO5.ints
  obtain ⟨p5, m5, k5, rfl⟩ := hO5.slice
  have HI4b := hid (HI4.out.up hU5)
  have HU5 := hid (HU4.out.trans hU5)
  clear hU5 hO5 hc5 c0 c1 c2
  go_wp2_with fail
  refine (equal_any _ _ L L _ HI4b.out HI5.out).mono ?_
  rintro e w6 ⟨rfl, hU6⟩
  have HU6 := hid (HU5.out.trans hU6)
  clear hU6
  rw [show (L == L) = true by simp]
  go_wp2
  go_ret
  exact ⟨by simp, HU6.out⟩
end Go.Proofs.YtldodbffdegmiaaDoor
