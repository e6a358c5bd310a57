/- ProductValues: the walk. -/
import Derived.Test.YtldodbffdegmiaaDoorAwakeTwelve
namespace Go.Proofs.YtldodbffdegmiaaDoor
open Go.RowKit Go.Sp
set_option maxHeartbeats 2000000
set_option maxRecDepth 20000

def fewB (n : Int) : Bool := decide (n ≤ 30) || (decide (100 < n) && decide (n ≤ 200))

theorem few_any (n : Int) (w : World) : Calls Tryd.prog 46 #[.int .i64 n] w fun e w' => e = .returned (.bool (fewB n)) ∧ Up w w' := by
  by_cases h1 : n ≤ 30
  · have hB : fewB n = true := by simp [fewB, h1]
    rw [hB]
    have d1 : decide (n ≤ 30) = true := by simpa using h1
    go_enter Tryd.func46, Tryd.ntmps46
    go_wp2
    go_ret
    exact ⟨rfl, Up.refl w⟩
  · have d1 : decide (n ≤ 30) = false := by simpa using h1
    by_cases h2 : 100 < n
    · have hB : fewB n = decide (n ≤ 200) := by simp [fewB, h1, h2]
      rw [hB]
      have d2 : decide (100 < n) = true := by simpa using h2
      go_enter Tryd.func46, Tryd.ntmps46
      go_wp2
      go_ret
      exact ⟨rfl, Up.refl w⟩
    · have hB : fewB n = false := by simp [fewB, h1, h2]
      rw [hB]
      have d2 : decide (100 < n) = false := by simpa using h2
      go_enter Tryd.func46, Tryd.ntmps46
      go_wp2
      go_ret
      exact ⟨rfl, Up.refl w⟩

theorem ProductValues_walk (P Q G y : Int) (v1 v2 v3 : Value) (bs es l : List Int) (w : World) (hP : -9223372036854775808 ≤ P) (hQ : Q ≤ 9223372036854775807) (hT : Tab w) (h1 : IntsAt w v1 bs) (h2 : IntsAt w v2 es) (h3 : IntsAt w v3 l) :
    Calls Tryd.prog 10 #[grp P Q G, .int .i64 y, v1, v2, v3] w fun e w' => e = .returned (.bool true) ∧ Up w w' := by
  have HT := hid hT
  have HP1 := hid (fun w' (hU : Up w w') => Product_any P Q G v1 v2 bs es w' hP hQ (HT.out.up hU) (h1.up hU) (h2.up hU))
  have HR1 := hid (fun w' (hU : Up w w') => rProduct_any P Q G v1 v2 bs es w' hP hQ (h1.up hU) (h2.up hU))
  have HJ1 := hid (fun w' (hU : Up w w') => Join_any P Q G v3 l w' hP hQ (HT.out.up hU) (h3.up hU))
  have HS1 := hid (fun w' (hU : Up w w') => rJoin_any P Q G v3 l w' hP hQ (h3.up hU))
  have HK1 := hid (fun w' (hU : Up w w') => Check_any P Q G y v1 v2 bs es w' hP hQ (HT.out.up hU) (h1.up hU) (h2.up hU))
  generalize prE P Q G bs es = E at *
  generalize prV P Q G bs es = V at *
  generalize joE P Q G l = F at *
  generalize joV P Q G l = U at *
  obtain ⟨l1, a1, cp1, rfl, _⟩ := h1
  obtain ⟨l2, a2, cp2, rfl, _⟩ := h2
  obtain ⟨l3, a3, cp3, rfl, _⟩ := h3
  generalize bs.length = n1 at *
  generalize es.length = n2 at *
  generalize l.length = n3 at *
  clear hT
  go_enter Tryd.func10, Tryd.ntmps10
  go_wp2_with fail
  refine (awake12 _ (HT.out.up ((Up.refl w).alloc _))).mono ?_
  rintro e w1 ⟨rfl, hU1⟩
  have HG := hid (box_reads rfl hU1)
  have HU1 := hid (((Up.refl w).alloc _).trans hU1)
  clear hU1
  go_wp2_with fail
  refine (few_any n1 _).mono ?_
  rintro e w2 ⟨rfl, hU2⟩
  have HU2 := hid (HU1.out.trans hU2)
  have HG2 := hid (HG.out.up hU2)
  clear hU2
  obtain ⟨X1, hX1⟩ : ∃ X, fewB n1 = X := ⟨_, rfl⟩
  rw [hX1]
  clear hX1
  cases X1
  case false =>
    go_wp2
    go_ret
    exact ⟨rfl, HU2.out⟩
  go_wp2_with fail
  refine (few_any n2 _).mono ?_
  rintro e w3 ⟨rfl, hU3⟩
  have HU3 := hid (HU2.out.trans hU3)
  have HG3 := hid (HG2.out.up hU3)
  clear hU3
  obtain ⟨X2, hX2⟩ : ∃ X, fewB n2 = X := ⟨_, rfl⟩
  rw [hX2]
  clear hX2
  cases X2
  case false =>
    go_wp2
    go_ret
    exact ⟨rfl, HU3.out⟩
  go_wp2_with fail
  refine (few_any n3 _).mono ?_
  rintro e w4 ⟨rfl, hU4⟩
  have HU4 := hid (HU3.out.trans hU4)
  have HG4 := hid (HG3.out.up hU4)
  clear hU4
  obtain ⟨X3, hX3⟩ : ∃ X, fewB n3 = X := ⟨_, rfl⟩
  rw [hX3]
  clear hX3 HG HG2 HG3 HU1 HU2 HU3
  cases X3
  case false =>
    by_cases q1 : n3 ≤ 1000
    · have d1 : decide (n3 ≤ 1000) = true := by simpa using q1
      go_wp2
      go_ret
      exact ⟨rfl, HU4.out⟩
    · have d1 : decide (n3 ≤ 1000) = false := by simpa using q1
      by_cases q2 : 1100 < n3
      · have d2 : decide (1100 < n3) = true := by simpa using q2
        go_wp2
        go_ret
        exact ⟨rfl, HU4.out⟩
      · have d2 : decide (1100 < n3) = false := by simpa using q2
        obtain ⟨c0, c1, c2⟩ := HG4.out
        go_wp2_with fail
        refine (HP1.out _ HU4.out).mono ?_
        rintro e w5 ⟨rfl, hU5⟩
        have HU5 := hid (HU4.out.trans hU5)
        have HG5 := hid (HG4.out.up hU5)
        clear hU5 c0 c1 c2
        obtain ⟨c0, c1, c2⟩ := HG5.out
        go_wp2_with fail
        refine (HR1.out _ HU5.out).mono ?_
        rintro e w6 ⟨rfl, hU6⟩
        have HU6 := hid (HU5.out.trans hU6)
        have HG6 := hid (HG5.out.up hU6)
        clear hU6 c0 c1 c2
        obtain ⟨c0, c1, c2⟩ := HG6.out
        go_wp2_with fail
        refine (HJ1.out _ HU6.out).mono ?_
        rintro e w7 ⟨rfl, hU7⟩
        have HU7 := hid (HU6.out.trans hU7)
        have HG7 := hid (HG6.out.up hU7)
        clear hU7 c0 c1 c2
        obtain ⟨c0, c1, c2⟩ := HG7.out
        go_wp2_with fail
        refine (HS1.out _ HU7.out).mono ?_
        rintro e w8 ⟨rfl, hU8⟩
        have HU8 := hid (HU7.out.trans hU8)
        have HG8 := hid (HG7.out.up hU8)
        clear hU8 c0 c1 c2
        obtain ⟨c0, c1, c2⟩ := HG8.out
        go_wp2_with fail
        refine (HK1.out _ HU8.out).mono ?_
        rintro e w9 ⟨rfl, hU9⟩
        have HU9 := hid (HU8.out.trans hU9)
        clear hU9 c0 c1 c2
        by_cases hE : E = 0
        · have d1 : (E == 0) = true := by simpa using hE
          subst hE
          by_cases hy : V = y
          · have d2 : (V == y) = true := by simpa using hy
            have d3 : (y == V) = true := by simp [hy]
            rw [d2]
            clear hy
            go_wp2
            go_ret
            exact ⟨rfl, HU9.out⟩
          · have d2 : (V == y) = false := by simpa using hy
            have d3 : (y == V) = false := by simp; exact fun h => hy h.symm
            rw [d2]
            clear hy
            go_wp2
            go_ret
            exact ⟨rfl, HU9.out⟩
        · have d1 : (E == 0) = false := by simpa using hE
          rw [d1]
          clear hE
          go_wp2
          go_ret
          exact ⟨rfl, HU9.out⟩
  case true =>
    obtain ⟨c0, c1, c2⟩ := HG4.out
    go_wp2_with fail
    refine (HP1.out _ HU4.out).mono ?_
    rintro e w5 ⟨rfl, hU5⟩
    have HU5 := hid (HU4.out.trans hU5)
    have HG5 := hid (HG4.out.up hU5)
    clear hU5 c0 c1 c2
    obtain ⟨c0, c1, c2⟩ := HG5.out
    go_wp2_with fail
    refine (HR1.out _ HU5.out).mono ?_
    rintro e w6 ⟨rfl, hU6⟩
    have HU6 := hid (HU5.out.trans hU6)
    have HG6 := hid (HG5.out.up hU6)
    clear hU6 c0 c1 c2
    obtain ⟨c0, c1, c2⟩ := HG6.out
    go_wp2_with fail
    refine (HJ1.out _ HU6.out).mono ?_
    rintro e w7 ⟨rfl, hU7⟩
    have HU7 := hid (HU6.out.trans hU7)
    have HG7 := hid (HG6.out.up hU7)
    clear hU7 c0 c1 c2
    obtain ⟨c0, c1, c2⟩ := HG7.out
    go_wp2_with fail
    refine (HS1.out _ HU7.out).mono ?_
    rintro e w8 ⟨rfl, hU8⟩
    have HU8 := hid (HU7.out.trans hU8)
    have HG8 := hid (HG7.out.up hU8)
    clear hU8 c0 c1 c2
    obtain ⟨c0, c1, c2⟩ := HG8.out
    go_wp2_with fail
    refine (HK1.out _ HU8.out).mono ?_
    rintro e w9 ⟨rfl, hU9⟩
    have HU9 := hid (HU8.out.trans hU9)
    clear hU9 c0 c1 c2
    by_cases hE : E = 0
    · have d1 : (E == 0) = true := by simpa using hE
      subst hE
      by_cases hy : V = y
      · have d2 : (V == y) = true := by simpa using hy
        have d3 : (y == V) = true := by simp [hy]
        rw [d2]
        clear hy
        go_wp2
        go_ret
        exact ⟨rfl, HU9.out⟩
      · have d2 : (V == y) = false := by simpa using hy
        have d3 : (y == V) = false := by simp; exact fun h => hy h.symm
        rw [d2]
        clear hy
        go_wp2
        go_ret
        exact ⟨rfl, HU9.out⟩
    · have d1 : (E == 0) = false := by simpa using hE
      rw [d1]
      clear hE
      go_wp2
      go_ret
      exact ⟨rfl, HU9.out⟩
end Go.Proofs.YtldodbffdegmiaaDoor
