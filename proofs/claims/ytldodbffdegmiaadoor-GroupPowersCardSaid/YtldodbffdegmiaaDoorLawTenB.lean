/- GroupPowers: the walk. -/
import Derived.Test.YtldodbffdegmiaaDoorLawTenA
import Derived.Test.YtldodbffdegmiaaDoorExpo
import Derived.Deep.RegionWith
namespace Go.Proofs.YtldodbffdegmiaaDoor
open Go.RowKit Go.Sp
set_option maxHeartbeats 1000000
set_option maxRecDepth 8000

theorem GroupPowers_walk (P Q G a m n : Int) (w : World) (hP : -9223372036854775808 ≤ P) (hQ : Q ≤ 9223372036854775807) (hT : Tab w) :
    Calls Tryd.prog 3 #[grp P Q G, .int .i64 a, .int .i64 m, .int .i64 n] w fun e w' => e = .returned (.bool true) ∧ Up w w' := by
  have HT := hid hT
  clear hT
  go_enter Tryd.func3, Tryd.ntmps3
  go_wp2_with fail
  refine (awake10 _ (HT.out.up ((Up.refl w).alloc _))).mono ?_
  rintro e w1 ⟨rfl, hU1⟩
  have HG := hid (box_reads rfl hU1)
  have HU1 := hid (((Up.refl w).alloc _).trans hU1)
  have HT1 := hid (HT.out.up HU1.out)
  clear hU1
  obtain ⟨c0, c1, c2⟩ := HG.out
  go_wp2_with fail
  refine (fault_any P Q G _ [a] _ hP hQ (ints_one (by go_simp))).mono ?_
  rintro e w2 ⟨rfl, hU2⟩
  have HV2 := hid (((Up.refl w1).alloc _).trans hU2)
  clear hU2
  by_cases hk : chkI P Q G [a] = 0
  case neg =>
    have hk1 : (chkI P Q G [a] != 0) = true := by simp [hk]
    have hk2 : (chkI P Q G [a] == 0) = false := by simp [hk]
    clear hk
    go_wp2
    go_ret
    exact ⟨rfl, HU1.out.trans HV2.out⟩
  have hk1 : (chkI P Q G [a] != 0) = false := by simp [hk]
  have hk2 : (chkI P Q G [a] == 0) = true := by simp [hk]
  by_cases b0 : m < -1152921504606846976
  case pos =>
    have d0 : decide (m < -1152921504606846976) = true := by simp [b0]
    clear hk
    go_wp2
    go_ret
    exact ⟨rfl, HU1.out.trans HV2.out⟩
  have d0 : decide (m < -1152921504606846976) = false := by simp; omega
  by_cases b1 : m > 1152921504606846976
  case pos =>
    have d1 : decide (m > 1152921504606846976) = true := by simp [b1]
    clear hk
    go_wp2
    go_ret
    exact ⟨rfl, HU1.out.trans HV2.out⟩
  have d1 : decide (m > 1152921504606846976) = false := by simp; omega
  by_cases b2 : n < -1152921504606846976
  case pos =>
    have d2 : decide (n < -1152921504606846976) = true := by simp [b2]
    clear hk
    go_wp2
    go_ret
    exact ⟨rfl, HU1.out.trans HV2.out⟩
  have d2 : decide (n < -1152921504606846976) = false := by simp; omega
  by_cases b3 : n > 1152921504606846976
  case pos =>
    have d3 : decide (n > 1152921504606846976) = true := by simp [b3]
    clear hk
    go_wp2
    go_ret
    exact ⟨rfl, HU1.out.trans HV2.out⟩
  have d3 : decide (n > 1152921504606846976) = false := by simp; omega
  obtain ⟨hg, hx⟩ := chk_cases hk
  have ha := hx a (by simp)
  have hg' := gv_iff.1 hg
  have g1 := hg'.P61
  have g2 := hg'.P4
  have g3 := hg'.Q3
  have g4 := hg'.QP
  have Ha := hid ha
  have Hg := hid hg
  obtain ⟨a0, a1, _⟩ := el_iff.1 ha
  have Hm := hid (gpw_el (by omega) (by omega) ha m)
  have Hn := hid (gpw_el (by omega) (by omega) ha n)
  have Hadd := hid (gpw_add (by omega) (by omega) ha m n)
  have Hneg := hid (gpw_neg (P := P) (a := a) (show 1 ≤ Q by omega))
  have Hmod := hid (gpw_mod (P := P) (a := a) (show 1 ≤ Q by omega) m)
  have Hu := hid (gpw_el (by omega) (by omega) ha (m.tmod 1000))
  have Huv := hid (gpw_mul (by omega) (by omega) ha (m.tmod 1000) (n.tmod 1000))
  have tQ : -Q < m.tmod Q ∧ m.tmod Q < Q := by
    have e0 := Int.emod_nonneg m (show Q ≠ 0 by omega)
    have e1 := Int.emod_lt_of_pos m (show 0 < Q by omega)
    rcases tmod_cases m Q (by omega) with ⟨_, _, _⟩ | ⟨_, _⟩ <;> omega
  have tu : -1000 < m.tmod 1000 ∧ m.tmod 1000 < 1000 := by
    have e1 := Int.emod_lt_of_pos m (show (0 : Int) < 1000 by omega)
    rcases tmod_cases m 1000 (by omega) with ⟨_, _, _⟩ | ⟨_, _⟩ <;> omega
  have tv : -1000 < n.tmod 1000 ∧ n.tmod 1000 < 1000 := by
    have e1 := Int.emod_lt_of_pos n (show (0 : Int) < 1000 by omega)
    rcases tmod_cases n 1000 (by omega) with ⟨_, _, _⟩ | ⟨_, _⟩ <;> omega
  have tp : -1000000 < m.tmod 1000 * n.tmod 1000 ∧ m.tmod 1000 * n.tmod 1000 < 1000000 := by
    have h : (m.tmod 1000 * n.tmod 1000).natAbs ≤ 999 * 999 := by rw [Int.natAbs_mul]; exact Nat.mul_le_mul (by omega) (by omega)
    omega
  clear hk hx ha hg hg'
  obtain ⟨c0, c1, c2⟩ := HG.out.up HV2.out
  go_wp2_with fail
  refine (gPower_ok P Q G a m _ hQ (HT1.out.up HV2.out) Hg.out Ha.out (by omega) (by omega)).mono ?_
  rintro e w3 ⟨rfl, hU3⟩
  have HV3 := hid (HV2.out.trans hU3)
  clear hU3
  obtain ⟨c0, c1, c2⟩ := HG.out.up HV3.out
  go_wp2_with fail
  refine (gPower_ok P Q G a n _ hQ (HT1.out.up HV3.out) Hg.out Ha.out (by omega) (by omega)).mono ?_
  rintro e w4 ⟨rfl, hU4⟩
  have HV4 := hid (HV3.out.trans hU4)
  clear hU4
  obtain ⟨c0, c1, c2⟩ := HG.out.up HV4.out
  go_wp2_with fail
  refine (gPower_ok P Q G a (m + n) _ hQ (HT1.out.up HV4.out) Hg.out Ha.out (by omega) (by omega)).mono ?_
  rintro e w5 ⟨rfl, hU5⟩
  have HV5 := hid (HV4.out.trans hU5)
  clear hU5
  obtain ⟨c0, c1, c2⟩ := HG.out.up HV5.out
  go_wp2_with fail
  refine (gInverse_ok P Q G a _ hQ (HT1.out.up HV5.out) Hg.out Ha.out).mono ?_
  rintro e w6 ⟨rfl, hU6⟩
  have HV6 := hid (HV5.out.trans hU6)
  clear hU6
  obtain ⟨c0, c1, c2⟩ := HG.out.up HV6.out
  go_wp2_with fail
  refine (gPower_ok P Q G a (-1) _ hQ (HT1.out.up HV6.out) Hg.out Ha.out (by omega) (by omega)).mono ?_
  rintro e w7 ⟨rfl, hU7⟩
  have HV7 := hid (HV6.out.trans hU7)
  clear hU7
  obtain ⟨c0, c1, c2⟩ := HG.out.up HV7.out
  rw [Hneg.out]
  go_wp2_with fail
  refine (gMul_ok P Q G (gpw P Q a m) (gpw P Q a n) _ hQ (HT1.out.up HV7.out) Hg.out Hm.out Hn.out).mono ?_
  rintro e w8 ⟨rfl, hU8⟩
  have HV8 := hid (HV7.out.trans hU8)
  clear hU8
  obtain ⟨c0, c1, c2⟩ := HG.out.up HV8.out
  rw [Hadd.out]
  go_wp2_with fail
  have hQ0 : (Q == 0) = false := by simp; omega
  go_cut [20, 12] from 112 (fun xa xe w' => xa = .int .i64 (gpw P Q a m) ∧ xe = .int .i64 0 ∧ Up w1 w')
  case first =>
    go_region_with (go_at_call 20; refine (gPower_ok P Q G a (m.tmod Q) _ hQ (HT1.out.up (HV8.out.drew)) Hg.out Ha.out (by omega) (by omega)).mono ?_; rintro e w9 ⟨rfl, hU9⟩; rw [Hmod.out])
    all_goals (go_wp2_with fail; go_meet)
    all_goals (first | exact ⟨rfl, rfl, HV8.out.drew.trans hU9⟩ | skip)
  case rest =>
    obtain ⟨rfl, rfl, hU9⟩ := hcut
    have HV9 := hid hU9
    clear hU9
    obtain ⟨c0, c1, c2⟩ := HG.out.up HV9.out
    go_wp2_with fail
    refine (gPower_ok P Q G a (m.tmod 1000) _ hQ (HT1.out.up HV9.out) Hg.out Ha.out (by omega) (by omega)).mono ?_
    rintro e w10 ⟨rfl, hU10⟩
    have HV10 := hid (HV9.out.trans hU10)
    clear hU10
    obtain ⟨c0, c1, c2⟩ := HG.out.up HV10.out
    go_wp2_with fail
    refine (gPower_ok P Q G (gpw P Q a (m.tmod 1000)) (n.tmod 1000) _ hQ (HT1.out.up HV10.out) Hg.out Hu.out (by omega) (by omega)).mono ?_
    rintro e w11 ⟨rfl, hU11⟩
    have HV11 := hid (HV10.out.trans hU11)
    clear hU11
    obtain ⟨c0, c1, c2⟩ := HG.out.up HV11.out
    rw [Huv.out]
    go_wp2_with fail
    refine (gPower_ok P Q G a (m.tmod 1000 * n.tmod 1000) _ hQ (HT1.out.up HV11.out) Hg.out Ha.out (by omega) (by omega)).mono ?_
    rintro e w12 ⟨rfl, hU12⟩
    have HV12 := hid (HV11.out.trans hU12)
    clear hU12
    go_wp2
    go_ret
    exact ⟨rfl, HU1.out.trans HV12.out⟩

end Go.Proofs.YtldodbffdegmiaaDoor
