/- The statements of layer 10 on products and powers: walks. -/
import Derived.Test.YtldodbffdegmiaaDoorAwakeTen
import Derived.Test.YtldodbffdegmiaaDoorElem
import Derived.Test.YtldodbffdegmiaaDoorBoxes
namespace Go.Proofs.YtldodbffdegmiaaDoor
open Go.RowKit Go.Sp
set_option maxHeartbeats 1000000

theorem GroupLaws_walk (P Q G a b c : Int) (w : World) (hP : -9223372036854775808 ≤ P) (hQ : Q ≤ 9223372036854775807) (hT : Tab w) :
    Calls Tryd.prog 5 #[grp P Q G, .int .i64 a, .int .i64 b, .int .i64 c] w fun e w' => e = .returned (.bool true) ∧ Up w w' := by
  have HT := hid hT
  clear hT
  go_enter Tryd.func5, Tryd.ntmps5
  go_wp2_with fail
  refine (awake10 _ (HT.out.up ((Up.refl w).alloc _))).mono ?_
  rintro e w1 ⟨rfl, hU1⟩
  have HG := hid (box_reads rfl hU1)
  have HU1 := hid (((Up.refl w).alloc _).trans hU1)
  have HT1 := hid (HT.out.up HU1.out)
  clear hU1
  obtain ⟨c0, c1, c2⟩ := HG.out
  go_wp2_with fail
  refine (fault_any P Q G _ [a, b, c] _ hP hQ (ints_three (by go_simp) (by go_simp) (by go_simp))).mono ?_
  rintro e w2 ⟨rfl, hU2⟩
  have HV2 := hid (((Up.refl w1).alloc _).trans hU2)
  clear hU2
  by_cases hk : chkI P Q G [a, b, c] = 0
  case neg =>
    have hk1 : (chkI P Q G [a, b, c] != 0) = true := by simp [hk]
    have hk2 : (chkI P Q G [a, b, c] == 0) = false := by simp [hk]
    clear hk
    go_wp2
    go_ret
    exact ⟨rfl, HU1.out.trans HV2.out⟩
  have hk1 : (chkI P Q G [a, b, c] != 0) = false := by simp [hk]
  have hk2 : (chkI P Q G [a, b, c] == 0) = true := by simp [hk]
  obtain ⟨hg, hx⟩ := chk_cases hk
  have ha := hx a (by simp)
  have hb := hx b (by simp)
  have hc := hx c (by simp)
  have hg' := gv_iff.1 hg
  have g1 := hg'.P61
  have g2 := hg'.P4
  have g3 := hg'.Q3
  have Ha := hid ha
  have Hb := hid hb
  have Hc := hid hc
  have Hg := hid hg
  have Hab := hid (el_mul (by omega) (by omega) ha hb)
  have Hbc := hid (el_mul (by omega) (by omega) hb hc)
  have Hi := hid (el_pw (by omega) (by omega) ha (Q.toNat - 1))
  have Hinv := hid (el_inv (by omega) (by omega) (el_iff.1 ha).2.2)
  have H1 := hid (el_one (P := P) (Q := Q) (by omega))
  obtain ⟨a0, a1, _⟩ := el_iff.1 ha
  have Hass := hid (mul_assoc' a b c P)
  have Hcon : Hid (conB P Q G (a * b % P) = true) := hid (by simp [conB, hg, Hab.out])
  have HA1 : Hid (a * 1 % P = a) := hid (by rw [Int.mul_one, Int.emod_eq_of_lt (by omega) a1])
  have HBA : Hid (b * a = a * b) := hid (Int.mul_comm b a)
  have H1P : Hid ((1 : Int) % P = 1) := hid (Int.emod_eq_of_lt (by omega) (by omega))
  clear hk hx ha hb hc hg hg'
  obtain ⟨c0, c1, c2⟩ := HG.out.up HV2.out
  go_wp2_with fail
  refine (gMul_ok P Q G a b _ hQ (HT1.out.up HV2.out) Hg.out Ha.out Hb.out).mono ?_
  rintro e w3 ⟨rfl, hU3⟩
  have HV3 := hid (HV2.out.trans hU3)
  clear hU3
  obtain ⟨c0, c1, c2⟩ := HG.out.up HV3.out
  go_wp2_with fail
  refine (gMul_ok P Q G b a _ hQ (HT1.out.up HV3.out) Hg.out Hb.out Ha.out).mono ?_
  rintro e w4 ⟨rfl, hU4⟩
  have HV4 := hid (HV3.out.trans hU4)
  clear hU4
  obtain ⟨c0, c1, c2⟩ := HG.out.up HV4.out
  rw [HBA.out]
  go_wp2_with fail
  refine (gMul_ok P Q G b c _ hQ (HT1.out.up HV4.out) Hg.out Hb.out Hc.out).mono ?_
  rintro e w5 ⟨rfl, hU5⟩
  have HV5 := hid (HV4.out.trans hU5)
  clear hU5
  obtain ⟨c0, c1, c2⟩ := HG.out.up HV5.out
  go_wp2_with fail
  refine (Contains_any P Q G (a * b % P) _ hP hQ (HT1.out.up HV5.out)).mono ?_
  rintro e w6 ⟨rfl, hU6⟩
  have HV6 := hid (HV5.out.trans hU6)
  clear hU6
  obtain ⟨c0, c1, c2⟩ := HG.out.up HV6.out
  rw [Hcon.out]
  go_wp2_with fail
  refine (gMul_ok P Q G (a * b % P) c _ hQ (HT1.out.up HV6.out) Hg.out Hab.out Hc.out).mono ?_
  rintro e w7 ⟨rfl, hU7⟩
  have HV7 := hid (HV6.out.trans hU7)
  clear hU7
  obtain ⟨c0, c1, c2⟩ := HG.out.up HV7.out
  rw [Hass.out]
  go_wp2_with fail
  refine (gMul_ok P Q G a (b * c % P) _ hQ (HT1.out.up HV7.out) Hg.out Ha.out Hbc.out).mono ?_
  rintro e w8 ⟨rfl, hU8⟩
  have HV8 := hid (HV7.out.trans hU8)
  clear hU8
  obtain ⟨c0, c1, c2⟩ := HG.out.up HV8.out
  go_wp2_with fail
  refine (gMul_ok P Q G a 1 _ hQ (HT1.out.up HV8.out) Hg.out Ha.out H1.out).mono ?_
  rintro e w9 ⟨rfl, hU9⟩
  have HV9 := hid (HV8.out.trans hU9)
  clear hU9
  obtain ⟨c0, c1, c2⟩ := HG.out.up HV9.out
  rw [HA1.out]
  go_wp2_with fail
  refine (gInverse_ok P Q G a _ hQ (HT1.out.up HV9.out) Hg.out Ha.out).mono ?_
  rintro e w10 ⟨rfl, hU10⟩
  have HV10 := hid (HV9.out.trans hU10)
  clear hU10
  obtain ⟨c0, c1, c2⟩ := HG.out.up HV10.out
  go_wp2_with fail
  refine (gMul_ok P Q G a (pw a (Q.toNat - 1) P) _ hQ (HT1.out.up HV10.out) Hg.out Ha.out Hi.out).mono ?_
  rintro e w11 ⟨rfl, hU11⟩
  have HV11 := hid (HV10.out.trans hU11)
  clear hU11
  obtain ⟨c0, c1, c2⟩ := HG.out.up HV11.out
  rw [Hinv.out, H1P.out]
  go_wp2
  go_ret
  exact ⟨rfl, HU1.out.trans HV11.out⟩

end Go.Proofs.YtldodbffdegmiaaDoor
