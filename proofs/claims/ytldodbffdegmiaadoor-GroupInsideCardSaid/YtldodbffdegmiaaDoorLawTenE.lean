/- GroupInside: the walk. -/
import Derived.Test.YtldodbffdegmiaaDoorLogB
import Derived.Test.YtldodbffdegmiaaDoorLawTenD
namespace Go.Proofs.YtldodbffdegmiaaDoor
open Go.RowKit Go.Sp
set_option maxHeartbeats 1000000
set_option maxRecDepth 20000

theorem GroupInside_walk (P Q G x : Int) (w : World) (hP : -9223372036854775808 ≤ P) (hQ : Q ≤ 9223372036854775807) (hT : Tab w) :
    Calls Tryd.prog 7 #[grp P Q G, .int .i64 x] w fun e w' => e = .returned (.bool true) ∧ Up w w' := by
  have HT := hid hT
  clear hT
  go_enter Tryd.func7, Tryd.ntmps7
  go_wp2_with fail
  refine (awake10 _ (HT.out.up ((Up.refl w).alloc _))).mono ?_
  rintro e w1 ⟨rfl, hU1⟩
  have HG := hid (box_reads rfl hU1)
  have HU1 := hid (((Up.refl w).alloc _).trans hU1)
  have HT1 := hid (HT.out.up HU1.out)
  clear hU1
  obtain ⟨c0, c1, c2⟩ := HG.out
  go_wp2_with fail
  refine (rValid_any P Q G _ hP hQ).mono ?_
  rintro e w2 ⟨rfl, hU2⟩
  have HV2 := hid ((Up.refl w1).trans hU2)
  clear hU2
  obtain ⟨c0, c1, c2⟩ := HG.out.up HV2.out
  by_cases hg : gvB P Q G = true
  case neg =>
    have hg' : gvB P Q G = false := by simpa using hg
    rw [hg']
    clear hg hg'
    go_wp2
    go_ret
    exact ⟨rfl, HU1.out.trans HV2.out⟩
  have g := gv_iff.1 hg
  have g1 := g.P61
  have g2 := g.P4
  have g3 := g.Q3
  have g4 := g.QP
  have Hg := hid hg
  rw [hg]
  clear hg g
  by_cases hp : 3000 < P
  case pos =>
    have hd : decide (3000 < P) = true := by simpa using hp
    go_wp2
    go_ret
    exact ⟨rfl, HU1.out.trans HV2.out⟩
  have hd3 : decide (3000 < P) = false := by simpa using hp
  by_cases hb : 1000 < Q
  case pos =>
    have hd : decide (1000 < Q) = true := by simpa using hb
    go_wp2_with fail
    refine (Elements_big P Q G _ (HT1.out.up HV2.out) Hg.out hb).mono ?_
    rintro e w3 ⟨rfl, hU3⟩
    have HV3 := hid (HV2.out.trans hU3)
    clear hU3
    obtain ⟨c0, c1, c2⟩ := HG.out.up HV3.out
    go_wp2
    go_ret
    exact ⟨rfl, HU1.out.trans HV3.out⟩
  have hd : decide (1000 < Q) = false := by simpa using hb
  go_wp2_with fail
  refine (Elements_ok P Q G _ (HT1.out.up HV2.out) Hg.out (by omega)).mono ?_
  rintro e w3 ⟨v, rfl, hO, hU3⟩
  have hi := hO.ints
  rw [found_eq Hg.out (by omega) (gen_el Hg.out).1 (gen_el Hg.out).2] at hi
  have HI := hid hi
  have HV3 := hid (HV2.out.trans hU3)
  have HF := hid (found_has (P := P) (Q := Q) (x := x) (by omega))
  clear hU3 hO hi
  obtain ⟨c0, c1, c2⟩ := HG.out.up HV3.out
  go_wp2_with fail
  refine (Contains_any P Q G x _ hP hQ (HT1.out.up HV3.out)).mono ?_
  rintro e w4 ⟨rfl, hU4⟩
  have HV4 := hid (HV3.out.trans hU4)
  have HI4 := hid (HI.out.up hU4)
  clear hU4 HI
  obtain ⟨c0, c1, c2⟩ := HG.out.up HV4.out
  rw [show conB P Q G x = elB P Q x by simp [conB, Hg.out]]
  go_wp2_with fail
  refine (contains_any v _ x _ HI4.out).mono ?_
  rintro e w5 ⟨rfl, hU5⟩
  have HV5 := hid (HV4.out.trans hU5)
  have HI5 := hid (HI4.out.up hU5)
  clear hU5 HI4
  obtain ⟨c0, c1, c2⟩ := HG.out.up HV5.out
  rw [HF.out]
  by_cases hx : elB P Q x = true
  case pos =>
    obtain ⟨x0, x1, _⟩ := el_iff.1 hx
    obtain ⟨n, hn, hxn⟩ := log_there Hg.out (by omega) (gen_el Hg.out).1 (gen_el Hg.out).2 hx
    have Hx := hid hx
    have Hn := hid hn
    have Hxn := hid hxn
    rw [hx]
    clear hx hn hxn
    have H1 : Hid (x * 1 % P = x) := hid (by rw [Int.mul_one, Int.emod_eq_of_lt (by omega) (by omega)])
    have H0 : Hid (gpw P Q x 0 = 1) := hid (by
      unfold gpw
      rw [Int.zero_emod]
      show pw x 0 P = 1
      rw [pw_zero, Int.emod_eq_of_lt (by omega) (by omega)])
    go_wp2_with fail
    refine (gMul_ok P Q G x 1 _ hQ (HT1.out.up HV5.out) Hg.out Hx.out (el_one (by omega))).mono ?_
    rintro e w6 ⟨rfl, hU6⟩
    rw [H1.out]
    have HV6 := hid (HV5.out.trans hU6)
    have HI6 := hid (HI5.out.up hU6)
    clear hU6 HI5
    obtain ⟨c0, c1, c2⟩ := HG.out.up HV6.out
    go_wp2_with fail
    refine (gInverse_ok P Q G x _ hQ (HT1.out.up HV6.out) Hg.out Hx.out).mono ?_
    rintro e w7 ⟨rfl, hU7⟩
    have HV7 := hid (HV6.out.trans hU7)
    have HI7 := hid (HI6.out.up hU7)
    clear hU7 HI6
    obtain ⟨c0, c1, c2⟩ := HG.out.up HV7.out
    go_wp2_with fail
    refine (gPower_ok P Q G x 0 _ hQ (HT1.out.up HV7.out) Hg.out Hx.out (by omega) (by omega)).mono ?_
    rintro e w8 ⟨rfl, hU8⟩
    rw [H0.out]
    have HV8 := hid (HV7.out.trans hU8)
    have HI8 := hid (HI7.out.up hU8)
    clear hU8 HI7
    obtain ⟨c0, c1, c2⟩ := HG.out.up HV8.out
    go_wp2_with fail
    rw [Hxn.out]
    refine (Log_pow P Q G G n _ (HT1.out.up HV8.out) Hg.out (by omega) (gen_el Hg.out).1 (gen_el Hg.out).2 Hn.out).mono ?_
    rw [← Hxn.out]
    rintro e w9 ⟨rfl, hU9⟩
    have HV9 := hid (HV8.out.trans hU9)
    have HI9 := hid (HI8.out.up hU9)
    clear hU9 HI8
    go_wp2_with fail
    refine (contains_any v _ x _ (HI9.out)).mono ?_
    rintro e w10 ⟨rfl, hU10⟩
    have HV10 := hid (HV9.out.trans hU10)
    clear hU10
    rw [HF.out, Hx.out]
    go_wp2
    go_ret
    exact ⟨rfl, HU1.out.trans HV10.out⟩
  have hx' : elB P Q x = false := by simpa using hx
  have Hx := hid hx'
  rw [hx']
  clear hx hx'
  go_wp2_with fail
  refine (gMul_bad P Q G x 1 2 _ hP hQ (HT1.out.up HV5.out) (by simp [chkI, Hg.out, Hx.out]) (by decide)).mono ?_
  rintro e w6 ⟨rfl, hU6⟩
  have HV6 := hid (HV5.out.trans hU6)
  have HI6 := hid (HI5.out.up hU6)
  clear hU6 HI5
  obtain ⟨c0, c1, c2⟩ := HG.out.up HV6.out
  go_wp2_with fail
  refine (gInverse_bad P Q G x 2 _ hP hQ (HT1.out.up HV6.out) (by simp [chkI, Hg.out, Hx.out]) (by decide)).mono ?_
  rintro e w7 ⟨rfl, hU7⟩
  have HV7 := hid (HV6.out.trans hU7)
  have HI7 := hid (HI6.out.up hU7)
  clear hU7 HI6
  obtain ⟨c0, c1, c2⟩ := HG.out.up HV7.out
  go_wp2_with fail
  refine (gPower_bad P Q G x 0 2 _ hP hQ (HT1.out.up HV7.out) (by simp [chkI, Hg.out, Hx.out]) (by decide)).mono ?_
  rintro e w8 ⟨rfl, hU8⟩
  have HV8 := hid (HV7.out.trans hU8)
  have HI8 := hid (HI7.out.up hU8)
  clear hU8 HI7
  obtain ⟨c0, c1, c2⟩ := HG.out.up HV8.out
  go_wp2_with fail
  refine (Log_bad P Q G G x 2 _ hP hQ (HT1.out.up HV8.out) (by simp [chkI, Hg.out, Hx.out]) (by decide)).mono ?_
  rintro e w9 ⟨rfl, hU9⟩
  have HV9 := hid (HV8.out.trans hU9)
  have HI9 := hid (HI8.out.up hU9)
  clear hU9 HI8
  obtain ⟨c0, c1, c2⟩ := HG.out.up HV9.out
  go_wp2_with fail
  refine (contains_any v _ x _ (HI9.out)).mono ?_
  rintro e w10 ⟨rfl, hU10⟩
  have HV10 := hid (HV9.out.trans hU10)
  clear hU10
  rw [HF.out, Hx.out]
  go_wp2
  go_ret
  exact ⟨rfl, HU1.out.trans HV10.out⟩
end Go.Proofs.YtldodbffdegmiaaDoor
