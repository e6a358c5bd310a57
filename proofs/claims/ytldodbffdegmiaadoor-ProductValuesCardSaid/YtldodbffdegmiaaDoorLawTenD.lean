/- GroupLists: the walk. -/
import Derived.Test.YtldodbffdegmiaaDoorLawTenA
import Derived.Test.YtldodbffdegmiaaDoorElemAll
import Derived.Test.YtldodbffdegmiaaDoorFastP
import Derived.Test.YtldodbffdegmiaaDoorIsSorted
namespace Go.Proofs.YtldodbffdegmiaaDoor
open Go.RowKit Go.Sp
set_option maxHeartbeats 1000000
set_option maxRecDepth 20000

theorem Elements_arg (P Q G : Int) (w : World) (hP : -9223372036854775808 ≤ P) (hQ : Q ≤ 9223372036854775807) (hT : Tab w) (hg : gvB P Q G = false) :
    Calls Tryd.prog 31 #[grp P Q G] w fun e w' => e = .returned (.tuple #[.slice none 0 0, .int .i64 1]) ∧ Up w w' := by
  have HT := hid hT
  have HG := hid hg
  clear hT hg
  go_enter Tryd.func31, Tryd.ntmps31
  go_wp2_with fail
  refine (Valid_any P Q G _ hP hQ (HT.out.up ((Up.refl w).alloc _))).mono ?_
  rintro e w1 ⟨rfl, hU1⟩
  rw [HG.out]
  go_wp2
  go_ret2
  exact ⟨rfl, ((Up.refl w).alloc _).trans hU1⟩

theorem Elements_big (P Q G : Int) (w : World) (hT : Tab w) (hg : gvB P Q G = true) (hQ : 1000 < Q) :
    Calls Tryd.prog 31 #[grp P Q G] w fun e w' => e = .returned (.tuple #[.slice none 0 0, .int .i64 9]) ∧ Up w w' := by
  have HT := hid hT
  have g := gv_iff.1 hg
  have g1 := g.P61
  have g2 := g.P4
  have g4 := g.QP
  have HG := hid hg
  have hd : decide (1000 < Q) = true := by simpa using hQ
  clear hT hg g
  go_enter Tryd.func31, Tryd.ntmps31
  go_wp2_with fail
  refine (Valid_any P Q G _ (by omega) (by omega) (HT.out.up ((Up.refl w).alloc _))).mono ?_
  rintro e w1 ⟨rfl, hU1⟩
  rw [HG.out]
  have HGA := hid (box_reads rfl hU1)
  obtain ⟨c0, c1, c2⟩ := HGA.out
  go_wp2
  go_ret2
  exact ⟨rfl, ((Up.refl w).alloc _).trans hU1⟩

theorem GroupLists_walk (P Q G : Int) (w : World) (hP : -9223372036854775808 ≤ P) (hQ : Q ≤ 9223372036854775807) (hT : Tab w) :
    Calls Tryd.prog 6 #[grp P Q G] w fun e w' => e = .returned (.bool true) ∧ Up w w' := by
  have HT := hid hT
  clear hT
  go_enter Tryd.func6, Tryd.ntmps6
  go_wp2_with fail
  refine (awake10 _ (HT.out.up ((Up.refl w).alloc _))).mono ?_
  rintro e w1 ⟨rfl, hU1⟩
  have HG := hid (box_reads rfl hU1)
  have HU1 := hid (((Up.refl w).alloc _).trans hU1)
  have HT1 := hid (HT.out.up HU1.out)
  clear hU1
  obtain ⟨c0, c1, c2⟩ := HG.out
  go_wp2_with fail
  by_cases hg : gvB P Q G = true
  case neg =>
    have hg' : gvB P Q G = false := by simpa using hg
    have Hg := hid hg'
    clear hg hg'
    refine (Elements_arg P Q G _ hP hQ (HT1.out.up (Up.refl w1)) Hg.out).mono ?_
    rintro e w2 ⟨rfl, hU2⟩
    have HV2 := hid ((Up.refl w1).trans hU2)
    clear hU2
    obtain ⟨c0, c1, c2⟩ := HG.out.up HV2.out
    go_wp2_with fail
    refine (Samples_ok _).mono ?_
    rintro e w3 ⟨s1, rfl, hs1, hU3⟩
    have Hs1 := hid hs1
    have HV3 := hid (HV2.out.trans hU3)
    clear hs1
    clear hU3
    obtain ⟨c0, c1, c2⟩ := HG.out.up HV3.out
    go_wp2_with fail
    refine (rSamples_ok _).mono ?_
    rintro e w4 ⟨s2, rfl, hs2, hU4⟩
    have Hs2 := hid hs2
    have HV4 := hid (HV3.out.trans hU4)
    clear hs2
    have Hs1b := hid (Hs1.out.up hU4)
    clear hU4
    obtain ⟨c0, c1, c2⟩ := HG.out.up HV4.out
    go_wp2_with fail
    refine (eqGroups s1 s2 nine _ Hs1b.out Hs2.out).mono ?_
    rintro e w5 ⟨rfl, hU5⟩
    have HV5 := hid (HV4.out.trans hU5)
    clear hU5
    obtain ⟨c0, c1, c2⟩ := HG.out.up HV5.out
    go_wp2_with fail
    refine (Samples_ok _).mono ?_
    rintro e w6 ⟨s3, rfl, hs3, hU6⟩
    have Hs3 := hid hs3
    have HV6 := hid (HV5.out.trans hU6)
    clear hs3 hU6
    obtain ⟨c0, c1, c2⟩ := HG.out.up HV6.out
    go_wp2_with fail
    refine (anyGroups s3 nine _ Hs3.out nine_good).mono ?_
    rintro e w7 ⟨rfl, hU7⟩
    have HV7 := hid (HV6.out.trans hU7)
    clear hU7
    obtain ⟨c0, c1, c2⟩ := HG.out.up HV7.out
    go_wp2_with fail
    refine (rValid_any P Q G _ hP hQ).mono ?_
    rintro e w8 ⟨rfl, hU8⟩
    have HV8 := hid (HV7.out.trans hU8)
    clear hU8
    rw [Hg.out]
    go_wp2
    go_ret
    exact ⟨rfl, HU1.out.trans HV8.out⟩
  have g := gv_iff.1 hg
  have g1 := g.P61
  have g2 := g.P4
  have g3 := g.Q3
  have g4 := g.QP
  have Hg := hid hg
  clear hg g
  by_cases hb : 1000 < Q
  case pos =>
    have hd : decide (1000 < Q) = true := by simpa using hb
    have hd2 : decide (Q > 1000) = true := by simpa using hb
    refine (Elements_big P Q G _ (HT1.out.up (Up.refl w1)) Hg.out hb).mono ?_
    rintro e w2 ⟨rfl, hU2⟩
    have HV2 := hid ((Up.refl w1).trans hU2)
    clear hU2
    obtain ⟨c0, c1, c2⟩ := HG.out.up HV2.out
    go_wp2_with fail
    refine (Samples_ok _).mono ?_
    rintro e w3 ⟨s1, rfl, hs1, hU3⟩
    have Hs1 := hid hs1
    have HV3 := hid (HV2.out.trans hU3)
    clear hs1
    clear hU3
    obtain ⟨c0, c1, c2⟩ := HG.out.up HV3.out
    go_wp2_with fail
    refine (rSamples_ok _).mono ?_
    rintro e w4 ⟨s2, rfl, hs2, hU4⟩
    have Hs2 := hid hs2
    have HV4 := hid (HV3.out.trans hU4)
    clear hs2
    have Hs1b := hid (Hs1.out.up hU4)
    clear hU4
    obtain ⟨c0, c1, c2⟩ := HG.out.up HV4.out
    go_wp2_with fail
    refine (eqGroups s1 s2 nine _ Hs1b.out Hs2.out).mono ?_
    rintro e w5 ⟨rfl, hU5⟩
    have HV5 := hid (HV4.out.trans hU5)
    clear hU5
    obtain ⟨c0, c1, c2⟩ := HG.out.up HV5.out
    go_wp2_with fail
    refine (Samples_ok _).mono ?_
    rintro e w6 ⟨s3, rfl, hs3, hU6⟩
    have Hs3 := hid hs3
    have HV6 := hid (HV5.out.trans hU6)
    clear hs3 hU6
    obtain ⟨c0, c1, c2⟩ := HG.out.up HV6.out
    go_wp2_with fail
    refine (anyGroups s3 nine _ Hs3.out nine_good).mono ?_
    rintro e w7 ⟨rfl, hU7⟩
    have HV7 := hid (HV6.out.trans hU7)
    clear hU7
    obtain ⟨c0, c1, c2⟩ := HG.out.up HV7.out
    go_wp2_with fail
    refine (rValid_any P Q G _ hP hQ).mono ?_
    rintro e w8 ⟨rfl, hU8⟩
    have HV8 := hid (HV7.out.trans hU8)
    clear hU8
    obtain ⟨c0, c1, c2⟩ := HG.out.up HV8.out
    rw [Hg.out]
    go_wp2
    go_ret
    exact ⟨rfl, HU1.out.trans HV8.out⟩
  have hd : decide (1000 < Q) = false := by simp; omega
  have hd2 : decide (Q > 1000) = false := by simp; omega
  refine (Elements_ok P Q G _ (HT1.out.up (Up.refl w1)) Hg.out (by omega)).mono ?_
  rintro e w2 ⟨v, rfl, hO, hU2⟩
  obtain ⟨p, cap, hv⟩ := hO.shape
  have hlen : (isort (powList P G Q.toNat)).length = Q.toNat := by rw [isort_length]; simp [powList]
  have Hlen := hid hlen
  rw [hlen] at hv
  obtain ⟨q, rfl⟩ : ∃ q : Nat, Q = q := ⟨Q.toNat, by omega⟩
  rw [Int.toNat_natCast] at hv
  subst hv
  have HO := hid hO.ints
  have HV2 := hid ((Up.refl w1).trans hU2)
  clear hO hU2 hlen
  obtain ⟨c0, c1, c2⟩ := HG.out.up HV2.out
  go_wp2_with fail
  have HGb := hid (HG.out.up HV2.out)
  have HTb := hid (HT1.out.up HV2.out)
  have HB := hid (HU1.out.trans HV2.out)
  clear HG HT1 HU1 HV2
  refine (Samples_ok _).mono ?_
  rintro e w3 ⟨s1, rfl, hs1, hU3⟩
  have Hs1 := hid hs1
  have HV3 := hid ((Up.refl w2).trans hU3)
  clear hs1
  clear hU3
  obtain ⟨c0, c1, c2⟩ := HGb.out.up HV3.out
  go_wp2_with fail
  refine (rSamples_ok _).mono ?_
  rintro e w4 ⟨s2, rfl, hs2, hU4⟩
  have Hs2 := hid hs2
  have HV4 := hid (HV3.out.trans hU4)
  clear hs2
  have Hs1b := hid (Hs1.out.up hU4)
  clear hU4
  obtain ⟨c0, c1, c2⟩ := HGb.out.up HV4.out
  go_wp2_with fail
  refine (eqGroups s1 s2 nine _ Hs1b.out Hs2.out).mono ?_
  rintro e w5 ⟨rfl, hU5⟩
  have HV5 := hid (HV4.out.trans hU5)
  clear hU5
  obtain ⟨c0, c1, c2⟩ := HGb.out.up HV5.out
  go_wp2_with fail
  refine (Samples_ok _).mono ?_
  rintro e w6 ⟨s3, rfl, hs3, hU6⟩
  have Hs3 := hid hs3
  have HV6 := hid (HV5.out.trans hU6)
  clear hs3 hU6
  obtain ⟨c0, c1, c2⟩ := HGb.out.up HV6.out
  go_wp2_with fail
  refine (anyGroups s3 nine _ Hs3.out nine_good).mono ?_
  rintro e w7 ⟨rfl, hU7⟩
  have HV7 := hid (HV6.out.trans hU7)
  clear hU7
  obtain ⟨c0, c1, c2⟩ := HGb.out.up HV7.out
  go_wp2_with fail
  refine (rValid_any P q G _ hP hQ).mono ?_
  rintro e w8 ⟨rfl, hU8⟩
  have HV8 := hid (HV7.out.trans hU8)
  clear hU8
  obtain ⟨c0, c1, c2⟩ := HGb.out.up HV8.out
  rw [Hg.out]
  by_cases hp : P > 65536
  case pos =>
    have hd3 : decide (P > 65536) = true := by simpa using hp
    have hd4 : decide (65536 < P) = true := by simpa using hp
    go_wp2_with fail
    refine (sorted_ok _ _ _ (HO.out.up HV8.out) (isort_sorted _)).mono ?_
    rintro e w9 ⟨rfl, hU9⟩
    have HV9 := hid (HV8.out.trans hU9)
    clear hU9
    go_wp2
    go_ret
    exact ⟨rfl, HB.out.trans HV9.out⟩
  have hd3 : decide (P > 65536) = false := by simp; omega
  have hd4 : decide (65536 < P) = false := by simp; omega
  have Heq := hid (found_eq Hg.out (show P < 1048576 by omega) (gen_el Hg.out).1 (gen_el Hg.out).2)
  have Hcnt := hid (found_count Hg.out (show P < 1048576 by omega))
  go_wp2_with fail
  refine (refElements_ok P q G _ (by omega) (by omega) (by omega) hQ Hcnt.out).mono ?_
  rintro e w9 ⟨v2, rfl, hO2, hU9⟩
  have HV9 := hid (HV8.out.trans hU9)
  have HO2 := hid hO2.ints
  have HO1 := hid (HO.out.up HV9.out)
  rw [Heq.out] at HO1
  clear hO2 hU9
  go_wp2_with fail
  refine (equal_any _ _ _ _ _ HO1.out HO2.out).mono ?_
  rintro e w10 ⟨rfl, hU10⟩
  have HV10 := hid (HV9.out.trans hU10)
  clear hU10
  have hself : (found P q (P - 1).toNat == found P q (P - 1).toNat) = true := by simp
  rw [hself]
  go_wp2
  go_ret
  exact ⟨rfl, HB.out.trans HV10.out⟩

end Go.Proofs.YtldodbffdegmiaaDoor
