/- PedersenCommits: the walk. -/
import Derived.Test.YtldodbffdegmiaaDoorPedD
namespace Go.Proofs.YtldodbffdegmiaaDoor
open Go.RowKit Go.Sp
set_option maxHeartbeats 2000000
set_option maxRecDepth 20000

theorem PedersenCommits_walk (P Q G A B C c m r : Int) (w : World) (hP : -9223372036854775808 ≤ P) (hQ : Q ≤ 9223372036854775807) (hT : Tab w) :
    Calls Tryd.prog 14 #[bas P Q G A B C, .int .i64 c, .int .i64 m, .int .i64 r] w fun e w' => e = .returned (.bool true) ∧ Up w w' := by
  have HT := hid hT
  have HC := hid (fun w' (hU : Up w w') => Commit_any P Q G A B C m r w' hP hQ (hT.up hU))
  have HS := hid (fun w' (hU : Up w w') => Shift_any P Q G A B C c m r w' hP hQ (hT.up hU))
  have HO := hid (fun w' (hU : Up w w') => Open_any P Q G A B C c m r w' hP hQ (hT.up hU))
  have HB := hid (fun w' (_ : Up w w') => rbValid_any P Q G A B C w' hP hQ)
  obtain ⟨E1, hE1⟩ : ∃ E, givE P Q G A B C [m, r] [] = E := ⟨_, rfl⟩
  obtain ⟨R1, hR1⟩ : ∃ R, comR P Q G A B C m r = R := ⟨_, rfl⟩
  obtain ⟨E2, hE2⟩ : ∃ E, givE P Q G A B C [m, r] [c] = E := ⟨_, rfl⟩
  rw [hE1, hR1] at HC HO
  rw [hE2] at HS
  obtain ⟨R2, hR2⟩ : ∃ R, (if E2 = 0 then c * comV P Q G C m r % P else 0) = R := ⟨_, rfl⟩
  rw [hR2] at HS
  obtain ⟨O, hO⟩ : ∃ O, (E1 == 0 && c == R1) = O := ⟨_, rfl⟩
  rw [hO] at HO
  have HE1 := hid hE1
  have HR1 := hid hR1
  have HE2 := hid hE2
  have HR2 := hid hR2
  have HOo := hid hO
  clear hT hE1 hR1 hE2 hR2 hO
  go_enter Tryd.func14, Tryd.ntmps14
  go_wp2_with fail
  refine (awake15 _ (HT.out.up ((Up.refl w).alloc _))).mono ?_
  rintro e w1 ⟨rfl, hU1⟩
  have HA1 := hid (bas_reads (o := .cells #[.int .i64 P, .int .i64 Q, .int .i64 G, .int .i64 A, .int .i64 B, .int .i64 C] 73) rfl hU1)
  have HU1 := hid (((Up.refl w).alloc _).trans hU1)
  clear hU1
  obtain ⟨⟨c0, c1, c2⟩, c3, c4, c5⟩ := HA1.out
  go_wp2_with fail
  refine (HC.out _ HU1.out).mono ?_
  rintro e w2 ⟨rfl, hU2⟩
  have HA2 := hid (HA1.out.up hU2)
  have HU2 := hid (HU1.out.trans hU2)
  clear hU2 c0 c1 c2 c3 c4 c5 HA1
  obtain ⟨⟨c0, c1, c2⟩, c3, c4, c5⟩ := HA2.out
  go_wp2_with fail
  refine (HS.out _ HU2.out).mono ?_
  rintro e w3 ⟨rfl, hU3⟩
  have HA3 := hid (HA2.out.up hU3)
  have HU3 := hid (HU2.out.trans hU3)
  clear hU3 c0 c1 c2 c3 c4 c5 HA2
  obtain ⟨⟨c0, c1, c2⟩, c3, c4, c5⟩ := HA3.out
  go_wp2_with fail
  refine (HO.out _ HU3.out).mono ?_
  rintro e w4 ⟨rfl, hU4⟩
  have HA4 := hid (HA3.out.up hU4)
  have HU4 := hid (HU3.out.trans hU4)
  clear hU4 c0 c1 c2 c3 c4 c5 HA3
  obtain ⟨⟨c0, c1, c2⟩, c3, c4, c5⟩ := HA4.out
  go_wp2_with fail
  refine (HB.out _ HU4.out).mono ?_
  rintro e w5 ⟨rfl, hU5⟩
  have HA5 := hid (HA4.out.up hU5)
  have HU5 := hid (HU4.out.trans hU5)
  clear hU5 c0 c1 c2 c3 c4 c5 HA4
  obtain ⟨⟨c0, c1, c2⟩, c3, c4, c5⟩ := HA5.out
  by_cases hb : bvB P Q G A B C = true
  case neg =>
    have hb' : bvB P Q G A B C = false := by simpa using hb
    have e1 : E1 = 1 := by rw [← HE1.out, givE, if_neg hb]
    have e2 : E2 = 1 := by rw [← HE2.out, givE, if_neg hb]
    subst e1 e2
    have r1 : R1 = 0 := by rw [← HR1.out, comR, HE1.out]; rfl
    have r2 : R2 = 0 := HR2.out.symm
    have o1 : O = false := HOo.out.symm
    subst r1 r2 o1
    rw [hb']
    clear hb hb'
    go_wp2
    go_ret
    exact ⟨rfl, HU5.out⟩
  have Hb := hid hb
  obtain ⟨hg, _⟩ := bv_iff.1 hb
  have g := gv_iff.1 hg
  have g1 := g.P61
  have g2 := g.P4
  have g3 := g.Q3
  have g4 := g.QP
  have Hg := hid hg
  rw [hb]
  clear hb g hg
  go_wp2_with fail
  refine (rScalar_any P Q G m _).mono ?_
  rintro e w6 ⟨rfl, hU6⟩
  have HA6 := hid (HA5.out.up hU6)
  have HU6 := hid (HU5.out.trans hU6)
  clear hU6 c0 c1 c2 c3 c4 c5 HA5
  obtain ⟨⟨c0, c1, c2⟩, c3, c4, c5⟩ := HA6.out
  by_cases hm : exB Q m = true
  case neg =>
    have hm' : exB Q m = false := by simpa using hm
    have e1 : E1 = 2 := by rw [← HE1.out, givE, if_pos Hb.out, if_neg (by simp [hm'])]
    have e2 : E2 = 2 := by rw [← HE2.out, givE, if_pos Hb.out, if_neg (by simp [hm'])]
    subst e1 e2
    have r1 : R1 = 0 := by rw [← HR1.out, comR, HE1.out]; rfl
    have r2 : R2 = 0 := HR2.out.symm
    have o1 : O = false := HOo.out.symm
    subst r1 r2 o1
    rw [hm']
    clear hm hm'
    go_wp2
    go_ret
    exact ⟨rfl, HU6.out⟩
  have Hm := hid hm
  rw [hm]
  clear hm
  go_wp2_with fail
  refine (rScalar_any P Q G r _).mono ?_
  rintro e w7 ⟨rfl, hU7⟩
  have HA7 := hid (HA6.out.up hU7)
  have HU7 := hid (HU6.out.trans hU7)
  clear hU7 c0 c1 c2 c3 c4 c5 HA6
  obtain ⟨⟨c0, c1, c2⟩, c3, c4, c5⟩ := HA7.out
  by_cases hr : exB Q r = true
  case neg =>
    have hr' : exB Q r = false := by simpa using hr
    have e1 : E1 = 2 := by rw [← HE1.out, givE, if_pos Hb.out, if_neg (by simp [hr'])]
    have e2 : E2 = 2 := by rw [← HE2.out, givE, if_pos Hb.out, if_neg (by simp [hr'])]
    subst e1 e2
    have r1 : R1 = 0 := by rw [← HR1.out, comR, HE1.out]; rfl
    have r2 : R2 = 0 := HR2.out.symm
    have o1 : O = false := HOo.out.symm
    subst r1 r2 o1
    rw [hr']
    clear hr hr'
    go_wp2
    go_ret
    exact ⟨rfl, HU7.out⟩
  have Hr := hid hr
  obtain ⟨m0, m1⟩ := exB_iff.1 Hm.out
  obtain ⟨r0, r1⟩ := exB_iff.1 hr
  rw [hr]
  clear hr
  have e1 : E1 = 0 := by rw [← HE1.out]; exact giv_zero.2 ⟨Hb.out, by simp [Hm.out, Hr.out], by simp⟩
  have hcv : R1 = comV P Q G C m r := by rw [← HR1.out, comR, HE1.out, e1, if_pos rfl]
  have HCV := hid hcv
  have HCE := hid (com_el (m := m) (r := r) Hb.out)
  rw [← hcv] at HCE
  subst e1
  obtain ⟨x0, x1, _⟩ := el_iff.1 HCE.out
  have HOc : Hid (O = (c == R1)) := hid (by rw [← HOo.out]; simp)
  clear hcv
  go_wp2_with fail
  refine (rCommit_ok P Q G A B C m r _ Hb.out (by omega) (by omega) (by omega) (by omega)).mono ?_
  rintro e w8 ⟨rfl, hU8⟩
  rw [← HCV.out]
  have HA8 := hid (HA7.out.up hU8)
  have HU8 := hid (HU7.out.trans hU8)
  clear hU8 c0 c1 c2 c3 c4 c5 HA7
  obtain ⟨⟨c0, c1, c2⟩, c3, c4, c5⟩ := HA8.out
  have fin : ∀ X : Bool, X = (c == R1) → (X == (c == R1)) = true := fun X h => by rw [h]; simp
  by_cases hcr : c = R1
  all_goals
    first
      | (have hO2 : O = true := by rw [HOc.out]; simpa using hcr)
      | (have hO2 : O = false := by rw [HOc.out]; simpa using hcr)
    have dcr : (c == R1) = O := HOc.out.symm
    subst hO2
    clear fin hcr
    go_wp2_with fail
    refine (rMember_any P Q G c _ g1 (by omega) hQ).mono ?_
    rintro e w9 ⟨rfl, hU9⟩
    have HA9 := hid (HA8.out.up hU9)
    have HU9 := hid (HU8.out.trans hU9)
    clear hU9 c0 c1 c2 c3 c4 c5
    obtain ⟨⟨c0, c1, c2⟩, c3, c4, c5⟩ := HA9.out
    by_cases he : elB P Q c = true
    · obtain ⟨y0, y1, _⟩ := el_iff.1 he
      have e2 : E2 = 0 := by rw [← HE2.out]; exact giv_zero.2 ⟨Hb.out, by simp [Hm.out, Hr.out], by simp [he]⟩
      have r2 : R2 = c * R1 % P := by rw [← HR2.out, if_pos e2, ← HCV.out]
      have HR3 := hid r2
      subst e2
      rw [he]
      clear he r2
      go_wp2_with fail
      refine (rgMul_ok P Q G c R1 _ (by omega) y1 (by omega) x1 g1).mono ?_
      rintro e w10 ⟨rfl, hU10⟩
      rw [← HR3.out]
      go_wp2
      go_ret
      exact ⟨rfl, HU9.out.trans hU10⟩
    · have he' : elB P Q c = false := by simpa using he
      have e2 : E2 = 2 := by rw [← HE2.out, givE, if_pos Hb.out, if_neg (by simp [he'])]
      have r2 : R2 = 0 := by rw [← HR2.out, e2]; rfl
      subst e2 r2
      rw [he']
      clear he he'
      go_wp2
      go_ret
      exact ⟨rfl, HU9.out⟩
end Go.Proofs.YtldodbffdegmiaaDoor
