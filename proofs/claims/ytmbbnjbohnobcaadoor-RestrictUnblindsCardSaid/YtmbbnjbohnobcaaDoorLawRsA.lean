/- RestrictKeys: the example of the chapter, and the walk. -/
import Derived.Test.YtmbbnjbohnobcaaDoorResD
namespace Go.Proofs.YtmbbnjbohnobcaaDoor
open Go.RowKit Go.Sp
set_option maxHeartbeats 2000000
set_option maxRecDepth 20000

theorem grp_new {w : World} {r : Nat} {x y z : Int} {t : TypeId} (hr : w.heap.size = r) : GrpAt (w.alloc (.cells #[.int .i64 x, .int .i64 y, .int .i64 z] t)) r x y z := by
  subst hr
  exact ⟨by go_simp, by go_simp, by go_simp⟩

theorem awake25 (w : World) (hT : Tab w) : Calls Tryd.prog 21 #[] w fun e w' => e = .returned (.bool true) ∧ Up w w' := by
  have HT := hid hT
  clear hT
  have H1 := hid (show errE (bvB 23 11 4 2 3 6) (nzB 11 1) = 0 by decide +kernel)
  have H2 := hid (show orZ 0 (pwi 23 4 1) = 4 by decide +kernel)
  have H3 := hid (show orZ 0 (pwi 23 2 1) = 2 by decide +kernel)
  have H4 := hid (show orZ 0 (pwi 23 3 1) = 3 by decide +kernel)
  have H5 := hid (show errE (bvB 23 11 4 2 3 6) (nzB 11 1 && (gnB 23 11 8 && exB 11 0)) = 0 by decide +kernel)
  have H6 := hid (show orZ 0 (pwi 23 8 1) = 8 by decide +kernel)
  have H7 := hid (show orZ 0 (pwi 23 4 0) = 1 by decide +kernel)
  have H8 := hid (show orZ 0 (pwi 23 8 0) = 1 by decide +kernel)
  have H9 := hid (show errE (bvB 23 11 4 2 3 6) (nzB 11 1 && (exB 11 0 && exB 11 7)) = 0 by decide +kernel)
  have H10 := hid (show orZ 0 ((7 * 1 % 11 + 0) % 11) = 7 by decide +kernel)
  go_enter Tryd.func21, Tryd.ntmps21
  go_wp2_with fail
  have HA := hid (bas_reads (o := .cells #[.int .i64 23, .int .i64 11, .int .i64 4, .int .i64 2, .int .i64 3, .int .i64 6] 39) rfl (Up.refl (w.alloc _)))
  refine (resKey_any 23 11 4 2 3 6 1 _ (by omega) (by omega) (HT.out.up ((Up.refl w).alloc _))).mono ?_
  rintro e w1 ⟨rfl, hU1⟩
  rw [H1.out, H2.out, H3.out, H4.out]
  have HA1 := hid (HA.out.up hU1)
  have HU1 := hid (((Up.refl w).alloc _).trans hU1)
  clear hU1 HA
  obtain ⟨⟨c0, c1, c2⟩, c3, c4, c5⟩ := HA1.out
  have hlt := cell_lt c0
  go_wp2_with fail
  refine (resOffer_any 23 11 4 2 3 6 1 8 0 _ (by omega) (by omega) (HT.out.up (HU1.out.alloc _))).mono ?_
  rintro e w2 ⟨rfl, hU2⟩
  rw [H5.out, H6.out, H7.out, H8.out]
  have HA2 := hid ((HA1.out.up ((Up.refl w1).alloc _)).up hU2)
  have HK2 := hid ((grp_new (w := w1) (x := 4) (y := 2) (z := 3) (t := 41) rfl).up hU2)
  have HU2 := hid ((HU1.out.alloc _).trans hU2)
  clear hU2 c0 c1 c2 c3 c4 c5 HA1
  obtain ⟨⟨c0, c1, c2⟩, c3, c4, c5⟩ := HA2.out
  go_wp2_with fail
  refine (resAnswer_any 23 11 4 2 3 6 1 0 7 _ (by omega) (by omega) (HT.out.up HU2.out)).mono ?_
  rintro e w3 ⟨rfl, hU3⟩
  rw [H9.out, H10.out]
  obtain ⟨e0, e1, e2⟩ := HK2.out.up hU3
  clear c0 c1 c2 c3 c4 c5
  go_wp2
  go_ret
  exact ⟨rfl, HU2.out.trans hU3⟩

theorem RestrictKeys_walk (P Q G A B C k1 k2 k3 x m n c : Int) (w : World) (hP : -9223372036854775808 ≤ P) (hQ : Q ≤ 9223372036854775807) (hT : Tab w) :
    Calls Tryd.prog 4 #[bas P Q G A B C, bkey k1 k2 k3, .int .i64 x, .int .i64 m, .int .i64 n, .int .i64 c] w fun e w' => e = .returned (.bool true) ∧ Up w w' := by
  have HT := hid hT
  have HC1 := hid (fun w' (hU : Up w w') => resKey_any P Q G A B C x w' hP hQ (hT.up hU))
  have HC2 := hid (fun w' (hU : Up w w') => resOffer_any P Q G A B C x m n w' hP hQ (hT.up hU))
  have HC3 := hid (fun w' (hU : Up w w') => resAnswer_any P Q G A B C x n c w' hP hQ (hT.up hU))
  have HC4 := hid (fun w' (hU : Up w w') => resValid_any P Q G A B C k1 k2 k3 w' hP hQ (hT.up hU))
  have HC5 := hid (fun w' (_ : Up w w') => r25Valid_any P Q G A B C k1 k2 k3 w' hP hQ)
  obtain ⟨V, hV⟩ : ∃ V, kvB P Q G A B C k1 k2 k3 = V := ⟨_, rfl⟩
  rw [hV] at HC4 HC5
  obtain ⟨E1, hE1⟩ : ∃ E, errE (bvB P Q G A B C) (nzB Q x) = E := ⟨_, rfl⟩
  obtain ⟨E2, hE2⟩ : ∃ E, errE (bvB P Q G A B C) (nzB Q x && (gnB P Q m && exB Q n)) = E := ⟨_, rfl⟩
  obtain ⟨E3, hE3⟩ : ∃ E, errE (bvB P Q G A B C) (nzB Q x && (exB Q n && exB Q c)) = E := ⟨_, rfl⟩
  rw [hE1] at HC1
  rw [hE2] at HC2
  rw [hE3] at HC3
  obtain ⟨X, hX⟩ : ∃ E, orZ E1 (pwi P G x) = E := ⟨_, rfl⟩
  obtain ⟨Y, hY⟩ : ∃ E, orZ E1 (pwi P A x) = E := ⟨_, rfl⟩
  obtain ⟨Z, hZ⟩ : ∃ E, orZ E1 (pwi P B x) = E := ⟨_, rfl⟩
  obtain ⟨X2, hX2⟩ : ∃ E, orZ E2 (pwi P m x) = E := ⟨_, rfl⟩
  obtain ⟨Y2, hY2⟩ : ∃ E, orZ E2 (pwi P G n) = E := ⟨_, rfl⟩
  obtain ⟨Z2, hZ2⟩ : ∃ E, orZ E2 (pwi P m n) = E := ⟨_, rfl⟩
  obtain ⟨X3, hX3⟩ : ∃ E, orZ E3 ((c * x % Q + n) % Q) = E := ⟨_, rfl⟩
  rw [hX, hY, hZ] at HC1
  rw [hX2, hY2, hZ2] at HC2
  rw [hX3] at HC3
  have HE1 := hid hE1
  have HE2 := hid hE2
  have HE3 := hid hE3
  have HX := hid hX
  have HY := hid hY
  have HZ := hid hZ
  have HX2 := hid hX2
  have HY2 := hid hY2
  have HZ2 := hid hZ2
  have HX3 := hid hX3
  clear hT hE1 hE2 hE3 hX hY hZ hX2 hY2 hZ2 hX3 hV
  go_enter Tryd.func4, Tryd.ntmps4
  go_wp2_with fail
  have HA0 := hid (bas_reads (w := w) (o := .cells #[.int .i64 P, .int .i64 Q, .int .i64 G, .int .i64 A, .int .i64 B, .int .i64 C] 39) rfl ((Up.refl (w.alloc _)).alloc (.cells #[.int .i64 k1, .int .i64 k2, .int .i64 k3] 41)))
  have HK0 := hid (three_reads (w := w) (o := .cells #[.int .i64 P, .int .i64 Q, .int .i64 G, .int .i64 A, .int .i64 B, .int .i64 C] 39) (x := k1) (y := k2) (z := k3) (t := 41) (Up.refl _))
  refine (awake25 _ (HT.out.up (((Up.refl w).alloc _).alloc _))).mono ?_
  rintro e w1 ⟨rfl, hU1⟩
  have HA1 := hid (HA0.out.up hU1)
  have HK1 := hid (HK0.out.up hU1)
  have HU1 := hid ((((Up.refl w).alloc _).alloc _).trans hU1)
  clear hU1 HA0 HK0
  obtain ⟨⟨c0, c1, c2⟩, c3, c4, c5⟩ := HA1.out
  go_wp2_with fail
  refine (HC1.out _ HU1.out).mono ?_
  rintro e w2 ⟨rfl, hU2⟩
  have HA2 := hid (HA1.out.up hU2)
  have HK2 := hid (HK1.out.up hU2)
  have HU2 := hid (HU1.out.trans hU2)
  clear hU2 c0 c1 c2 c3 c4 c5 HA1 HK1
  obtain ⟨⟨c0, c1, c2⟩, c3, c4, c5⟩ := HA2.out
  have hlt := cell_lt c0
  go_wp2_with fail
  refine (HC2.out _ (HU2.out.alloc _)).mono ?_
  rintro e w3 ⟨rfl, hU3⟩
  have HA3 := hid ((HA2.out.up ((Up.refl w2).alloc _)).up hU3)
  have HK3 := hid ((HK2.out.up ((Up.refl w2).alloc _)).up hU3)
  obtain ⟨r, hr⟩ : ∃ r, w2.heap.size = r := ⟨_, rfl⟩
  have HR3 := hid ((grp_new (w := w2) (x := X) (y := Y) (z := Z) (t := 41) hr).up hU3)
  have HU3 := hid ((HU2.out.alloc _).trans hU3)
  rw [hr]
  clear hU3 c0 c1 c2 c3 c4 c5 HA2 HK2 hr hlt
  obtain ⟨⟨c0, c1, c2⟩, c3, c4, c5⟩ := HA3.out
  obtain ⟨d0, d1, d2⟩ := HR3.out
  go_wp2_with fail
  refine (HC3.out _ HU3.out).mono ?_
  rintro e w4 ⟨rfl, hU4⟩
  have HA4 := hid (HA3.out.up hU4)
  have HK4 := hid (HK3.out.up hU4)
  have HR4 := hid (HR3.out.up hU4)
  have HU4 := hid (HU3.out.trans hU4)
  clear hU4 c0 c1 c2 c3 c4 c5 d0 d1 d2 HA3 HK3 HR3
  obtain ⟨⟨c0, c1, c2⟩, c3, c4, c5⟩ := HA4.out
  obtain ⟨d0, d1, d2⟩ := HR4.out
  obtain ⟨e0, e1, e2⟩ := HK4.out
  have f0 := cellF c0
  have f1 := cellF c1
  have f2 := cellF c2
  have f3 := cellF c3
  have f4 := cellF c4
  have f5 := cellF c5
  have f6 := cellF e0
  have f7 := cellF e1
  have f8 := cellF e2
  clear c0 c1 c2 c3 c4 c5 d0 d1 d2 e0 e1 e2
  go_wp2_with fail
  refine wp_region_up (by kernel_rfl) (by kernel_rfl) ?_
  repeat (go_big_quiet_step ((first
    | (go_at_call 25; exact Calls.up_of (HC4.out _ (HU4.out.trans (UpFrom.up _))))
    | (go_at_call 26; exact Calls.up_of (HC5.out _ (HU4.out.trans (UpFrom.up _)))))))
  refine wpQuiet_nil ?_
  rintro _ ⟨p, rfl⟩
  obtain ⟨w5, hw5⟩ : ∃ w5, p.w' = w5 := ⟨_, rfl⟩
  have hU5 := p.up
  rw [hw5] at hU5 ⊢
  have HA5 := hid (HA4.out.up hU5)
  have HR5 := hid (HR4.out.up hU5)
  have HU5 := hid (HU4.out.trans hU5)
  clear hU5 f0 f1 f2 f3 f4 f5 f6 f7 f8 hw5 HA4 HR4 HK4
  obtain ⟨⟨c0, c1, c2⟩, c3, c4, c5⟩ := HA5.out
  obtain ⟨d0, d1, d2⟩ := HR5.out
  go_wp2_with fail
  refine (rbValid_any P Q G A B C _ hP hQ).mono ?_
  rintro e w6 ⟨rfl, hU6⟩
  have HA6 := hid (HA5.out.up hU6)
  have HR6 := hid (HR5.out.up hU6)
  have HU6 := hid (HU5.out.trans hU6)
  clear hU6 c0 c1 c2 c3 c4 c5 d0 d1 d2 HA5 HR5
  obtain ⟨⟨c0, c1, c2⟩, c3, c4, c5⟩ := HA6.out
  obtain ⟨d0, d1, d2⟩ := HR6.out
  by_cases hb : bvB P Q G A B C = true
  case neg =>
    have hb' : bvB P Q G A B C = false := by simpa using hb
    have Hb := hid hb'
    rw [hb']
    clear hb hb'
    have a1 : E1 = 1 := by rw [← HE1.out, Hb.out]; rfl
    have a2 : E2 = 1 := by rw [← HE2.out, Hb.out]; rfl
    have a3 : E3 = 1 := by rw [← HE3.out, Hb.out]; rfl
    subst a1 a2 a3
    have b1 : X = 0 := HX.out.symm
    have b2 : Y = 0 := HY.out.symm
    have b3 : Z = 0 := HZ.out.symm
    have b4 : X2 = 0 := HX2.out.symm
    have b5 : Y2 = 0 := HY2.out.symm
    have b6 : Z2 = 0 := HZ2.out.symm
    have b7 : X3 = 0 := HX3.out.symm
    subst b1 b2 b3 b4 b5 b6 b7
    go_wp2
    go_ret
    exact ⟨rfl, HU6.out⟩
  have Hb := hid hb
  have g := gv_iff.1 (bv_iff.1 hb).1
  have g1 := g.P61
  have g3 := g.Q3
  rw [hb]
  clear hb g
  go_wp2_with fail
  refine (r25Secret_any P Q G x _).mono ?_
  rintro e w7 ⟨rfl, hU7⟩
  have HA7 := hid (HA6.out.up hU7)
  have HR7 := hid (HR6.out.up hU7)
  have HU7 := hid (HU6.out.trans hU7)
  clear hU7 c0 c1 c2 c3 c4 c5 d0 d1 d2 HA6 HR6
  obtain ⟨⟨c0, c1, c2⟩, c3, c4, c5⟩ := HA7.out
  obtain ⟨d0, d1, d2⟩ := HR7.out
  by_cases hx : nzB Q x = true
  case neg =>
    have hx' : nzB Q x = false := by simpa using hx
    have Hx := hid hx'
    rw [hx']
    clear hx hx'
    have a1 : E1 = 2 := by rw [← HE1.out, Hb.out, Hx.out]; rfl
    have a2 : E2 = 2 := by rw [← HE2.out, Hb.out, Hx.out]; rfl
    have a3 : E3 = 2 := by rw [← HE3.out, Hb.out, Hx.out]; rfl
    subst a1 a2 a3
    have b1 : X = 0 := HX.out.symm
    have b2 : Y = 0 := HY.out.symm
    have b3 : Z = 0 := HZ.out.symm
    have b4 : X2 = 0 := HX2.out.symm
    have b5 : Y2 = 0 := HY2.out.symm
    have b6 : Z2 = 0 := HZ2.out.symm
    have b7 : X3 = 0 := HX3.out.symm
    subst b1 b2 b3 b4 b5 b6 b7
    go_wp2
    go_ret
    exact ⟨rfl, HU7.out⟩
  have Hx := hid hx
  rw [hx]
  clear hx
  have a1 : E1 = 0 := by rw [← HE1.out, Hb.out, Hx.out]; rfl
  subst a1
  have HC6 := hid (fun w' => r25Key_ok P Q G A B C x w' Hb.out Hx.out)
  rw [show pwi P G x = X from HX.out, show pwi P A x = Y from HY.out, show pwi P B x = Z from HZ.out] at HC6
  have f0 := cellF c0
  have f1 := cellF c1
  have f2 := cellF c2
  have f3 := cellF c3
  have f4 := cellF c4
  have f5 := cellF c5
  have f6 := cellF d0
  have f7 := cellF d1
  have f8 := cellF d2
  clear c0 c1 c2 c3 c4 c5 d0 d1 d2
  go_wp2_with fail
  refine wp_region_up (by kernel_rfl) (by kernel_rfl) ?_
  repeat (go_big_quiet_step ((first
    | (go_at_call 29; exact Calls.up_of (HC6.out _)))))
  refine wpQuiet_nil ?_
  rintro _ ⟨p, rfl⟩
  obtain ⟨w8, hw8⟩ : ∃ w8, p.w' = w8 := ⟨_, rfl⟩
  have hU8 := p.up
  rw [hw8] at hU8 ⊢
  have HA8 := hid (HA7.out.up hU8)
  have HU8 := hid (HU7.out.trans hU8)
  clear hU8 f0 f1 f2 f3 f4 f5 f6 f7 f8 hw8 HA7 HR7
  obtain ⟨⟨c0, c1, c2⟩, c3, c4, c5⟩ := HA8.out
  go_wp2_with fail
  refine (r25Scalar_any P Q G n _).mono ?_
  rintro e w9 ⟨rfl, hU9⟩
  have HA9 := hid (HA8.out.up hU9)
  have HU9 := hid (HU8.out.trans hU9)
  clear hU9 c0 c1 c2 c3 c4 c5 HA8
  obtain ⟨⟨c0, c1, c2⟩, c3, c4, c5⟩ := HA9.out
  by_cases hn : exB Q n = true
  case neg =>
    have hn' : exB Q n = false := by simpa using hn
    have Hn := hid hn'
    rw [hn']
    clear hn hn'
    have a2 : E2 = 2 := by
      rw [← HE2.out, Hb.out, Hx.out, Hn.out, Bool.and_false]; rfl
    have a3 : E3 = 2 := by rw [← HE3.out, Hb.out, Hx.out, Hn.out]; rfl
    subst a2 a3
    have b4 : X2 = 0 := HX2.out.symm
    have b5 : Y2 = 0 := HY2.out.symm
    have b6 : Z2 = 0 := HZ2.out.symm
    have b7 : X3 = 0 := HX3.out.symm
    subst b4 b5 b6 b7
    go_wp2_with fail
    refine (r25Scalar_any P Q G n _).mono ?_
    rintro e w10 ⟨rfl, hU10⟩
    rw [Hn.out]
    go_wp2
    go_ret
    exact ⟨rfl, HU9.out.trans hU10⟩
  have Hn := hid hn
  rw [hn]
  clear hn
  go_wp2_with fail
  refine (r25Message_any P Q G m _ g1 (by omega) hQ).mono ?_
  rintro e w10 ⟨rfl, hU10⟩
  have HA10 := hid (HA9.out.up hU10)
  have HU10 := hid (HU9.out.trans hU10)
  clear hU10 c0 c1 c2 c3 c4 c5 HA9
  obtain ⟨⟨c0, c1, c2⟩, c3, c4, c5⟩ := HA10.out
  by_cases hm : gnB P Q m = true
  case neg =>
    have hm' : gnB P Q m = false := by simpa using hm
    have Hm := hid hm'
    rw [hm']
    clear hm hm'
    have a2 : E2 = 2 := by rw [← HE2.out, Hb.out, Hx.out, Hm.out]; rfl
    subst a2
    have b4 : X2 = 0 := HX2.out.symm
    have b5 : Y2 = 0 := HY2.out.symm
    have b6 : Z2 = 0 := HZ2.out.symm
    subst b4 b5 b6
    go_wp2_with fail
    refine (r25Scalar_any P Q G n _).mono ?_
    rintro e w11 ⟨rfl, hU11⟩
    rw [Hn.out]
    have HA11 := hid (HA10.out.up hU11)
    have HU11 := hid (HU10.out.trans hU11)
    clear hU11 c0 c1 c2 c3 c4 c5 HA10
    obtain ⟨⟨c0, c1, c2⟩, c3, c4, c5⟩ := HA11.out
    go_wp2_with fail
    refine (r25Scalar_any P Q G c _).mono ?_
    rintro e w12 ⟨rfl, hU12⟩
    have HA12 := hid (HA11.out.up hU12)
    have HU12 := hid (HU11.out.trans hU12)
    clear hU12 c0 c1 c2 c3 c4 c5 HA11
    obtain ⟨⟨c0, c1, c2⟩, c3, c4, c5⟩ := HA12.out
    by_cases hc : exB Q c = true
    case neg =>
      have hc' : exB Q c = false := by simpa using hc
      have Hc := hid hc'
      rw [hc']
      clear hc hc'
      have a3 : E3 = 2 := by rw [← HE3.out, Hb.out, Hx.out, Hn.out, Hc.out]; rfl
      subst a3
      have b7 : X3 = 0 := HX3.out.symm
      subst b7
      go_wp2
      go_ret
      exact ⟨rfl, HU12.out⟩
    have Hc := hid hc
    rw [hc]
    clear hc
    have a3 : E3 = 0 := by rw [← HE3.out, Hb.out, Hx.out, Hn.out, Hc.out]; rfl
    subst a3
    have HC8 := hid (fun w' => r25Answer_ok P Q G A B C x n c w' Hb.out Hx.out Hn.out Hc.out)
    rw [show (c * x % Q + n) % Q = X3 from HX3.out] at HC8
    go_wp2_with fail
    refine (HC8.out _).mono ?_
    rintro e w13 ⟨rfl, hU13⟩
    go_wp2
    go_ret
    exact ⟨rfl, HU12.out.trans hU13⟩
  have Hm := hid hm
  rw [hm]
  clear hm
  have a2 : E2 = 0 := by rw [← HE2.out, Hb.out, Hx.out, Hm.out, Hn.out]; rfl
  subst a2
  have HC7 := hid (fun w' => r25Offer_ok P Q G A B C x m n w' Hb.out Hx.out Hm.out Hn.out)
  rw [show pwi P m x = X2 from HX2.out, show pwi P G n = Y2 from HY2.out, show pwi P m n = Z2 from HZ2.out] at HC7
  go_wp2_with fail
  refine (HC7.out _).mono ?_
  rintro e w11 ⟨rfl, hU11⟩
  have HA11 := hid (HA10.out.up hU11)
  have HU11 := hid (HU10.out.trans hU11)
  clear hU11 c0 c1 c2 c3 c4 c5 HA10
  obtain ⟨⟨c0, c1, c2⟩, c3, c4, c5⟩ := HA11.out
  go_wp2_with fail
  refine (r25Scalar_any P Q G n _).mono ?_
  rintro e w12 ⟨rfl, hU12⟩
  rw [Hn.out]
  have HA12 := hid (HA11.out.up hU12)
  have HU12 := hid (HU11.out.trans hU12)
  clear hU12 c0 c1 c2 c3 c4 c5 HA11
  obtain ⟨⟨c0, c1, c2⟩, c3, c4, c5⟩ := HA12.out
  go_wp2_with fail
  refine (r25Scalar_any P Q G c _).mono ?_
  rintro e w13 ⟨rfl, hU13⟩
  have HA13 := hid (HA12.out.up hU13)
  have HU13 := hid (HU12.out.trans hU13)
  clear hU13 c0 c1 c2 c3 c4 c5 HA12
  obtain ⟨⟨c0, c1, c2⟩, c3, c4, c5⟩ := HA13.out
  by_cases hc : exB Q c = true
  case neg =>
    have hc' : exB Q c = false := by simpa using hc
    have Hc := hid hc'
    rw [hc']
    clear hc hc'
    have a3 : E3 = 2 := by rw [← HE3.out, Hb.out, Hx.out, Hn.out, Hc.out]; rfl
    subst a3
    have b7 : X3 = 0 := HX3.out.symm
    subst b7
    go_wp2
    go_ret
    exact ⟨rfl, HU13.out⟩
  have Hc := hid hc
  rw [hc]
  clear hc
  have a3 : E3 = 0 := by rw [← HE3.out, Hb.out, Hx.out, Hn.out, Hc.out]; rfl
  subst a3
  have HC8 := hid (fun w' => r25Answer_ok P Q G A B C x n c w' Hb.out Hx.out Hn.out Hc.out)
  rw [show (c * x % Q + n) % Q = X3 from HX3.out] at HC8
  go_wp2_with fail
  refine (HC8.out _).mono ?_
  rintro e w14 ⟨rfl, hU14⟩
  go_wp2
  go_ret
  exact ⟨rfl, HU13.out.trans hU14⟩
end Go.Proofs.YtmbbnjbohnobcaaDoor
